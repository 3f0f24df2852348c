/-
 Several texts in one: Items that stand in a list, and what lies behind one (plain law of layer 25). No program is named here. The reading of layer 25 as plain functions on plain data. No program is named here. The telling of layer 25, as the program does it and as the reference does, and the plain laws. No program is named here. The headers and the structure of layer 25 (plain law). No program is named here. The parts of an envelope's list, as the list behind its two first items gives them (plain law of layer 25). No program is named here.
-/
import Derived.Test.YtddiabaagpmkgaaDoorCE
/-! Items that stand in a list, and what lies behind one (plain law of layer 25). No program is named here. -/
namespace Go.Px.E7
def left2 (a : Atom) (left : List Nat) : List Nat := if leaf a then dec left else count a :: dec left
theorem behind_cons {a : Atom} {r : List Atom} {left : List Nat} {most i : Nat} (h : ((a.kind == 4 || a.kind == 5) && decide (5000 < a.num)) = false) :
  behind (a :: r) left most i = if (pops (left2 a left)).isEmpty then (some (i + 1), max most (left2 a left).length) else behind r (pops (left2 a left)) (max most (left2 a left).length) (i + 1) := by
 rw [behind, if_neg (by rw [h]; decide)]
 rfl
/-- What comes behind one that has ended. -/
def aft (left : List Nat) (r : List Atom) (most i : Nat) : Option Nat × Nat := if (pops left).isEmpty then (some i, most) else behind r (pops left) most i
theorem aft_zero (left : List Nat) (r : List Atom) (most i : Nat) : aft (0 :: left) r most i = aft left r most i := by
 unfold aft
 rw [pops, if_pos rfl]
theorem aft_live (n : Nat) (left : List Nat) (r : List Atom) (most i : Nat) : aft ((n + 1) :: left) r most i = behind r ((n + 1) :: left) most i := by
 unfold aft
 rw [pops, if_neg (Nat.succ_ne_zero n)]
 rfl
def BehIt (d : Nat) : Prop := ∀ x o, ItF d x o → x.length ≤ 4096 → ∀ (left : List Nat) (r : List Atom) (most i : Nat), ∃ m1, behind (x ++ r) left most i = aft (dec left) r m1 (i + x.length)
theorem beh_kids {d : Nat} (ih : BehIt d) {mp : Bool} : ∀ (m k : Nat) (last : Bytes) (x : List Atom) (o : Bool), Kids (ItF d) mp m k last x o → x.length ≤ 4096 → ∀ (left : List Nat) (r : List Atom) (most i : Nat), ∃ m1, aft (m :: left) (x ++ r) most i = aft left r m1 (i + x.length)
 | 0, k, last, x, o, h, hl, left, r, most, i => by
  obtain ⟨rfl, _⟩ := h
  exact ⟨most, by rw [aft_zero]; rfl⟩
 | m + 1, k, last, x, o, h, hl, left, r, most, i => by
  obtain ⟨x1, y, o1, o2, rfl, h1, h2, _⟩ := h
  rw [List.length_append] at hl
  obtain ⟨m1, e1⟩ := ih x1 o1 h1 (by omega) ((m + 1) :: left) (y ++ r) most i
  obtain ⟨m2, e2⟩ := beh_kids ih m (k + 1) _ y o2 h2 (by omega) left r m1 (i + x1.length)
  refine ⟨m2, ?_⟩
  rw [aft_live, List.append_assoc, e1]
  show aft (m :: left) (y ++ r) m1 (i + x1.length) = _
  rw [e2, List.length_append, Nat.add_assoc]
theorem leaf_small {a : Atom} (h : leaf a = true) : ((a.kind == 4 || a.kind == 5) && decide (5000 < a.num)) = false := small_leaf h
theorem node_small {a : Atom} (_ : leaf a = false) (hc : count a ≤ 4096) : ((a.kind == 4 || a.kind == 5) && decide (5000 < a.num)) = false := by
 unfold count at hc
 by_cases h4 : a.kind = 4
 ·rw [if_pos (by simp [h4])] at hc
  simp; intro; omega
 ·rw [if_neg (by simp [h4])] at hc
  by_cases h5 : a.kind = 5
  ·rw [if_pos (by simp [h5])] at hc
   simp; intro; omega
  ·simp [h4, h5]
theorem beh_it : ∀ d, BehIt d
 | 0 => by
  intro x o h hl left r most i
  obtain ⟨a, rfl, _, h2, _⟩ := h
  refine ⟨max most (dec left).length, ?_⟩
  rw [List.singleton_append, behind_cons (leaf_small h2)]
  unfold left2
  rw [if_pos h2]
  rfl
 | d + 1 => by
  intro x o h hl left r most i
  rcases h with ⟨a, rfl, _, h2, _⟩ | ⟨a, r', rfl, _, h2, hk⟩
  ·refine ⟨max most (dec left).length, ?_⟩
   rw [List.singleton_append, behind_cons (leaf_small h2)]
   unfold left2
   rw [if_pos h2]
   rfl
  ·rw [List.length_cons] at hl
   have hc := Kids.le (fun _ _ h => ItF.pos h) hk
   rw [List.cons_append, behind_cons (node_small h2 (by omega))]
   have e1 : left2 a left = count a :: dec left := by unfold left2; rw [if_neg (by rw [h2]; decide)]
   rw [e1]
   obtain ⟨m1, e⟩ := beh_kids (beh_it d) (count a) 0 [] r' o hk (by omega) (dec left) r (max most (count a :: dec left).length) (i + 1)
   unfold aft at e
   rw [e]
   exact ⟨m1, by rw [List.length_cons, Nat.add_assoc, Nat.add_comm 1]; rfl⟩
/-- An item stands at a place of a list, and ends at another. -/
structure At (L : List Atom) (p q : Nat) : Prop where
 it : ∃ d x r, d ≤ 32 ∧ ItF d x false ∧ L.drop p = x ++ r ∧ q = p + x.length
theorem At.lt {L : List Atom} {p q : Nat} (h : At L p q) : p < q ∧ q ≤ L.length := by
 obtain ⟨d, x, r, _, h1, h2, rfl⟩ := h.it
 have h3 := h1.pos
 have h4 := congrArg List.length h2
 rw [List.length_drop, List.length_append] at h4
 omega
theorem At.behind {L : List Atom} {p q : Nat} (h : At L p q) (hl : L.length ≤ 4096) : ∃ m, E7.behind (L.drop p) [] 0 p = (some q, m) := by
 obtain ⟨d, x, r, _, h1, h2, rfl⟩ := h.it
 have h4 := congrArg List.length h2
 rw [List.length_drop, List.length_append] at h4
 obtain ⟨m1, e⟩ := beh_it d x false h1 (by omega) [] r 0 p
 rw [h2, e]
 exact ⟨m1, rfl⟩
/-- The place behind the item at a place. -/
def nx (L : List Atom) (p : Nat) : Nat := (E7.behind (L.drop p) [] 0 p).1.getD 0
theorem At.nx {L : List Atom} {p q : Nat} (h : At L p q) (hl : L.length ≤ 4096) : E7.nx L p = q := by
 obtain ⟨m, e⟩ := h.behind hl
 unfold E7.nx
 rw [e]
 rfl
/-! The program counts how many items are left -/
def adds (a : Atom) : Nat := if leaf a then 0 else count a
/-- From a count and a place: the place at which the count is none. -/
def cnt (L : List Atom) : Nat → Nat → Nat → Option Nat
 | 0, _, _ => none
 | f + 1, left, p => if left = 0 then some p else match L[p]? with
  | none => none
  | some a => cnt L f (left + adds a - 1) (p + 1)
def CntIt (d : Nat) : Prop := ∀ x o, ItF d x o → ∀ (L r : List Atom) (p f left : Nat), L.drop p = x ++ r → cnt L (f + x.length) (left + 1) p = cnt L f left (p + x.length)
theorem cnt_step {L r : List Atom} {a : Atom} {p f left : Nat} (h : L.drop p = a :: r) : cnt L (f + 1) (left + 1) p = cnt L f (left + adds a) (p + 1) := by
 have e : L[p]? = some a := by
  have := congrArg (fun l => l[0]?) h
  simpa using this
 rw [cnt, if_neg (by omega), e]
 show cnt L f (left + 1 + adds a - 1) (p + 1) = _
 rw [show left + 1 + adds a - 1 = left + adds a by omega]
theorem drop_next {L r : List Atom} {a : Atom} {p : Nat} (h : L.drop p = a :: r) : L.drop (p + 1) = r := by
 rw [← List.drop_drop, h]
 rfl
theorem cnt_kids {d : Nat} (ih : CntIt d) {mp : Bool} : ∀ (m k : Nat) (last : Bytes) (x : List Atom) (o : Bool), Kids (ItF d) mp m k last x o → ∀ (L r : List Atom) (p f left : Nat), L.drop p = x ++ r → cnt L (f + x.length) (left + m) p = cnt L f left (p + x.length)
 | 0, k, last, x, o, h, L, r, p, f, left, hL => by
  obtain ⟨rfl, _⟩ := h
  rfl
 | m + 1, k, last, x, o, h, L, r, p, f, left, hL => by
  obtain ⟨x1, y, o1, o2, rfl, h1, h2, _⟩ := h
  rw [List.append_assoc] at hL
  have hL2 : L.drop (p + x1.length) = y ++ r := by rw [← List.drop_drop, hL, List.drop_left]
  have e1 := ih x1 o1 h1 L (y ++ r) p (f + y.length) (left + m) hL
  have e2 := cnt_kids ih m (k + 1) _ y o2 h2 L r (p + x1.length) f left hL2
  rw [List.length_append, show f + (x1.length + y.length) = f + y.length + x1.length by omega, show left + (m + 1) = left + m + 1 by omega, e1, e2, Nat.add_assoc]
theorem cnt_it : ∀ d, CntIt d
 | 0 => by
  intro x o h L r p f left hL
  obtain ⟨a, rfl, _, h2, _⟩ := h
  rw [List.length_singleton, cnt_step hL]
  unfold adds
  rw [if_pos h2]
  rfl
 | d + 1 => by
  intro x o h L r p f left hL
  rcases h with ⟨a, rfl, _, h2, _⟩ | ⟨a, r', rfl, _, h2, hk⟩
  ·rw [List.length_singleton, cnt_step hL]
   unfold adds
   rw [if_pos h2]
   rfl
  ·have hL2 : L.drop (p + 1) = r' ++ r := drop_next hL
   rw [List.length_cons, ← Nat.add_assoc, cnt_step hL]
   unfold adds
   rw [if_neg (by rw [h2]; decide), cnt_kids (cnt_it d) (count a) 0 [] r' o hk L r (p + 1) f left hL2, Nat.add_assoc, Nat.add_comm 1]
theorem At.cnt {L : List Atom} {p q : Nat} (h : At L p q) : E7.cnt L (q - p + 1) 1 p = some q := by
 obtain ⟨d, x, r, _, h1, h2, rfl⟩ := h.it
 rw [show p + x.length - p + 1 = 1 + x.length by omega, cnt_it d x false h1 L r p 1 0 h2]
 rfl
end Go.Px.E7

/-! The reading of layer 25 as plain functions on plain data. No program is named here. -/
namespace Go.Px.Co
open E7 (At nx ItF Kids leaf count)
structure Rec where
 way : Int
 size : Int
 kind : Int
 name : Bytes
 key : Bytes
 salt : Bytes
 rounds : Int
 iv : Bytes
 loose : Bytes
deriving DecidableEq
structure Env where
 fmt : Int
 alg : Int
 to : List Rec
 header : Bytes
 loose : Bytes
 aad : Bytes
 iv : Bytes
 cipher : Bytes
 tag : Bytes
deriving DecidableEq
def zero : Env := ⟨0, 0, [], [], [], [], [], [], []⟩
def za : Atom := ⟨0, 0, []⟩
abbrev Hdr := List (Atom × Atom)
/-- May a label be? -/
def okL (k : Atom) : Bool := k.kind == 0 || k.kind == 1 || k.kind == 3
/-- The pairs of a map, so many from a place. -/
def pairsF (L : List Atom) : Nat → Nat → Hdr
 | 0, _ => []
 | m + 1, p => (L.getD p za, L.getD (nx L p) za) :: pairsF L m (nx L (nx L p))
/-- So many pairs stand from a place on. -/
def Prs (L : List Atom) : Nat → Nat → Prop
 | 0, _ => True
 | m + 1, p => ∃ q r, At L p q ∧ At L q r ∧ Prs L m r
def find (h : Hdr) (n : Nat) : Option Atom := (h.find? fun p => p.1 == ⟨0, n, []⟩).map Prod.snd
def labels (a b : Hdr) : Int :=
 if a.any (fun p => !okL p.1) then 9
 else if b.any (fun p => !okL p.1 || a.any (fun q => q.1 == p.1)) then 9
 else if (find (a ++ b) 2).isSome || (find (a ++ b) 6).isSome then 11
 else 0
/-- The protected header. -/
def protect (s : Bytes) (lim : Lim) : Hdr × Int :=
 if s = [] then ([], 0)
 else
  let m := R7.decode s lim
  if m.2.2 ≠ 0 then ([], m.2.2)
  else if (m.1.getD 0 za).kind ≠ 5 ∨ (m.1.getD 0 za).num = 0 then ([], 9)
  else (pairsF m.1 (m.1.getD 0 za).num 1, 0)
/-- A row: number, key, iv, tag, layer. -/
structure Row where
 alg : Int
 key : Nat
 iv : Nat
 tag : Nat
 layer : Nat
deriving DecidableEq
def table : List Row := [⟨1, 16, 12, 16, 9⟩, ⟨2, 24, 12, 16, 9⟩, ⟨3, 32, 12, 16, 9⟩, ⟨4, 32, 16, 16, 11⟩, ⟨5, 48, 16, 24, 11⟩, ⟨6, 64, 16, 32, 11⟩, ⟨10, 16, 13, 8, 10⟩, ⟨11, 32, 13, 8, 10⟩, ⟨12, 16, 7, 8, 10⟩, ⟨13, 32, 7, 8, 10⟩, ⟨30, 16, 13, 16, 10⟩, ⟨31, 32, 13, 16, 10⟩, ⟨32, 16, 7, 16, 10⟩, ⟨33, 32, 7, 16, 10⟩, ⟨104, 32, 0, 8, 4⟩, ⟨105, 32, 0, 32, 4⟩, ⟨106, 48, 0, 48, 4⟩, ⟨107, 64, 0, 64, 4⟩, ⟨114, 16, 0, 8, 6⟩, ⟨115, 32, 0, 8, 6⟩, ⟨125, 16, 0, 16, 6⟩, ⟨126, 32, 0, 16, 6⟩]
def rowOf (n : Int) : Option Row := table.find? fun r => r.alg == n
/-- The row of a number in a header; a text that is tagged alone has other numbers. -/
def row (mac : Bool) (n : Nat) : Option Row :=
 if 50 < n then none
 else match rowOf (if mac then (n : Int) + 100 else n) with
  | none => none
  | some r => if r.iv = 16 then none else if (r.iv = 0) = (mac = true) then some r else none
def fmtOf (mac : Bool) : Int := if mac then 6 else 5
def direct (name : Bytes) : Rec := ⟨1, 0, 0, name, [], [], 0, [], []⟩
def badName (o : Option Atom) : Bool := match o with
 | none => false
 | some v => v.kind != 2 || v.text == [] || decide (128 < v.text.length)
def nameOf (o : Option Atom) : Bytes := match o with
 | none => []
 | some v => v.text
/-- What follows the labels. -/
def last (mac : Bool) (header loose cipher tag : Bytes) (h : Hdr) : Env × Int :=
 match find h 1 with
 | none => (zero, 9)
 | some v =>
  if v.kind ≠ 0 then (zero, 11)
  else match row mac v.num with
   | none => (zero, 11)
   | some r =>
    if badName (find h 4) = true then (zero, 9)
    else
     if mac = true then
      (if tag.length ≠ r.tag then (zero, 9)
      else if 70000 < cipher.length then (zero, 10)
      else (⟨6, r.alg, [direct (nameOf (find h 4))], header, loose, [], [], cipher, tag⟩, 0))
     else match find h 5 with
      | none => (zero, 9)
      | some v =>
       if v.kind ≠ 2 ∨ v.text.length ≠ r.iv ∨ cipher.length < r.tag then (zero, 9)
       else if 70000 < cipher.length - r.tag ∨ (65536 ≤ cipher.length - r.tag ∧ r.iv = 13) then (zero, 10)
       else (⟨5, r.alg, [direct (nameOf (find h 4))], header, loose, [], v.text, cipher.take (cipher.length - r.tag), cipher.drop (cipher.length - r.tag)⟩, 0)
/-- The bytes of the item at a place. -/
def part (L : List Atom) (p : Nat) : Bytes := E7.encB ((L.drop p).take (nx L p - p))
def readB (mac : Bool) (l : List Atom) (a : Hdr) : Env × Int :=
 if (l.getD 3 za).kind ≠ 5 then (zero, 9)
 else
  let b := pairsF l (l.getD 3 za).num 4
  let t := l.getD (nx l 3) za
  if t.kind = 7 ∧ t.num = 22 then (zero, 11)
  else if t.kind ≠ 2 then (zero, 9)
  else if mac = true ∧ (l.getD (nx l 3 + 1) za).kind ≠ 2 then (zero, 9)
  else if labels a b ≠ 0 then (zero, labels a b)
  else last mac (l.getD 2 za).text (part l 3) t.text (if mac then (l.getD (nx l 3 + 1) za).text else []) (a ++ b)
def readL (l : List Atom) (lim : Lim) : Env × Int :=
 if (l.getD 0 za).kind ≠ 6 then (zero, 9)
 else if (l.getD 0 za).num ≠ 16 ∧ (l.getD 0 za).num ≠ 17 then (zero, 11)
 else
  let mac := (l.getD 0 za).num == 17
  if (l.getD 1 za).kind ≠ 4 ∨ (l.getD 1 za).num ≠ (if mac then 4 else 3) then (zero, 9)
  else if (l.getD 2 za).kind ≠ 2 then (zero, 9)
  else if (protect (l.getD 2 za).text lim).2 ≠ 0 then (zero, (protect (l.getD 2 za).text lim).2)
  else readB mac l (protect (l.getD 2 za).text lim).1
def read (s : Bytes) (lim : Lim) : Env × Int :=
 if (R7.decode s lim).2.2 ≠ 0 then (zero, (R7.decode s lim).2.2) else readL (R7.decode s lim).1 lim
/-! What stands where -/
theorem or_false3 {a b c : Bool} (h : false = (a || b || c)) : a = false ∧ c = false := by
 cases a <;> cases b <;> cases c <;> simp_all
theorem kids_prs {d : Nat} (hd : d ≤ 32) {mp : Bool} : ∀ (m k : Nat) (lst : Bytes) (x : List Atom), Kids (ItF d) mp (2 * m) k lst x false → ∀ (L r : List Atom) (p : Nat), L.drop p = x ++ r → Prs L m p
 | 0, _, _, _, _, _, _, _, _ => trivial
 | m + 1, k, lst, x, h, L, r, p, hL => by
  rw [show 2 * (m + 1) = 2 * m + 1 + 1 by omega] at h
  obtain ⟨x1, y, o1, o2, rfl, h1, ⟨x2, z, o3, o4, rfl, h3, h4, e2⟩, e1⟩ := h
  obtain ⟨rfl, rfl⟩ := or_false3 e1
  obtain ⟨rfl, rfl⟩ := or_false3 e2
  rw [List.append_assoc, List.append_assoc] at hL
  have hL2 : L.drop (p + x1.length) = x2 ++ (z ++ r) := by rw [← List.drop_drop, hL, List.drop_left]
  have hL3 : L.drop (p + x1.length + x2.length) = z ++ r := by rw [← List.drop_drop, hL2, List.drop_left]
  exact ⟨_, _, ⟨⟨d, x1, _, hd, h1, hL, rfl⟩⟩, ⟨⟨d, x2, _, hd, h3, hL2, rfl⟩⟩, kids_prs hd m _ _ z h4 L r _ hL3⟩
theorem getD_head {L r : List Atom} {a : Atom} {p : Nat} (h : L.drop p = a :: r) : L.getD p za = a := by
 have : (L.drop p)[0]? = some a := by rw [h]; rfl
 rw [List.getElem?_drop, Nat.add_zero] at this
 rw [List.getD_eq_getElem?_getD, this]
 rfl
/-- What stands at a place: a leaf, or a node with its kids. -/
theorem At.ways {L : List Atom} {p q : Nat} (h : At L p q) : (leaf (L.getD p za) = true ∧ q = p + 1) ∨
  (leaf (L.getD p za) = false ∧ ∃ d r' r, d ≤ 32 ∧ Kids (ItF d) ((L.getD p za).kind == 5) (count (L.getD p za)) 0 [] r' false ∧ L.drop (p + 1) = r' ++ r ∧ p + 1 + r'.length ≤ L.length) := by
 have hlt := h.lt
 obtain ⟨d, x, r, hd, h1, h2, rfl⟩ := h.it
 cases d with
 | zero =>
  obtain ⟨a, rfl, _, h3, _⟩ := h1
  rw [getD_head h2]
  exact .inl ⟨h3, rfl⟩
 | succ d =>
  rcases h1 with ⟨a, rfl, _, h3, _⟩ | ⟨a, r', rfl, _, h3, hkd⟩
  ·rw [getD_head h2]
   exact .inl ⟨h3, rfl⟩
  ·rw [getD_head h2]
   refine .inr ⟨h3, d, r', r, by omega, hkd, E7.drop_next h2, ?_⟩
   rw [List.length_cons] at hlt
   omega
theorem leaf5 {a : Atom} (e : a.kind = 5) : leaf a = false := by unfold leaf; simp [e]
theorem leaf4 {a : Atom} (e : a.kind = 4) : leaf a = false := by unfold leaf; simp [e]
theorem leaf6 {a : Atom} (e : a.kind = 6) : leaf a = false := by unfold leaf; simp [e]
theorem leaf2 {a : Atom} (e : a.kind = 2) : leaf a = true := by unfold leaf; simp [e]
theorem count5 {a : Atom} (e : a.kind = 5) : count a = 2 * a.num := by unfold count; simp [e]
theorem count4 {a : Atom} (e : a.kind = 4) : count a = a.num := by unfold count; simp [e]
theorem count6 {a : Atom} (e : a.kind = 6) : count a = 1 := by unfold count; simp [e]
/-- A map's pairs stand behind it. -/
theorem map_prs {L : List Atom} {p q : Nat} (h : At L p q) (hk : (L.getD p za).kind = 5) : Prs L (L.getD p za).num (p + 1) ∧ (L.getD p za).num ≤ L.length := by
 rcases At.ways h with ⟨e, _⟩ | ⟨_, d, r', r, hd, hkd, h2, hl⟩
 ·rw [leaf5 hk] at e; cases e
 ·have hc := count5 hk
  have hle := Kids.le (fun _ _ h => ItF.pos h) hkd
  rw [hc] at hkd hle
  exact ⟨kids_prs hd _ _ _ _ hkd L r (p + 1) h2, by omega⟩
theorem whole {l : List Atom} {d : Nat} (hd : d ≤ 32) (h : ItF d l false) : At l 0 l.length := ⟨⟨d, l, [], hd, h, by simp, by simp⟩⟩
/-- So many items in a row from a place. -/
def Rw (L : List Atom) : Nat → Nat → Prop
 | 0, _ => True
 | m + 1, p => ∃ q, At L p q ∧ Rw L m q
theorem kids_row {d : Nat} (hd : d ≤ 32) {mp : Bool} : ∀ (m k : Nat) (lst : Bytes) (x : List Atom), Kids (ItF d) mp m k lst x false → ∀ (L r : List Atom) (p : Nat), L.drop p = x ++ r → Rw L m p
 | 0, _, _, _, _, _, _, _, _ => trivial
 | m + 1, k, lst, x, h, L, r, p, hL => by
  obtain ⟨x1, y, o1, o2, rfl, h1, h2, e1⟩ := h
  obtain ⟨rfl, rfl⟩ := or_false3 e1
  rw [List.append_assoc] at hL
  have hL2 : L.drop (p + x1.length) = y ++ r := by rw [← List.drop_drop, hL, List.drop_left]
  exact ⟨_, ⟨⟨d, x1, _, hd, h1, hL, rfl⟩⟩, kids_row hd m _ _ y h2 L r _ hL2⟩
theorem node_row {L : List Atom} {p q : Nat} (h : At L p q) (hk : leaf (L.getD p za) = false) : Rw L (count (L.getD p za)) (p + 1) := by
 rcases At.ways h with ⟨e, _⟩ | ⟨_, d, r', r, hd, hkd, h2, hl⟩
 ·rw [hk] at e; cases e
 ·exact kids_row hd _ _ _ _ hkd L r (p + 1) h2
/-- The places of an envelope's list. -/
structure Places (l : List Atom) (mac : Bool) : Prop where
 two : At l 2 3
 rest : ∃ q r, At l 3 q ∧ At l q r ∧ (mac = true → ∃ s, At l r s)
theorem second {l : List Atom} {q : Nat} (h : At l 0 q) (h0 : (l.getD 0 za).kind = 6) : ∃ q, At l 1 q := by
 have hr := node_row h (leaf6 h0)
 rw [count6 h0] at hr
 obtain ⟨q, h, _⟩ := hr
 exact ⟨q, h⟩
theorem third {l : List Atom} {q n : Nat} (h : At l 1 q) (h1 : (l.getD 1 za).kind = 4) (hn : (l.getD 1 za).num = n) : Rw l n 2 := by
 have hr := node_row h (leaf4 h1)
 rw [count4 h1, hn] at hr
 exact hr
theorem places {l : List Atom} {mac : Bool} (h : Rw l (if mac then 4 else 3) 2) (h2 : (l.getD 2 za).kind = 2) : Places l mac := by
 have key : ∀ n, Rw l (n + 3) 2 → At l 2 3 ∧ ∃ q r, At l 3 q ∧ At l q r ∧ Rw l n r := by
  rintro n ⟨a, ha, b, hb, c, hc, hr⟩
  have : a = 3 := by
   rcases At.ways ha with ⟨_, e⟩ | ⟨e, _⟩
   ·exact e
   ·rw [leaf2 h2] at e; cases e
  subst this
  exact ⟨ha, b, c, hb, hc, hr⟩
 cases mac with
 | true =>
  obtain ⟨h1, q, r, h3, h4, s, h5, _⟩ := key 1 h
  exact ⟨h1, q, r, h3, h4, fun _ => ⟨s, h5⟩⟩
 | false =>
  obtain ⟨h1, q, r, h3, h4, _⟩ := key 0 h
  exact ⟨h1, q, r, h3, h4, fun e => by cases e⟩
/-- An item's bytes are what is told of it. -/
theorem part_enc {L : List Atom} {p q : Nat} (h : At L p q) (hl : L.length ≤ 4096) (hw : E7.Wf L) (hb : (E7.encB L).length ≤ 262144) : E7.encode ((L.drop p).take (q - p)) = (part L p, 0) := by
 have hn := h.nx hl
 obtain ⟨d, x, r, hd, h1, h2, rfl⟩ := h.it
 have hx : (L.drop p).take (p + x.length - p) = x := by rw [h2, Nat.add_sub_cancel_left, List.take_left]
 have hL : L = L.take p ++ (x ++ r) := by rw [← h2, List.take_append_drop]
 have hlen : x.length ≤ L.length := by
  have := congrArg List.length hL
  simp only [List.length_append] at this
  omega
 have hwx : E7.Wf x := fun a ha => hw a (by rw [hL]; simp [ha])
 have hbx : (E7.encB x).length ≤ 262144 := by
  have : (E7.encB L).length = (E7.encB (L.take p)).length + ((E7.encB x).length + (E7.encB r).length) := by
   conv => lhs; rw [hL, E7.encB_app, E7.encB_app, List.length_append, List.length_append]
  omega
 unfold part
 rw [hn, hx]
 exact E7.encode_of_it (h1.mono hd) hwx (by omega) hbx
end Go.Px.Co

/-! The telling of layer 25, as the program does it and as the reference does, and the plain laws. No program is named here. -/
namespace Go.Px.Co
open E7 (At nx ItF Kids leaf count encB atomB right Wf)
def most : Lim := ⟨32, 4096, 262144, 4096⟩
theorem most_may : most.may = true := by decide
def octets (s : Bytes) : Atom := ⟨2, 0, s⟩
/-- The list that is told. -/
def listOf (x : Env) (m : List Atom) : List Atom :=
 if x.fmt = 6 then ⟨6, 17, []⟩ :: ⟨4, 4, []⟩ :: octets x.header :: (m ++ [octets x.cipher, octets x.tag])
 else ⟨6, 16, []⟩ :: ⟨4, 3, []⟩ :: octets x.header :: (m ++ [octets (x.cipher ++ x.tag)])
/-- What the program tells. -/
def tellP (x : Env) : Bytes × Int :=
 let d := R7.decode x.loose most
 if d.2.2 ≠ 0 ∨ (d.1.getD 0 za).kind ≠ 5 then ([], 2)
 else
  let e := E7.encode (listOf x d.1)
  if e.2 ≠ 0 then ([], 2)
  else if (read e.1 most).2 ≠ 0 ∨ x ≠ (read e.1 most).1 then ([], 2)
  else (e.1, 0)
def bytesI (s : Bytes) : Bytes := R7.headB 2 s.length ++ s
def bytesOf (x : Env) : Bytes :=
 if x.fmt = 6 then [209, 132] ++ bytesI x.header ++ x.loose ++ bytesI x.cipher ++ bytesI x.tag
 else [208, 131] ++ bytesI x.header ++ x.loose ++ bytesI (x.cipher ++ x.tag)
/-- What the reference tells. -/
def tellR (x : Env) : Bytes × Int :=
 if 300000 < x.header.length ∨ 300000 < x.loose.length ∨ 70000 < x.cipher.length ∨ 64 < x.tag.length then ([], 2)
 else if (read (bytesOf x) most).2 ≠ 0 ∨ x ≠ (read (bytesOf x) most).1 then ([], 2)
 else (bytesOf x, 0)
/-! What a list is that is read -/
/-- The parts of an envelope's list. -/
structure Parts (L : List Atom) (mac : Bool) (X : List Atom) : Prop where
 it : ∃ d, d ≤ 32 ∧ ItF d X false
 eq : L = L.getD 0 za :: L.getD 1 za :: L.getD 2 za :: (X ++ (if mac then [L.getD (nx L 3) za, L.getD (nx L 3 + 1) za] else [L.getD (nx L 3) za]))
 nx : nx L 3 = 3 + X.length
theorem kids1 {d : Nat} {mp : Bool} {k : Nat} {l : Bytes} {r : List Atom} (h : Kids (ItF d) mp 1 k l r false) : ItF d r false := by
 obtain ⟨x, y, o1, o2, rfl, h1, ⟨rfl, rfl⟩, e⟩ := h
 obtain ⟨rfl, _⟩ := or_false3 e
 rw [List.append_nil]
 exact h1
theorem kids_cons {d : Nat} {mp : Bool} {m k : Nat} {l : Bytes} {r : List Atom} (h : Kids (ItF d) mp (m + 1) k l r false) : ∃ x y l', r = x ++ y ∧ ItF d x false ∧ Kids (ItF d) mp m (k + 1) l' y false := by
 obtain ⟨x, y, o1, o2, rfl, h1, h2, e⟩ := h
 obtain ⟨rfl, rfl⟩ := or_false3 e
 exact ⟨x, y, _, rfl, h1, h2⟩
theorem it_leaf {d : Nat} {a : Atom} {r : List Atom} (h : ItF d (a :: r) false) (ha : leaf a = true) : r = [] := by
 cases d with
 | zero =>
  obtain ⟨b, e, _⟩ := h
  simp only [List.cons.injEq] at e
  exact e.2
 | succ d =>
  rcases h with ⟨b, e, _⟩ | ⟨b, r', e, _, h3, _⟩
  ·simp only [List.cons.injEq] at e
   exact e.2
  ·simp only [List.cons.injEq] at e
   rw [← e.1, ha] at h3
   cases h3
theorem it_node {d : Nat} {a : Atom} {r : List Atom} (h : ItF d (a :: r) false) (ha : leaf a = false) : ∃ d', d = d' + 1 ∧ Kids (ItF d') (a.kind == 5) (count a) 0 [] r false := by
 cases d with
 | zero =>
  obtain ⟨b, e, _, h3, _⟩ := h
  simp only [List.cons.injEq] at e
  rw [← e.1, ha] at h3
  cases h3
 | succ d =>
  rcases h with ⟨b, e, _, h3, _⟩ | ⟨b, r', e, _, h3, hk⟩
  ·simp only [List.cons.injEq] at e
   rw [← e.1, ha] at h3
   cases h3
  ·simp only [List.cons.injEq] at e
   obtain ⟨rfl, rfl⟩ := e
   exact ⟨d, rfl, hk⟩
theorem it_cons {d : Nat} {l : List Atom} (h : ItF d l false) : ∃ a r, l = a :: r := by
 cases d with
 | zero => obtain ⟨a, rfl, _⟩ := h; exact ⟨a, [], rfl⟩
 | succ d =>
  rcases h with ⟨a, rfl, _⟩ | ⟨a, r, rfl, _⟩
  ·exact ⟨a, [], rfl⟩
  ·exact ⟨a, r, rfl⟩
theorem parts {d : Nat} {L : List Atom} {mac : Bool} (hd : d ≤ 32) (h : ItF d L false) (hl : L.length ≤ 4096) (h0 : (L.getD 0 za).kind = 6) (h1 : (L.getD 1 za).kind = 4) (hn : (L.getD 1 za).num = if mac then 4 else 3) (h2 : (L.getD 2 za).kind = 2)
  (h3 : (L.getD (nx L 3) za).kind = 2) (h4 : mac = true → (L.getD (nx L 3 + 1) za).kind = 2) : ∃ X, Parts L mac X := by
 obtain ⟨a, r, rfl⟩ := it_cons h
 obtain ⟨d1, rfl, hk⟩ := it_node h (leaf6 h0)
 rw [show count a = 1 from count6 h0] at hk
 have hr := kids1 hk
 obtain ⟨b, r2, rfl⟩ := it_cons hr
 obtain ⟨d2, rfl, hk2⟩ := it_node hr (leaf4 h1)
 rw [show count b = (if mac then 4 else 3) from (count4 h1).trans hn] at hk2
 have key : ∀ n, Kids (ItF d2) (b.kind == 5) (n + 3) 0 [] r2 false → ∃ c X t y l, r2 = c :: (X ++ (t :: y)) ∧ ItF d2 X false ∧ Kids (ItF d2) (b.kind == 5) n 3 l y false ∧ nx (a :: b :: r2) 3 = 3 + X.length := by
  intro n hk
  obtain ⟨x1, y1, l1, rfl, i1, k1⟩ := kids_cons hk
  obtain ⟨X, y2, l2, rfl, i2, k2⟩ := kids_cons k1
  obtain ⟨x3, y, l3, rfl, i3, k3⟩ := kids_cons k2
  obtain ⟨c, rc, rfl⟩ := it_cons i1
  have : rc = [] := it_leaf i1 (leaf2 h2)
  subst this
  have hnx : nx (a :: b :: ([c] ++ (X ++ (x3 ++ y)))) 3 = 3 + X.length := At.nx ⟨⟨d2, X, x3 ++ y, by omega, i2, rfl, rfl⟩⟩ hl
  obtain ⟨t, rt, rfl⟩ := it_cons i3
  have ht : (a :: b :: ([c] ++ (X ++ (t :: rt ++ y)))).getD (nx (a :: b :: ([c] ++ (X ++ (t :: rt ++ y)))) 3) za = t := by
   rw [hnx]
   refine getD_head (r := rt ++ y) ?_
   rw [show 3 + X.length = X.length + 1 + 1 + 1 by omega]
   simp
  have : rt = [] := it_leaf i3 (leaf2 (by rw [← ht]; exact h3))
  subst this
  exact ⟨c, X, t, y, _, rfl, i2, k3, hnx⟩
 cases mac with
 | false =>
  obtain ⟨c, X, t, y, l, rfl, i2, ⟨rfl, _⟩, hnx⟩ := key 0 hk2
  refine ⟨X, ⟨d2, by omega, i2⟩, ?_, hnx⟩
  rw [hnx]
  have ht : (a :: b :: c :: (X ++ [t])).getD (3 + X.length) za = t := getD_head (r := []) (by rw [show 3 + X.length = X.length + 1 + 1 + 1 by omega]; simp)
  rw [ht]
  rfl
 | true =>
  obtain ⟨c, X, t, y, l, rfl, i2, hk3, hnx⟩ := key 1 hk2
  have iy := kids1 hk3
  obtain ⟨u, ru, rfl⟩ := it_cons iy
  have hu : (a :: b :: c :: (X ++ t :: u :: ru)).getD (nx (a :: b :: c :: (X ++ t :: u :: ru)) 3 + 1) za = u := by
   rw [hnx]
   refine getD_head (r := ru) ?_
   rw [show 3 + X.length + 1 = X.length + 1 + 1 + 1 + 1 by omega]
   simp [List.drop_append]
  have : ru = [] := it_leaf iy (leaf2 (by rw [← hu]; exact h4 rfl))
  subst this
  refine ⟨X, ⟨d2, by omega, i2⟩, ?_, hnx⟩
  rw [hu, hnx]
  have ht : (a :: b :: c :: (X ++ [t, u])).getD (3 + X.length) za = t := getD_head (r := [u]) (by rw [show 3 + X.length = X.length + 1 + 1 + 1 by omega]; simp)
  rw [ht]
  rfl
/-! What is read -/
structure ReadOk (L : List Atom) (lim : Lim) (x : Env) (mac : Bool) (a : Hdr) : Prop where
 k0 : (L.getD 0 za).kind = 6
 n0 : (L.getD 0 za).num = if mac then 17 else 16
 k1 : (L.getD 1 za).kind = 4
 n1 : (L.getD 1 za).num = if mac then 4 else 3
 k2 : (L.getD 2 za).kind = 2
 pr : protect (L.getD 2 za).text lim = (a, 0)
 rb : readB mac L a = (x, 0)
theorem zero_err {x : Env} {e : Int} {P : Prop} (h : (zero, e) = (x, 0)) (he : e ≠ 0) : P := absurd (congrArg Prod.snd h) he
theorem readL_ok {L : List Atom} {lim : Lim} {x : Env} (h : readL L lim = (x, 0)) : ∃ mac a, ReadOk L lim x mac a := by
 unfold readL at h
 by_cases c0 : (L.getD 0 za).kind ≠ 6
 ·rw [if_pos c0] at h
  exact zero_err h (by decide)
 rw [if_neg c0] at h
 by_cases c1 : (L.getD 0 za).num ≠ 16 ∧ (L.getD 0 za).num ≠ 17
 ·rw [if_pos c1] at h
  exact zero_err h (by decide)
 rw [if_neg c1] at h
 simp only at h
 obtain ⟨mac, hm⟩ : ∃ mac, ((L.getD 0 za).num == 17) = mac := ⟨_, rfl⟩
 rw [hm] at h
 by_cases c2 : (L.getD 1 za).kind ≠ 4 ∨ (L.getD 1 za).num ≠ if mac = true then 4 else 3
 ·rw [if_pos c2] at h
  exact zero_err h (by decide)
 rw [if_neg c2] at h
 by_cases c3 : (L.getD 2 za).kind ≠ 2
 ·rw [if_pos c3] at h
  exact zero_err h (by decide)
 rw [if_neg c3] at h
 by_cases c4 : (protect (L.getD 2 za).text lim).2 ≠ 0
 ·rw [if_pos c4] at h
  exact zero_err h c4
 rw [if_neg c4] at h
 have k1 : (L.getD 1 za).kind = 4 := Classical.byContradiction fun e => c2 (.inl e)
 have n1 := Classical.byContradiction fun e => c2 (.inr e)
 refine ⟨mac, _, ⟨Classical.byContradiction c0, ?_, k1, n1, Classical.byContradiction c3, Prod.ext rfl (Classical.byContradiction c4), h⟩⟩
 cases mac with
 | true => rw [if_pos rfl]; simpa using hm
 | false =>
  rw [if_neg (by decide)]
  have : ¬ (L.getD 0 za).num = 17 := by simpa using hm
  omega
structure ReadB (L : List Atom) (x : Env) (mac : Bool) (a : Hdr) : Prop where
 k3 : (L.getD 3 za).kind = 5
 kt : (L.getD (nx L 3) za).kind = 2
 ku : mac = true → (L.getD (nx L 3 + 1) za).kind = 2
 last : last mac (L.getD 2 za).text (part L 3) (L.getD (nx L 3) za).text (if mac then (L.getD (nx L 3 + 1) za).text else []) (a ++ pairsF L (L.getD 3 za).num 4) = (x, 0)
theorem readB_ok {L : List Atom} {x : Env} {mac : Bool} {a : Hdr} (h : readB mac L a = (x, 0)) : ReadB L x mac a := by
 unfold readB at h
 split at h
 ·exact zero_err h (by decide)
 rename_i c0
 simp only at h
 split at h
 ·exact zero_err h (by decide)
 split at h
 ·exact zero_err h (by decide)
 rename_i c2
 split at h
 ·exact zero_err h (by decide)
 rename_i c3
 split at h
 ·rename_i c4
  exact zero_err h c4
 exact ⟨Classical.byContradiction c0, Classical.byContradiction c2, fun hm => Classical.byContradiction fun e => c3 ⟨hm, e⟩, h⟩
theorem row_tag {mac : Bool} {n : Nat} {r : Row} (h : row mac n = some r) : r.tag ≤ 64 := by
 unfold row at h
 split at h
 ·cases h
 ·split at h
  ·cases h
  ·rename_i r' hr
   split at h
   ·cases h
   ·split at h
    ·cases h
     have hm := List.mem_of_find?_eq_some hr
     have : ∀ r ∈ table, r.tag ≤ 64 := by decide
     exact this _ hm
    ·cases h
structure LastOk (mac : Bool) (header loose cipher tag : Bytes) (x : Env) : Prop where
 fmt : x.fmt = fmtOf mac
 header : x.header = header
 loose : x.loose = loose
 aad : x.aad = []
 both : mac = true → x.cipher = cipher ∧ x.tag = tag
 one : mac = false → x.cipher ++ x.tag = cipher
 small : x.cipher.length ≤ 70000 ∧ x.tag.length ≤ 64
theorem last_ok {mac : Bool} {header loose cipher tag : Bytes} {h : Hdr} {x : Env} (hx : last mac header loose cipher tag h = (x, 0)) : LastOk mac header loose cipher tag x := by
 unfold last at hx
 split at hx
 ·exact zero_err hx (by decide)
 split at hx
 ·exact zero_err hx (by decide)
 split at hx
 ·exact zero_err hx (by decide)
 rename_i r hr
 have ht := row_tag hr
 by_cases c0 : badName (find h 4) = true
 ·rw [if_pos c0] at hx
  exact zero_err hx (by decide)
 rw [if_neg c0] at hx
 cases mac with
 | true =>
  rw [if_pos rfl] at hx
  by_cases c1 : tag.length ≠ r.tag
  ·rw [if_pos c1] at hx
   exact zero_err hx (by decide)
  rw [if_neg c1] at hx
  by_cases c2 : 70000 < cipher.length
  ·rw [if_pos c2] at hx
   exact zero_err hx (by decide)
  rw [if_neg c2] at hx
  obtain ⟨rfl, _⟩ := Prod.mk.inj hx
  exact ⟨rfl, rfl, rfl, rfl, fun _ => ⟨rfl, rfl⟩, fun e => (by cases e), by show cipher.length ≤ 70000 ∧ tag.length ≤ 64; omega⟩
 | false =>
  rw [if_neg (by decide)] at hx
  split at hx
  ·exact zero_err hx (by decide)
  rename_i v _
  by_cases c1 : v.kind ≠ 2 ∨ v.text.length ≠ r.iv ∨ cipher.length < r.tag
  ·rw [if_pos c1] at hx
   exact zero_err hx (by decide)
  rw [if_neg c1] at hx
  by_cases c2 : 70000 < cipher.length - r.tag ∨ (65536 ≤ cipher.length - r.tag ∧ r.iv = 13)
  ·rw [if_pos c2] at hx
   exact zero_err hx (by decide)
  rw [if_neg c2] at hx
  obtain ⟨rfl, _⟩ := Prod.mk.inj hx
  refine ⟨rfl, rfl, rfl, rfl, fun e => (by cases e), fun _ => List.take_append_drop _ _, ?_⟩
  show (cipher.take _).length ≤ 70000 ∧ (cipher.drop _).length ≤ 64
  rw [List.length_take, List.length_drop]
  omega
theorem read_ok {s : Bytes} {lim : Lim} {x : Env} (h : read s lim = (x, 0)) : (R7.decode s lim).2.2 = 0 ∧ ∃ mac a, ReadOk (R7.decode s lim).1 lim x mac a := by
 unfold read at h
 split at h
 ·rename_i c
  exact zero_err h c
 ·rename_i c
  exact ⟨Classical.byContradiction c, readL_ok h⟩
theorem may_most {lim : Lim} (h : lim.may = true) : lim.d ≤ most.d ∧ lim.i ≤ most.i ∧ lim.b ≤ most.b := by
 have := Cf.may_of h
 show lim.d ≤ 32 ∧ lim.i ≤ 4096 ∧ lim.b ≤ 262144
 omega
theorem text_nil {a : Atom} (h : right a = true) (hk : a.kind ≠ 2 ∧ a.kind ≠ 3) : a.text = [] := by
 obtain ⟨k, e, _, hw⟩ := E7.right_cases h
 rcases hw with ⟨rfl, _⟩ | ⟨rfl, _⟩ | ⟨_, _, ht, _⟩
 ·exact absurd e hk.1
 ·exact absurd e hk.2
 ·exact ht
theorem num_zero {a : Atom} (h : right a = true) (hk : a.kind = 2) : a.num = 0 := by
 obtain ⟨k, e, _, hw⟩ := E7.right_cases h
 rcases hw with ⟨_, hn⟩ | ⟨_, hn, _⟩ | ⟨h2, _⟩
 ·exact hn
 ·exact hn
 ·exact absurd (by omega) h2
theorem atom_octets {a : Atom} (h : right a = true) (hk : a.kind = 2) : a = octets a.text := by
 obtain ⟨k, n, t⟩ := a
 have hn := num_zero h hk
 simp only at hk hn
 subst hk hn
 rfl
theorem atom_plain {a : Atom} {k : Int} {n : Nat} (h : right a = true) (hk : a.kind = k) (hk2 : k ≠ 2 ∧ k ≠ 3) (hn : a.num = n) : a = ⟨k, n, []⟩ := by
 obtain ⟨k', n', t⟩ := a
 simp only at hk hn
 subst hk hn
 have := text_nil h hk2
 simp only at this
 rw [this]
theorem getD_mem {L : List Atom} {i : Nat} (h : i < L.length) : L.getD i za ∈ L := by
 rw [List.getD_eq_getElem?_getD, List.getElem?_eq_getElem h]
 exact List.getElem_mem _
theorem octetsB (s : Bytes) : atomB (octets s) = bytesI s := rfl
/-- What is read is told so. -/
theorem tell_of_read {s : Bytes} {x : Env} (h : read s most = (x, 0)) : tellP x = (s, 0) ∧ tellR x = (s, 0) := by
 obtain ⟨hd, mac, a, hr⟩ := read_ok h
 have henc := E7.encode_decode hd
 obtain ⟨_, _, hit, hwf, hbs, hlen, hsl, _⟩ := E7.decode_sound hd
 obtain ⟨L, hL⟩ : ∃ L, L = (R7.decode s most).1 := ⟨_, rfl⟩
 rw [← hL] at hr henc hit hwf hbs hlen
 have hb := readB_ok hr.rb
 have hla := last_ok hb.last
 have hl4 : L.length ≤ 4096 := by have : most.i = 4096 := rfl; omega
 have hs4 : s.length ≤ 262144 := by have : most.b = 262144 := rfl; omega
 obtain ⟨X, hp⟩ := parts (mac := mac) (by decide) hit hl4 hr.k0 hr.k1 hr.n1 hr.k2 hb.kt hb.ku
 obtain ⟨dx, hdx, hX⟩ := hp.it
 have hal := ItF.all hit
 have hXL : ∀ b ∈ X, b ∈ L := fun b hb => by rw [hp.eq]; simp [hb]
 have hlx := congrArg List.length hp.eq
 simp only [List.length_cons, List.length_append] at hlx
 have hlx2 : (if mac = true then [L.getD (nx L 3) za, L.getD (nx L 3 + 1) za] else [L.getD (nx L 3) za]).length = if mac then 2 else 1 := by cases mac <;> rfl
 rw [hlx2] at hlx
 have hx1 := hX.pos
 have e0 := atom_plain (hal _ (getD_mem (i := 0) (by omega))) hr.k0 (by decide) hr.n0
 have e1 := atom_plain (hal _ (getD_mem (i := 1) (by omega))) hr.k1 (by decide) hr.n1
 have e2 := atom_octets (hal _ (getD_mem (i := 2) (by omega))) hr.k2
 have e3 := atom_octets (hal _ (getD_mem (i := nx L 3) (by rw [hp.nx]; split at hlx <;> omega))) hb.kt
 have hpart : part L 3 = encB X := by
  unfold part
  rw [hp.nx, show 3 + X.length - 3 = X.length by omega]
  congr 1
  have : L.drop 3 = X ++ (if mac = true then [L.getD (nx L 3) za, L.getD (nx L 3 + 1) za] else [L.getD (nx L 3) za]) := by
   conv => lhs; rw [hp.eq]
   rfl
  rw [this, List.take_left]
 have hlist : listOf x X = L := by
  conv => rhs; rw [hp.eq]
  unfold listOf
  rw [hla.fmt]
  cases mac with
  | false =>
   rw [if_neg (by decide), hla.header, hla.one rfl, ← e2, ← e3, e0, e1]
   rfl
  | true =>
   have e4 := atom_octets (hal _ (getD_mem (i := nx L 3 + 1) (by rw [hp.nx]; rw [if_pos rfl] at hlx; omega))) (hb.ku rfl)
   obtain ⟨b1, b2⟩ := hla.both rfl
   rw [if_pos rfl] at b2
   rw [if_pos (by decide), hla.header, b1, b2, ← e2, ← e3, ← e4, e0, e1]
   rfl
 have hbytes : bytesOf x = s := by
  have hB : encB (listOf x X) = s := by rw [hlist]; exact hbs.symm
  rw [← hB]
  unfold bytesOf listOf
  rw [hla.fmt, hla.loose, hpart]
  cases mac with
  | false =>
   rw [if_neg (by decide), if_neg (by decide)]
   simp only [E7.encB_cons, E7.encB_app, octetsB]
   show [208, 131] ++ _ ++ _ ++ _ = [208] ++ ([131] ++ (_ ++ (_ ++ (_ ++ []))))
   simp [List.append_assoc]
  | true =>
   rw [if_pos (by decide), if_pos (by decide)]
   simp only [E7.encB_cons, E7.encB_app, octetsB]
   show [209, 132] ++ _ ++ _ ++ _ ++ _ = [209] ++ ([132] ++ (_ ++ (_ ++ (_ ++ (_ ++ [])))))
   simp [List.append_assoc]
 have hXs : (encB X).length ≤ s.length := by
  have hB : encB (listOf x X) = s := by rw [hlist]; exact hbs.symm
  rw [← hB]
  unfold listOf
  split <;> (simp only [E7.encB_cons, E7.encB_app, List.length_append]; omega)
 have hdX : R7.decode x.loose most = (X, 0, 0) := by
  rw [hla.loose, hpart]
  exact E7.decode_of_it (o := false) (lim := most) most_may (hX.mono hdx) (fun b hb => hwf b (hXL b hb)) (by show (X.length : Int) ≤ 4096; omega) (by show ((encB X).length : Int) ≤ 262144; omega)
 have hX0 : (X.getD 0 za).kind = 5 := by
  have : L.getD 3 za = X.getD 0 za := by
   obtain ⟨c, rc, rfl⟩ := it_cons hX
   refine getD_head (r := rc ++ (if mac = true then [L.getD (nx L 3) za, L.getD (nx L 3 + 1) za] else [L.getD (nx L 3) za])) ?_
   conv => lhs; rw [hp.eq]
   rfl
  rw [← this]
  exact hb.k3
 constructor
 ·unfold tellP
  simp only [hdX]
  rw [if_neg (by rintro (e | e); exact e rfl; exact e hX0), hlist, henc, if_neg (fun e => e rfl), h, if_neg (by rintro (e | e); exact e rfl; exact e rfl)]
 ·have hhl : x.header.length ≤ 300000 ∧ x.loose.length ≤ 300000 := by
   rw [hla.loose, hpart]
   refine ⟨?_, by omega⟩
   have hB : encB (listOf x X) = s := by rw [hlist]; exact hbs.symm
   have h1 : (atomB (octets x.header)).length ≤ s.length := by
    rw [← hB]
    unfold listOf
    split <;> (simp only [E7.encB_cons, E7.encB_app, List.length_append]; omega)
   rw [octetsB] at h1
   unfold bytesI at h1
   rw [List.length_append] at h1
   omega
  obtain ⟨c1, c2⟩ := hla.small
  unfold tellR
  rw [if_neg (by omega), hbytes, h, if_neg (by rintro (e | e); exact e rfl; exact e rfl)]
/-- Both tell alike. -/
theorem tell_eq (x : Env) : tellP x = tellR x := by
 have hP : tellP x = ([], 2) ∨ ∃ s, read s most = (x, 0) := by
  unfold tellP
  simp only
  split
  ·exact .inl rfl
  ·split
   ·exact .inl rfl
   ·split
    ·exact .inl rfl
    ·rename_i c
     refine .inr ⟨_, Prod.ext (Classical.byContradiction fun e => c (.inr fun e2 => e e2.symm)) (Classical.byContradiction fun e => c (.inl e))⟩
 have hR : tellR x = ([], 2) ∨ ∃ s, read s most = (x, 0) := by
  unfold tellR
  split
  ·exact .inl rfl
  ·split
   ·exact .inl rfl
   ·rename_i c
    exact .inr ⟨_, Prod.ext (Classical.byContradiction fun e => c (.inr fun e2 => e e2.symm)) (Classical.byContradiction fun e => c (.inl e))⟩
 rcases hP with hP | ⟨s, hs⟩
 ·rcases hR with hR | ⟨s, hs⟩
  ·rw [hP, hR]
  ·obtain ⟨a, b⟩ := tell_of_read hs
   rw [a, b]
 ·obtain ⟨a, b⟩ := tell_of_read hs
  rw [a, b]
/-- What is told is read to what it was. -/
theorem tell_back {x : Env} {s : Bytes} (h : tellP x = (s, 0)) : read s most = (x, 0) := by
 unfold tellP at h
 simp only at h
 split at h
 ·exact nomatch (congrArg Prod.snd h)
 ·split at h
  ·exact nomatch (congrArg Prod.snd h)
  ·split at h
   ·exact nomatch (congrArg Prod.snd h)
   ·rename_i c
    have hs := congrArg Prod.fst h
    simp only at hs
    rw [hs] at c
    exact Prod.ext (Classical.byContradiction fun e => c (.inr fun e2 => e e2.symm)) (Classical.byContradiction fun e => c (.inl e))
end Go.Px.Co

/-! The headers and the structure of layer 25 (plain law). No program is named here. -/
namespace Go.Px.Co
open E7 (ItF Kids encB atomB right Wf leaf count)
theorem headB_le (k n : Nat) (h : n < 18446744073709551616) : (R7.headB k n).length ≤ 9 := by
 rw [E7.headB_size]
 have h3 := (E7.infoOf_lt n h).2
 split
 ·omega
 ·have : R7.infoOf n = 0 ∨ R7.infoOf n = 1 ∨ R7.infoOf n = 2 ∨ R7.infoOf n = 3 := by omega
  rcases this with e | e | e | e <;> rw [e] <;> decide
theorem bytesI_le (s : Bytes) (h : s.length < 18446744073709551616) : (bytesI s).length ≤ s.length + 9 := by
 unfold bytesI
 have := headB_le 2 s.length h
 rw [List.length_append]
 omega
end Go.Px.Co

/-! The parts of an envelope's list, as the list behind its two first items gives them (plain law of layer 25). No program is named here. -/
namespace Go.Px.Co
open E7 (At nx Wf encB leaf)
theorem At.drop2 {L : List Atom} {p q : Nat} (h : At L (p + 2) q) : ∃ q', q = q' + 2 ∧ At (L.drop 2) p q' := by
 obtain ⟨d, x, r, h1, h2, h3, rfl⟩ := h.it
 refine ⟨p + x.length, by omega, ⟨d, x, r, h1, h2, ?_, rfl⟩⟩
 rw [List.drop_drop, Nat.add_comm 2 p]
 exact h3
theorem getD_drop (L : List Atom) (k p : Nat) : (L.drop k).getD p za = L.getD (p + k) za := by
 rw [List.getD_eq_getElem?_getD, List.getD_eq_getElem?_getD, List.getElem?_drop, Nat.add_comm k p]
theorem nx_drop2 {L : List Atom} {p q : Nat} (h : At L (p + 2) q) (hl : L.length ≤ 4096) : nx L (p + 2) = nx (L.drop 2) p + 2 := by
 obtain ⟨q', rfl, h'⟩ := At.drop2 h
 rw [h.nx hl, h'.nx (by rw [List.length_drop]; omega)]
theorem pairs_drop2 {L : List Atom} (hl : L.length ≤ 4096) : ∀ {m p : Nat}, Prs L m (p + 2) → pairsF L m (p + 2) = pairsF (L.drop 2) m p
 | 0, _, _ => rfl
 | m + 1, p, ⟨q, r, h1, h2, h3⟩ => by
  obtain ⟨q', rfl, h1'⟩ := At.drop2 h1
  obtain ⟨r', rfl, h2'⟩ := At.drop2 h2
  have hl2 : (L.drop 2).length ≤ 4096 := by rw [List.length_drop]; omega
  show (L.getD (p + 2) za, L.getD (nx L (p + 2)) za) :: pairsF L m (nx L (nx L (p + 2))) = ((L.drop 2).getD p za, (L.drop 2).getD (nx (L.drop 2) p) za) :: pairsF (L.drop 2) m (nx (L.drop 2) (nx (L.drop 2) p))
  rw [h1.nx hl, h2.nx hl, h1'.nx hl2, h2'.nx hl2, getD_drop, getD_drop, pairs_drop2 hl h3]
theorem pairsF_len (L : List Atom) : ∀ (m p : Nat), (pairsF L m p).length = m
 | 0, _ => rfl
 | m + 1, p => by
  show (pairsF L m _).length + 1 = _
  rw [pairsF_len L m]
theorem protect_len (s : Bytes) (lim : Lim) : (protect s lim).1.length ≤ 4096 := by
 unfold protect
 split
 ·simp
 ·simp only
  split
  ·simp
  ·rename_i he
   split
   ·simp
   ·rename_i hk
    obtain ⟨hm, _, hit, _, _, hlen, _⟩ := E7.decode_sound (Classical.byContradiction he)
    obtain ⟨m1, m2, m3⟩ := may_most hm
    have e1 : most.d = 32 := rfl
    have e2 : most.i = 4096 := rfl
    have hk5 : ((R7.decode s lim).1.getD 0 za).kind = 5 := Classical.byContradiction fun e => hk (.inl e)
    have := (map_prs (whole (d := lim.d.toNat) (by omega) hit) hk5).2
    rw [pairsF_len]
    omega
/-- What parts reads. -/
inductive Prt where
 | bad (e : Int)
 | ok (h : Hdr) (header loose cipher tag : Bytes)
def Prt.err : Prt → Int
 | .bad e => e
 | .ok _ _ _ _ _ => 0
def partsM (mac : Bool) (M : List Atom) (lim : Lim) : Prt :=
 if (M.getD 0 za).kind ≠ 2 then .bad 9
 else if (protect (M.getD 0 za).text lim).2 ≠ 0 then .bad (protect (M.getD 0 za).text lim).2
 else if (M.getD 1 za).kind ≠ 5 then .bad 9
 else
  let a := (protect (M.getD 0 za).text lim).1
  let b := pairsF M (M.getD 1 za).num 2
  let t := M.getD (nx M 1) za
  if t.kind = 7 ∧ t.num = 22 then .bad 11
  else if t.kind ≠ 2 then .bad 9
  else if mac = true ∧ (M.getD (nx M 1 + 1) za).kind ≠ 2 then .bad 9
  else if labels a b ≠ 0 then .bad (labels a b)
  else .ok (a ++ b) (M.getD 0 za).text (part M 1) t.text (if mac then (M.getD (nx M 1 + 1) za).text else [])
/-- The places of that list. -/
structure PlM (M : List Atom) (mac : Bool) : Prop where
 pos : 2 ≤ M.length
 len : M.length ≤ 4096
 wf : Wf M
 bytes : (encB M).length ≤ 262144
 txt : ∀ a ∈ M, a.num < 18446744073709551616 ∧ a.text.length ≤ 9223372036854775807
 rest : (M.getD 0 za).kind = 2 → ∃ q r, At M 1 q ∧ At M q r ∧ (mac = true → ∃ s, At M r s)
/-- What is read of the list of an envelope with the two first items right. -/
theorem readL_parts {L : List Atom} {lim : Lim} {mac : Bool} (hl : L.length ≤ 4096) (hw : Wf L) (hb : (encB L).length ≤ 262144) (hx : ∀ a ∈ L, a.num < 18446744073709551616 ∧ a.text.length ≤ 9223372036854775807) (h0 : At L 0 L.length) (k0 : (L.getD 0 za).kind = 6) (n0 : (L.getD 0 za).num = if mac then 17 else 16) (k1 : (L.getD 1 za).kind = 4) (n1 : (L.getD 1 za).num = if mac then 4 else 3) :
  PlM (L.drop 2) mac ∧ readL L lim = match partsM mac (L.drop 2) lim with
   | .bad e => (zero, e)
   | .ok h hd lo ci tg => last mac hd lo ci tg h := by
 have hm : ((L.getD 0 za).num == 17) = mac := by rw [n0]; cases mac <;> rfl
 obtain ⟨q1, hq1⟩ := second h0 k0
 have hrw := third hq1 k1 n1
 have hM : ∀ i, (L.drop 2).getD i za = L.getD (i + 2) za := fun i => getD_drop L 2 i
 have hsuf : L = L.take 2 ++ L.drop 2 := (List.take_append_drop 2 L).symm
 have hrest : (L.getD 2 za).kind = 2 → ∃ q r, At (L.drop 2) 1 q ∧ At (L.drop 2) q r ∧ (mac = true → ∃ s, At (L.drop 2) r s) ∧ At L 3 (q + 2) := fun h2 => by
  obtain ⟨_, q, r, h3, h4, h5⟩ := places hrw h2
  obtain ⟨q', rfl, h3'⟩ := At.drop2 (p := 1) h3
  obtain ⟨r', rfl, h4'⟩ := At.drop2 h4
  refine ⟨q', r', h3', h4', fun hmm => ?_, h3⟩
  obtain ⟨s, h6⟩ := h5 hmm
  obtain ⟨s', _, h6'⟩ := At.drop2 h6
  exact ⟨s', h6'⟩
 refine ⟨⟨?_, by rw [List.length_drop]; omega, fun a ha => hw a (List.mem_of_mem_drop ha), ?_, fun a ha => hx a (List.mem_of_mem_drop ha), fun h2 => ?_⟩, ?_⟩
 ·have key : ∀ n, Rw L (n + 3) 2 → 2 ≤ (L.drop 2).length := by
   rintro n ⟨a, ha, b, hb, c, hc, _⟩
   have h1 := ha.lt
   have h2 := hb.lt
   have h3 := hc.lt
   rw [List.length_drop]
   omega
  cases mac with
  | true => exact key 1 hrw
  | false => exact key 0 hrw
 ·have := congrArg (fun l => (encB l).length) hsuf
  simp only [E7.encB_app, List.length_append] at this
  omega
 ·rw [hM] at h2
  obtain ⟨q, r, h3, h4, h5, _⟩ := hrest h2
  exact ⟨q, r, h3, h4, h5⟩
 ·unfold readL
  rw [if_neg (fun e => e k0), if_neg (by rw [n0]; cases mac <;> decide)]
  simp only [hm]
  rw [if_neg (by rintro (e | e); exact e k1; exact e n1)]
  unfold partsM
  have hM0 : (L.drop 2).getD 0 za = L.getD 2 za := hM 0
  have hM1 : (L.drop 2).getD 1 za = L.getD 3 za := hM 1
  rw [hM0, hM1]
  by_cases h2 : (L.getD 2 za).kind = 2
  ·have c2 : ¬ (L.getD 2 za).kind ≠ 2 := fun e => e h2
   rw [if_neg c2, if_neg c2]
   by_cases hp : (protect (L.getD 2 za).text lim).2 = 0
   ·have cp : ¬ (protect (L.getD 2 za).text lim).2 ≠ 0 := fun e => e hp
    rw [if_neg cp, if_neg cp]
    obtain ⟨q, r, h3, h4, h5, h6⟩ := hrest h2
    have hn : nx L 3 = nx (L.drop 2) 1 + 2 := nx_drop2 (p := 1) h6 hl
    unfold readB
    by_cases h5k : (L.getD 3 za).kind = 5
    ·have c5 : ¬ (L.getD 3 za).kind ≠ 5 := fun e => e h5k
     rw [if_neg c5, if_neg c5]
     have hpr := (map_prs h6 h5k).1
     have hpp := pairs_drop2 (p := 2) hl hpr
     have hpart : part L 3 = part (L.drop 2) 1 := by
      unfold part
      rw [hn, List.drop_drop, show nx (L.drop 2) 1 + 2 - 3 = nx (L.drop 2) 1 - 1 by omega]
     have hpp2 : pairsF L (L.getD 3 za).num 4 = pairsF (L.drop 2) (L.getD 3 za).num 2 := hpp
     simp only [hpp2, hpart, hn, hM]
     rw [show nx (L.drop 2) 1 + 1 + 2 = nx (L.drop 2) 1 + 2 + 1 by omega]
     split
     ·rfl
     ·split
      ·rfl
      ·split
       ·rfl
       ·split
        ·rfl
        ·rfl
    ·have c5 : (L.getD 3 za).kind ≠ 5 := h5k
     rw [if_pos c5, if_pos c5]
   ·rw [if_pos hp, if_pos hp]
  ·rw [if_pos h2, if_pos h2]
end Go.Px.Co
