/-
  The reading of layer 25 as plain functions on plain data. No program is named here.
-/
import Derived.Test.YtddiabaagpmkgaaDoorCoA
namespace Go.Px.Co
open E7 (At nx ItF Kids leaf count)
structure Rec where
  way : Int
  size : Int
  kind : Int
  name : Bytes
  key : Bytes
  salt : Bytes
  rounds : Int
  iv : Bytes
  loose : Bytes
deriving DecidableEq
structure Env where
  fmt : Int
  alg : Int
  to : List Rec
  header : Bytes
  loose : Bytes
  aad : Bytes
  iv : Bytes
  cipher : Bytes
  tag : Bytes
deriving DecidableEq
def zero : Env := ⟨0, 0, [], [], [], [], [], [], []⟩
def za : Atom := ⟨0, 0, []⟩
abbrev Hdr := List (Atom × Atom)
/-- May a label be? -/
def okL (k : Atom) : Bool := k.kind == 0 || k.kind == 1 || k.kind == 3
/-- The pairs of a map, so many from a place. -/
def pairsF (L : List Atom) : Nat → Nat → Hdr
  | 0, _ => []
  | m + 1, p => (L.getD p za, L.getD (nx L p) za) :: pairsF L m (nx L (nx L p))
/-- So many pairs stand from a place on. -/
def Prs (L : List Atom) : Nat → Nat → Prop
  | 0, _ => True
  | m + 1, p => ∃ q r, At L p q ∧ At L q r ∧ Prs L m r
def find (h : Hdr) (n : Nat) : Option Atom := (h.find? fun p => p.1 == ⟨0, n, []⟩).map Prod.snd
def labels (a b : Hdr) : Int :=
  if a.any (fun p => !okL p.1) then 9
  else if b.any (fun p => !okL p.1 || a.any (fun q => q.1 == p.1)) then 9
  else if (find (a ++ b) 2).isSome || (find (a ++ b) 6).isSome then 11
  else 0
/-- The protected header. -/
def protect (s : Bytes) (lim : Lim) : Hdr × Int :=
  if s = [] then ([], 0)
  else
    let m := R7.decode s lim
    if m.2.2 ≠ 0 then ([], m.2.2)
    else if (m.1.getD 0 za).kind ≠ 5 ∨ (m.1.getD 0 za).num = 0 then ([], 9)
    else (pairsF m.1 (m.1.getD 0 za).num 1, 0)
/-- A row: number, key, iv, tag, layer. -/
structure Row where
  alg : Int
  key : Nat
  iv : Nat
  tag : Nat
  layer : Nat
deriving DecidableEq
def table : List Row := [⟨1, 16, 12, 16, 9⟩, ⟨2, 24, 12, 16, 9⟩, ⟨3, 32, 12, 16, 9⟩, ⟨4, 32, 16, 16, 11⟩, ⟨5, 48, 16, 24, 11⟩, ⟨6, 64, 16, 32, 11⟩, ⟨10, 16, 13, 8, 10⟩, ⟨11, 32, 13, 8, 10⟩, ⟨12, 16, 7, 8, 10⟩, ⟨13, 32, 7, 8, 10⟩, ⟨30, 16, 13, 16, 10⟩, ⟨31, 32, 13, 16, 10⟩, ⟨32, 16, 7, 16, 10⟩, ⟨33, 32, 7, 16, 10⟩, ⟨104, 32, 0, 8, 4⟩, ⟨105, 32, 0, 32, 4⟩, ⟨106, 48, 0, 48, 4⟩, ⟨107, 64, 0, 64, 4⟩, ⟨114, 16, 0, 8, 6⟩, ⟨115, 32, 0, 8, 6⟩, ⟨125, 16, 0, 16, 6⟩, ⟨126, 32, 0, 16, 6⟩]
def rowOf (n : Int) : Option Row := table.find? fun r => r.alg == n
/-- The row of a number in a header; a text that is tagged alone has other numbers. -/
def row (mac : Bool) (n : Nat) : Option Row :=
  if 50 < n then none
  else match rowOf (if mac then (n : Int) + 100 else n) with
    | none => none
    | some r => if r.iv = 16 then none else if (r.iv = 0) = (mac = true) then some r else none
def fmtOf (mac : Bool) : Int := if mac then 6 else 5
def direct (name : Bytes) : Rec := ⟨1, 0, 0, name, [], [], 0, [], []⟩
def badName (o : Option Atom) : Bool := match o with
  | none => false
  | some v => v.kind != 2 || v.text == [] || decide (128 < v.text.length)
def nameOf (o : Option Atom) : Bytes := match o with
  | none => []
  | some v => v.text
/-- What follows the labels. -/
def last (mac : Bool) (header loose cipher tag : Bytes) (h : Hdr) : Env × Int :=
  match find h 1 with
  | none => (zero, 9)
  | some v =>
    if v.kind ≠ 0 then (zero, 11)
    else match row mac v.num with
      | none => (zero, 11)
      | some r =>
        if badName (find h 4) = true then (zero, 9)
        else
          if mac = true then
            (if tag.length ≠ r.tag then (zero, 9)
            else if 70000 < cipher.length then (zero, 10)
            else (⟨6, r.alg, [direct (nameOf (find h 4))], header, loose, [], [], cipher, tag⟩, 0))
          else match find h 5 with
            | none => (zero, 9)
            | some v =>
              if v.kind ≠ 2 ∨ v.text.length ≠ r.iv ∨ cipher.length < r.tag then (zero, 9)
              else if 70000 < cipher.length - r.tag ∨ (65536 ≤ cipher.length - r.tag ∧ r.iv = 13) then (zero, 10)
              else (⟨5, r.alg, [direct (nameOf (find h 4))], header, loose, [], v.text, cipher.take (cipher.length - r.tag), cipher.drop (cipher.length - r.tag)⟩, 0)
/-- The bytes of the item at a place. -/
def part (L : List Atom) (p : Nat) : Bytes := E7.encB ((L.drop p).take (nx L p - p))
def readB (mac : Bool) (l : List Atom) (a : Hdr) : Env × Int :=
  if (l.getD 3 za).kind ≠ 5 then (zero, 9)
  else
    let b := pairsF l (l.getD 3 za).num 4
    let t := l.getD (nx l 3) za
    if t.kind = 7 ∧ t.num = 22 then (zero, 11)
    else if t.kind ≠ 2 then (zero, 9)
    else if mac = true ∧ (l.getD (nx l 3 + 1) za).kind ≠ 2 then (zero, 9)
    else if labels a b ≠ 0 then (zero, labels a b)
    else last mac (l.getD 2 za).text (part l 3) t.text (if mac then (l.getD (nx l 3 + 1) za).text else []) (a ++ b)
def readL (l : List Atom) (lim : Lim) : Env × Int :=
  if (l.getD 0 za).kind ≠ 6 then (zero, 9)
  else if (l.getD 0 za).num ≠ 16 ∧ (l.getD 0 za).num ≠ 17 then (zero, 11)
  else
    let mac := (l.getD 0 za).num == 17
    if (l.getD 1 za).kind ≠ 4 ∨ (l.getD 1 za).num ≠ (if mac then 4 else 3) then (zero, 9)
    else if (l.getD 2 za).kind ≠ 2 then (zero, 9)
    else if (protect (l.getD 2 za).text lim).2 ≠ 0 then (zero, (protect (l.getD 2 za).text lim).2)
    else readB mac l (protect (l.getD 2 za).text lim).1
def read (s : Bytes) (lim : Lim) : Env × Int :=
  if (R7.decode s lim).2.2 ≠ 0 then (zero, (R7.decode s lim).2.2) else readL (R7.decode s lim).1 lim
/-! What stands where -/
theorem or_false3 {a b c : Bool} (h : false = (a || b || c)) : a = false ∧ c = false := by
  cases a <;> cases b <;> cases c <;> simp_all
theorem kids_prs {d : Nat} (hd : d ≤ 32) {mp : Bool} : ∀ (m k : Nat) (lst : Bytes) (x : List Atom), Kids (ItF d) mp (2 * m) k lst x false → ∀ (L r : List Atom) (p : Nat), L.drop p = x ++ r → Prs L m p
  | 0, _, _, _, _, _, _, _, _ => trivial
  | m + 1, k, lst, x, h, L, r, p, hL => by
    rw [show 2 * (m + 1) = 2 * m + 1 + 1 by omega] at h
    obtain ⟨x1, y, o1, o2, rfl, h1, ⟨x2, z, o3, o4, rfl, h3, h4, e2⟩, e1⟩ := h
    obtain ⟨rfl, rfl⟩ := or_false3 e1
    obtain ⟨rfl, rfl⟩ := or_false3 e2
    rw [List.append_assoc, List.append_assoc] at hL
    have hL2 : L.drop (p + x1.length) = x2 ++ (z ++ r) := by rw [← List.drop_drop, hL, List.drop_left]
    have hL3 : L.drop (p + x1.length + x2.length) = z ++ r := by rw [← List.drop_drop, hL2, List.drop_left]
    exact ⟨_, _, ⟨⟨d, x1, _, hd, h1, hL, rfl⟩⟩, ⟨⟨d, x2, _, hd, h3, hL2, rfl⟩⟩, kids_prs hd m _ _ z h4 L r _ hL3⟩
theorem getD_head {L r : List Atom} {a : Atom} {p : Nat} (h : L.drop p = a :: r) : L.getD p za = a := by
  have : (L.drop p)[0]? = some a := by rw [h]; rfl
  rw [List.getElem?_drop, Nat.add_zero] at this
  rw [List.getD_eq_getElem?_getD, this]
  rfl
/-- What stands at a place: a leaf, or a node with its kids. -/
theorem At.ways {L : List Atom} {p q : Nat} (h : At L p q) : (leaf (L.getD p za) = true ∧ q = p + 1) ∨
    (leaf (L.getD p za) = false ∧ ∃ d r' r, d ≤ 32 ∧ Kids (ItF d) ((L.getD p za).kind == 5) (count (L.getD p za)) 0 [] r' false ∧ L.drop (p + 1) = r' ++ r ∧ p + 1 + r'.length ≤ L.length) := by
  have hlt := h.lt
  obtain ⟨d, x, r, hd, h1, h2, rfl⟩ := h.it
  cases d with
  | zero =>
    obtain ⟨a, rfl, _, h3, _⟩ := h1
    rw [getD_head h2]
    exact .inl ⟨h3, rfl⟩
  | succ d =>
    rcases h1 with ⟨a, rfl, _, h3, _⟩ | ⟨a, r', rfl, _, h3, hkd⟩
    · rw [getD_head h2]
      exact .inl ⟨h3, rfl⟩
    · rw [getD_head h2]
      refine .inr ⟨h3, d, r', r, by omega, hkd, E7.drop_next h2, ?_⟩
      rw [List.length_cons] at hlt
      omega
theorem leaf5 {a : Atom} (e : a.kind = 5) : leaf a = false := by unfold leaf; simp [e]
theorem leaf4 {a : Atom} (e : a.kind = 4) : leaf a = false := by unfold leaf; simp [e]
theorem leaf6 {a : Atom} (e : a.kind = 6) : leaf a = false := by unfold leaf; simp [e]
theorem leaf2 {a : Atom} (e : a.kind = 2) : leaf a = true := by unfold leaf; simp [e]
theorem count5 {a : Atom} (e : a.kind = 5) : count a = 2 * a.num := by unfold count; simp [e]
theorem count4 {a : Atom} (e : a.kind = 4) : count a = a.num := by unfold count; simp [e]
theorem count6 {a : Atom} (e : a.kind = 6) : count a = 1 := by unfold count; simp [e]
/-- A map's pairs stand behind it. -/
theorem map_prs {L : List Atom} {p q : Nat} (h : At L p q) (hk : (L.getD p za).kind = 5) : Prs L (L.getD p za).num (p + 1) ∧ (L.getD p za).num ≤ L.length := by
  rcases At.ways h with ⟨e, _⟩ | ⟨_, d, r', r, hd, hkd, h2, hl⟩
  · rw [leaf5 hk] at e; cases e
  · have hc := count5 hk
    have hle := Kids.le (fun _ _ h => ItF.pos h) hkd
    rw [hc] at hkd hle
    exact ⟨kids_prs hd _ _ _ _ hkd L r (p + 1) h2, by omega⟩
theorem whole {l : List Atom} {d : Nat} (hd : d ≤ 32) (h : ItF d l false) : At l 0 l.length := ⟨⟨d, l, [], hd, h, by simp, by simp⟩⟩
/-- So many items in a row from a place. -/
def Rw (L : List Atom) : Nat → Nat → Prop
  | 0, _ => True
  | m + 1, p => ∃ q, At L p q ∧ Rw L m q
theorem kids_row {d : Nat} (hd : d ≤ 32) {mp : Bool} : ∀ (m k : Nat) (lst : Bytes) (x : List Atom), Kids (ItF d) mp m k lst x false → ∀ (L r : List Atom) (p : Nat), L.drop p = x ++ r → Rw L m p
  | 0, _, _, _, _, _, _, _, _ => trivial
  | m + 1, k, lst, x, h, L, r, p, hL => by
    obtain ⟨x1, y, o1, o2, rfl, h1, h2, e1⟩ := h
    obtain ⟨rfl, rfl⟩ := or_false3 e1
    rw [List.append_assoc] at hL
    have hL2 : L.drop (p + x1.length) = y ++ r := by rw [← List.drop_drop, hL, List.drop_left]
    exact ⟨_, ⟨⟨d, x1, _, hd, h1, hL, rfl⟩⟩, kids_row hd m _ _ y h2 L r _ hL2⟩
theorem node_row {L : List Atom} {p q : Nat} (h : At L p q) (hk : leaf (L.getD p za) = false) : Rw L (count (L.getD p za)) (p + 1) := by
  rcases At.ways h with ⟨e, _⟩ | ⟨_, d, r', r, hd, hkd, h2, hl⟩
  · rw [hk] at e; cases e
  · exact kids_row hd _ _ _ _ hkd L r (p + 1) h2
/-- The places of an envelope's list. -/
structure Places (l : List Atom) (mac : Bool) : Prop where
  two : At l 2 3
  rest : ∃ q r, At l 3 q ∧ At l q r ∧ (mac = true → ∃ s, At l r s)
theorem second {l : List Atom} {q : Nat} (h : At l 0 q) (h0 : (l.getD 0 za).kind = 6) : ∃ q, At l 1 q := by
  have hr := node_row h (leaf6 h0)
  rw [count6 h0] at hr
  obtain ⟨q, h, _⟩ := hr
  exact ⟨q, h⟩
theorem third {l : List Atom} {q n : Nat} (h : At l 1 q) (h1 : (l.getD 1 za).kind = 4) (hn : (l.getD 1 za).num = n) : Rw l n 2 := by
  have hr := node_row h (leaf4 h1)
  rw [count4 h1, hn] at hr
  exact hr
theorem places {l : List Atom} {mac : Bool} (h : Rw l (if mac then 4 else 3) 2) (h2 : (l.getD 2 za).kind = 2) : Places l mac := by
  have key : ∀ n, Rw l (n + 3) 2 → At l 2 3 ∧ ∃ q r, At l 3 q ∧ At l q r ∧ Rw l n r := by
    rintro n ⟨a, ha, b, hb, c, hc, hr⟩
    have : a = 3 := by
      rcases At.ways ha with ⟨_, e⟩ | ⟨e, _⟩
      · exact e
      · rw [leaf2 h2] at e; cases e
    subst this
    exact ⟨ha, b, c, hb, hc, hr⟩
  cases mac with
  | true =>
    obtain ⟨h1, q, r, h3, h4, s, h5, _⟩ := key 1 h
    exact ⟨h1, q, r, h3, h4, fun _ => ⟨s, h5⟩⟩
  | false =>
    obtain ⟨h1, q, r, h3, h4, _⟩ := key 0 h
    exact ⟨h1, q, r, h3, h4, fun e => by cases e⟩
/-- An item's bytes are what is told of it. -/
theorem part_enc {L : List Atom} {p q : Nat} (h : At L p q) (hl : L.length ≤ 4096) (hw : E7.Wf L) (hb : (E7.encB L).length ≤ 262144) : E7.encode ((L.drop p).take (q - p)) = (part L p, 0) := by
  have hn := h.nx hl
  obtain ⟨d, x, r, hd, h1, h2, rfl⟩ := h.it
  have hx : (L.drop p).take (p + x.length - p) = x := by rw [h2, Nat.add_sub_cancel_left, List.take_left]
  have hL : L = L.take p ++ (x ++ r) := by rw [← h2, List.take_append_drop]
  have hlen : x.length ≤ L.length := by
    have := congrArg List.length hL
    simp only [List.length_append] at this
    omega
  have hwx : E7.Wf x := fun a ha => hw a (by rw [hL]; simp [ha])
  have hbx : (E7.encB x).length ≤ 262144 := by
    have : (E7.encB L).length = (E7.encB (L.take p)).length + ((E7.encB x).length + (E7.encB r).length) := by
      conv => lhs; rw [hL, E7.encB_app, E7.encB_app, List.length_append, List.length_append]
    omega
  unfold part
  rw [hn, hx]
  exact E7.encode_of_it (h1.mono hd) hwx (by omega) hbx
end Go.Px.Co
