/-
 Several texts in one: The telling of layer 17 as plain functions: heads and texts in a row; what is one right item; the stack that counts. No program is named here. What is told is read, and what is read is told (plain laws of layer 17). No program is named here. What is read is one right item whose keys are in order (plain laws of layer 17). No program is named here. Lesser limits, and texts that are cut: the reading is the same, or is refused (plain laws of layer 17). No program is named here. Encode as a plain function, and how the two ways to it agree (plain laws of layer 17). No program is named here.
-/
import Derived.Test.YtddiabaagpmkgaaDoorXR
/-! The telling of layer 17 as plain functions: heads and texts in a row; what is one right item; the stack that counts. No program is named here. -/
namespace Go.Px.R7
/-- What Decode hands back: items, place, error. -/
def decode (s : Bytes) (lim : Lim) : List Atom × Int × Int := if lim.may then (list (read s lim), (read s lim).place, (read s lim).err) else ([], 0, 2)
theorem decode_no {s : Bytes} {lim : Lim} (h : lim.may = false) : decode s lim = ([], 0, 2) := by unfold decode; rw [h]; rfl
theorem decode_yes {s : Bytes} {lim : Lim} (h : lim.may = true) : decode s lim = (list (read s lim), (read s lim).place, (read s lim).err) := by unfold decode; rw [h]; rfl
end Go.Px.R7
namespace Go.Px.E7

def atomB (a : Atom) : Bytes := R7.headB a.kind.toNat (if a.kind == 2 || a.kind == 3 then a.text.length else a.num) ++ a.text
def encB (l : List Atom) : Bytes := l.flatMap atomB
def right (a : Atom) : Bool :=
 if a.kind == 2 then a.num == 0
 else if a.kind == 3 then a.num == 0 && Lib.validD a.text
 else if a.kind == 7 then a.text.isEmpty && (decide (20 ≤ a.num) && decide (a.num ≤ 23))
 else if a.kind == 0 || a.kind == 1 || a.kind == 4 || a.kind == 5 || a.kind == 6 then a.text.isEmpty
 else false
def leaf (a : Atom) : Bool := !(a.kind == 4 || a.kind == 5 || a.kind == 6)
def holds (a : Atom) : Option Nat := if a.kind == 4 then some (min a.num 1099511627776) else if a.kind == 5 then some (2 * min a.num 1099511627776) else if a.kind == 6 then some 1 else none
def count (a : Atom) : Nat := if a.kind == 4 then a.num else if a.kind == 5 then 2 * a.num else 1
def dec : List Nat → List Nat
 | [] => []
 | n :: r => (n - 1) :: r
def pops : List Nat → List Nat
 | [] => []
 | n :: r => if n = 0 then pops r else n :: r
/-- The program's count of what stands within one another. -/
def shape : Bool → List Atom → List Nat → Nat → Option (Nat × List Nat)
 | _, [], left, most => some (most, left)
 | first, a :: r, left, most =>
  if (!first && left.isEmpty) || !right a then none
  else match holds a with
   | some n => shape false r (pops (n :: dec left)) (max most (left.length + 1))
   | none => shape false r (pops (dec left)) most
/-- The reference's. -/
def behind : List Atom → List Nat → Nat → Nat → Option Nat × Nat
 | [], _, most, _ => (none, most)
 | a :: r, left, most, i =>
  if (a.kind == 4 || a.kind == 5) && decide (5000 < a.num) then (none, most)
  else
   let left2 := if leaf a then dec left else count a :: dec left
   if (pops left2).isEmpty then (some (i + 1), max most left2.length) else behind r (pops left2) (max most left2.length) (i + 1)

/-! Items in a row -/
def Kids (R : List Atom → Bool → Prop) (mp : Bool) : Nat → Nat → Bytes → List Atom → Bool → Prop
 | 0, _, _, l, o => l = [] ∧ o = false
 | m + 1, i, last, l, o => ∃ x r o1 o2, l = x ++ r ∧ R x o1 ∧ Kids R mp m (i + 1) (if mp && i % 2 == 0 then encB x else last) r o2 ∧ o = (o1 || (mp && i % 2 == 0 && decide (0 < i) && leB (encB x) last) || o2)
/-- One item, within which at most d stand within one another; the letter says whether keys are out of order somewhere. -/
def ItF : Nat → List Atom → Bool → Prop
 | 0, l, o => ∃ a, l = [a] ∧ right a = true ∧ leaf a = true ∧ o = false
 | d + 1, l, o => (∃ a, l = [a] ∧ right a = true ∧ leaf a = true ∧ o = false) ∨ (∃ a r, l = a :: r ∧ right a = true ∧ leaf a = false ∧ Kids (ItF d) (a.kind == 5) (count a) 0 [] r o)
theorem Kids.mono {R R' : List Atom → Bool → Prop} (h : ∀ l o, R l o → R' l o) {mp : Bool} : ∀ {m i last l o}, Kids R mp m i last l o → Kids R' mp m i last l o
 | 0, _, _, _, _, k => k
 | _ + 1, _, _, _, _, ⟨x, r, o1, o2, e, h1, h2, h3⟩ => ⟨x, r, o1, o2, e, h _ _ h1, Kids.mono h h2, h3⟩
theorem ItF.succ : ∀ {d l o}, ItF d l o → ItF (d + 1) l o
 | 0, _, _, h => .inl h
 | _ + 1, _, _, .inl h => .inl h
 | _ + 1, _, _, .inr ⟨a, r, e, h1, h2, h3⟩ => .inr ⟨a, r, e, h1, h2, h3.mono fun _ _ h => ItF.succ h⟩
theorem ItF.mono {d e : Nat} (hd : d ≤ e) {l : List Atom} {o : Bool} (h : ItF d l o) : ItF e l o := by
 induction hd with
 | refl => exact h
 | step _ ih => exact ih.succ
theorem ItF.pos {d : Nat} {l : List Atom} {o : Bool} (h : ItF d l o) : 1 ≤ l.length := by
 cases d with
 | zero => obtain ⟨a, rfl, _⟩ := h; exact Nat.le_refl _
 | succ d =>
  rcases h with ⟨a, rfl, _⟩ | ⟨a, r, rfl, _⟩
  ·exact Nat.le_refl _
  ·simp
theorem Kids.le {R : List Atom → Bool → Prop} (h : ∀ l o, R l o → 1 ≤ l.length) {mp : Bool} : ∀ {m i last l o}, Kids R mp m i last l o → m ≤ l.length
 | 0, _, _, _, _, _ => Nat.zero_le _
 | m + 1, i, last, l, o, ⟨x, r, o1, o2, e, h1, h2, h3⟩ => by
  have a := h _ _ h1
  have b := Kids.le h h2
  subst e
  simp only [List.length_append]
  omega
theorem ItF.all : ∀ {d l o}, ItF d l o → ∀ a ∈ l, right a = true
 | 0, _, _, ⟨a, e, h, _⟩ => by subst e; intro b hb; rw [List.mem_singleton.1 hb]; exact h
 | d + 1, _, _, .inl ⟨a, e, h, _⟩ => by subst e; intro b hb; rw [List.mem_singleton.1 hb]; exact h
 | d + 1, _, _, .inr ⟨a, r, e, h, _, hk⟩ => by
  subst e
  have inner : ∀ (m i : Nat) (last : Bytes) (mp : Bool) (l : List Atom) (o : Bool), Kids (ItF d) mp m i last l o → ∀ a ∈ l, right a = true := by
   intro m
   induction m with
   | zero => intro i last mp l o k; obtain ⟨rfl, _⟩ := k; intro a ha; cases ha
   | succ m ih =>
    intro i last mp l o ⟨x, r, o1, o2, e, h1, h2, _⟩
    subst e
    intro a ha
    rcases List.mem_append.1 ha with ha | ha
    ·exact ItF.all h1 a ha
    ·exact ih _ _ _ _ _ h2 a ha
  intro b hb
  rcases List.mem_cons.1 hb with rfl | hb
  ·exact h
  ·exact inner _ _ _ _ _ _ hk b hb

/-! From the stack to items -/
def RowsN (R : List Atom → Bool → Prop) : Nat → List Atom → Prop
 | 0, l => l = []
 | n + 1, l => ∃ x r o, l = x ++ r ∧ R x o ∧ RowsN R n r
theorem RowsN.kids {R : List Atom → Bool → Prop} (mp : Bool) : ∀ {n l}, RowsN R n l → ∀ i last, ∃ o, Kids R mp n i last l o
 | 0, _, h => fun _ _ => ⟨false, h, rfl⟩
 | n + 1, _, ⟨x, r, o, e, h1, h2⟩ => fun i last => by
  obtain ⟨o2, k⟩ := RowsN.kids mp h2 (i + 1) (if mp && i % 2 == 0 then encB x else last)
  exact ⟨_, x, r, o, o2, e, h1, k, rfl⟩
theorem RowsN.le {R : List Atom → Bool → Prop} (h : ∀ l o, R l o → 1 ≤ l.length) : ∀ {n l}, RowsN R n l → n ≤ l.length
 | 0, _, _ => Nat.zero_le _
 | n + 1, _, ⟨x, r, o, e, h1, h2⟩ => by
  have a := h _ _ h1
  have b := RowsN.le h h2
  subst e
  simp only [List.length_append]
  omega
def Stk (D : Nat) : List Nat → List Atom → Prop
 | [], l => l = []
 | c :: rest, l => ∃ l1 l2, l = l1 ++ l2 ∧ RowsN (ItF (D - (rest.length + 1))) c l1 ∧ Stk D rest l2
theorem Stk.pops {D : Nat} : ∀ {st l}, Stk D (E7.pops st) l → Stk D st l
 | [], _, h => h
 | n :: r, l, h => by
  unfold E7.pops at h
  by_cases hn : n = 0
  ·rw [if_pos hn] at h
   subst hn
   exact ⟨[], l, rfl, rfl, Stk.pops h⟩
  ·rw [if_neg hn] at h
   exact h
theorem pops_pos : ∀ (st : List Nat), pops st = [] ∨ ∃ n r, pops st = (n + 1) :: r
 | [] => .inl rfl
 | n :: r => by
  unfold pops
  by_cases hn : n = 0
  ·rw [if_pos hn]; exact pops_pos r
  ·rw [if_neg hn]; exact .inr ⟨n - 1, r, by rw [Nat.sub_add_cancel (by omega)]⟩
theorem pops_len : ∀ (st : List Nat), (pops st).length ≤ st.length
 | [] => Nat.le_refl _
 | n :: r => by
  unfold pops
  by_cases hn : n = 0
  ·rw [if_pos hn]; have := pops_len r; simp; omega
  ·rw [if_neg hn]; exact Nat.le_refl _
theorem shape_most : ∀ (l : List Atom) (f : Bool) (left : List Nat) (most m : Nat) (e : List Nat), shape f l left most = some (m, e) → most ≤ m
 | [], f, left, most, m, e, h => by unfold shape at h; simp only [Option.some.injEq, Prod.mk.injEq] at h; omega
 | a :: r, f, left, most, m, e, h => by
  unfold shape at h
  split at h
  ·cases h
  ·split at h
   ·have := shape_most r _ _ _ _ _ h; omega
   ·exact shape_most r _ _ _ _ _ h
theorem holds_leaf {a : Atom} (h : leaf a = true) : holds a = none := by
 unfold leaf at h
 simp only [Bool.not_eq_true', Bool.or_eq_false_iff] at h
 unfold holds
 rw [h.1.1, h.1.2, h.2]
 rfl
theorem holds_some {a : Atom} (h : leaf a = false) : ∃ n, holds a = some n ∧ (n = count a ∨ 1099511627776 ≤ n) := by
 unfold leaf at h
 simp only [Bool.not_eq_false', Bool.or_eq_true] at h
 unfold holds count
 rcases h with (h | h) | h
 ·rw [h]
  refine ⟨_, rfl, ?_⟩
  by_cases hc : a.num ≤ 1099511627776
  ·rw [Nat.min_eq_left hc]; exact .inl rfl
  ·rw [Nat.min_eq_right (by omega)]; exact .inr (Nat.le_refl _)
 ·have h4 : (a.kind == 4) = false := by have := beq_iff_eq.1 h; rw [this]; rfl
  rw [h4, h]
  refine ⟨_, rfl, ?_⟩
  by_cases hc : a.num ≤ 1099511627776
  ·rw [Nat.min_eq_left hc]; exact .inl rfl
  ·rw [Nat.min_eq_right (by omega)]; exact .inr (by omega)
 ·have h4 : (a.kind == 4) = false := by have := beq_iff_eq.1 h; rw [this]; rfl
  have h5 : (a.kind == 5) = false := by have := beq_iff_eq.1 h; rw [this]; rfl
  rw [h4, h5, h]
  exact ⟨1, rfl, .inl rfl⟩
theorem ItF.node {d : Nat} {a : Atom} {r : List Atom} {o : Bool} (h1 : right a = true) (h2 : leaf a = false) (h3 : Kids (ItF d) (a.kind == 5) (count a) 0 [] r o) : ItF (d + 1) (a :: r) o := .inr ⟨a, r, rfl, h1, h2, h3⟩
theorem ItF.one {d : Nat} {a : Atom} (h1 : right a = true) (h2 : leaf a = true) : ItF d [a] false := by
 cases d with
 | zero => exact ⟨a, rfl, h1, h2, rfl⟩
 | succ d => exact .inl ⟨a, rfl, h1, h2, rfl⟩
theorem stk_of_shape (D : Nat) : ∀ (l : List Atom) (left : List Nat) (most m : Nat), shape false l left most = some (m, []) → m ≤ D → left.length ≤ D → (left = [] ∨ ∃ n r, left = (n + 1) :: r) → l.length < 1099511627776 → Stk D left l
 | [], left, most, m, h, _, _, _, _ => by
  unfold shape at h
  simp only [Option.some.injEq, Prod.mk.injEq] at h
  rw [h.2]
  exact rfl
 | a :: r, left, most, m, h, hm, hl, hp, hz => by
  unfold shape at h
  by_cases hc : (!false && left.isEmpty || !right a) = true
  ·rw [if_pos hc] at h; cases h
  ·rw [if_neg hc] at h
   have hc2 : left.isEmpty = false ∧ right a = true := by
    simpa using hc
   obtain ⟨hne, hra⟩ := hc2
   rcases hp with rfl | ⟨n, rest, rfl⟩
   ·cases hne
   ·simp only [List.length_cons] at hl hz
    have hdec : dec ((n + 1) :: rest) = n :: rest := rfl
    rw [hdec] at h
    cases hlf : leaf a
    ·obtain ⟨k, hk, hkc⟩ := holds_some hlf
     rw [hk] at h
     simp only at h
     have hmm := shape_most _ _ _ _ _ _ h
     have := pops_len (k :: n :: rest)
     simp only [List.length_cons] at this hmm
     have ih := (stk_of_shape D r _ _ m h hm (by omega) (pops_pos _) (by omega)).pops
     obtain ⟨l1, l2, rfl, h1, h2⟩ := ih
     obtain ⟨l3, l4, rfl, h3, h4⟩ := h2
     have hkl := RowsN.le (fun _ _ h => ItF.pos h) h1
     have hkc' : k = count a := by
      rcases hkc with e | e
      ·exact e
      ·simp only [List.length_append] at hz; omega
     subst hkc'
     obtain ⟨o, hko⟩ := h1.kids (a.kind == 5) 0 []
     refine ⟨a :: l1 ++ l3, l4, by simp, ⟨a :: l1, l3, o, rfl, ?_, h3⟩, h4⟩
     have e1 : D - (rest.length + 1) = D - ((n :: rest).length + 1) + 1 := by simp only [List.length_cons]; omega
     rw [e1]
     exact ItF.node hra hlf hko
    ·rw [holds_leaf hlf] at h
     simp only at h
     have := pops_len (n :: rest)
     simp only [List.length_cons] at this
     have ih := (stk_of_shape D r _ _ m h hm (by omega) (pops_pos _) (by omega)).pops
     obtain ⟨l1, l2, rfl, h1, h2⟩ := ih
     exact ⟨a :: l1, l2, rfl, ⟨[a], l1, false, rfl, ItF.one hra hlf, h1⟩, h2⟩
theorem it_of_shape {D : Nat} {l : List Atom} {m : Nat} (hn : l ≠ []) (h : shape true l [] 0 = some (m, [])) (hm : m ≤ D) (hz : l.length < 1099511627776) : ∃ o, ItF D l o := by
 cases l with
 | nil => exact absurd rfl hn
 | cons a r =>
  unfold shape at h
  by_cases hc : (!true && ([] : List Nat).isEmpty || !right a) = true
  ·rw [if_pos hc] at h; cases h
  ·rw [if_neg hc] at h
   have hra : right a = true := by simpa using hc
   simp only [List.length_cons] at hz
   cases hlf : leaf a
   ·obtain ⟨k, hk, hkc⟩ := holds_some hlf
    rw [hk] at h
    simp only [dec] at h
    have hmm := shape_most _ _ _ _ _ _ h
    have := pops_len [k]
    simp only [List.length_cons, List.length_nil] at this hmm
    have ih := (stk_of_shape D r _ _ m h hm (by omega) (pops_pos _) (by omega)).pops
    obtain ⟨l1, l2, rfl, h1, rfl⟩ := ih
    have hkl := RowsN.le (fun _ _ h => ItF.pos h) h1
    have hkc' : k = count a := by
     rcases hkc with e | e
     ·exact e
     ·simp only [List.length_append] at hz; omega
    subst hkc'
    obtain ⟨o, hko⟩ := h1.kids (a.kind == 5) 0 []
    rw [List.append_nil]
    refine ⟨o, ?_⟩
    have e1 : D = D - (([] : List Nat).length + 1) + 1 := by simp only [List.length_nil]; omega
    rw [e1]
    exact ItF.node hra hlf hko
   ·rw [holds_leaf hlf] at h
    simp only [dec, pops] at h
    cases r with
    | nil => exact ⟨false, ItF.one hra hlf⟩
    | cons b t =>
     unfold shape at h
     rw [if_pos (by simp)] at h
     cases h

/-! From items to the stack -/
theorem shape_kids (d : Nat) (hR : ∀ x o, ItF d x o → x.length < 1099511627776 → ∀ r c rest most, ∃ m1, shape false (x ++ r) ((c + 1) :: rest) most = shape false r (pops (c :: rest)) m1 ∧ m1 ≤ max most (rest.length + 1 + d)) (mp : Bool) :
  ∀ (n i : Nat) (last : Bytes) (l : List Atom) (o : Bool), Kids (ItF d) mp n i last l o → l.length < 1099511627776 → ∀ r rest most, ∃ m1, shape false (l ++ r) (pops (n :: rest)) most = shape false r (pops rest) m1 ∧ m1 ≤ max most (rest.length + 1 + d) := by
 intro n
 induction n with
 | zero =>
  intro i last l o h _ r rest most
  obtain ⟨rfl, _⟩ := h
  exact ⟨most, rfl, by omega⟩
 | succ n ih =>
  intro i last l o ⟨x, t, o1, o2, e, h1, h2, _⟩ hz r rest most
  subst e
  simp only [List.length_append] at hz
  obtain ⟨m1, e1, l1⟩ := hR x o1 h1 (by omega) (t ++ r) n rest most
  obtain ⟨m2, e2, l2⟩ := ih _ _ _ _ h2 (by omega) r rest m1
  refine ⟨m2, ?_, by omega⟩
  rw [List.append_assoc]
  have hp : pops ((n + 1) :: rest) = (n + 1) :: rest := rfl
  rw [hp, e1, e2]
theorem holds_count {a : Atom} (h : leaf a = false) (hc : count a < 1099511627776) : holds a = some (count a) := by
 unfold leaf at h
 simp only [Bool.not_eq_false', Bool.or_eq_true] at h
 unfold holds
 unfold count at hc ⊢
 rcases h with (h | h) | h
 ·simp only [h, if_true] at hc ⊢
  rw [Nat.min_eq_left (by omega)]
 ·have h4 : (a.kind == 4) = false := by have := beq_iff_eq.1 h; rw [this]; rfl
  simp only [h, h4, if_true] at hc ⊢
  simp only [Bool.false_eq_true, if_false] at hc ⊢
  rw [Nat.min_eq_left (by omega)]
 ·have h4 : (a.kind == 4) = false := by have := beq_iff_eq.1 h; rw [this]; rfl
  have h5 : (a.kind == 5) = false := by have := beq_iff_eq.1 h; rw [this]; rfl
  simp only [h, h4, h5]
  rfl
theorem shape_it : ∀ (d : Nat) (x : List Atom) (o : Bool), ItF d x o → x.length < 1099511627776 → ∀ r c rest most, ∃ m1, shape false (x ++ r) ((c + 1) :: rest) most = shape false r (pops (c :: rest)) m1 ∧ m1 ≤ max most (rest.length + 1 + d) := by
 have one : ∀ (d : Nat) (a : Atom), right a = true → leaf a = true → ∀ r c rest most, ∃ m1, shape false ([a] ++ r) ((c + 1) :: rest) most = shape false r (pops (c :: rest)) m1 ∧ m1 ≤ max most (rest.length + 1 + d) := by
  intro d a h1 h2 r c rest most
  refine ⟨most, ?_, by omega⟩
  show shape false (a :: r) ((c + 1) :: rest) most = _
  rw [shape, if_neg (by simp [h1]), holds_leaf h2]
  rfl
 intro d
 induction d with
 | zero =>
  intro x o h _
  obtain ⟨a, rfl, h1, h2, _⟩ := h
  exact one 0 a h1 h2
 | succ d ih =>
  intro x o h hz
  rcases h with ⟨a, rfl, h1, h2, _⟩ | ⟨a, t, rfl, h1, h2, h3⟩
  ·exact one (d + 1) a h1 h2
  ·intro r c rest most
   have hcl := Kids.le (fun _ _ h => ItF.pos h) h3
   simp only [List.length_cons] at hz
   obtain ⟨m1, e1, l1⟩ := shape_kids d ih (a.kind == 5) (count a) 0 [] t o h3 (by omega) r (c :: rest) (max most (((c + 1) :: rest).length + 1))
   refine ⟨m1, ?_, by simp only [List.length_cons] at l1; omega⟩
   show shape false (a :: (t ++ r)) ((c + 1) :: rest) most = _
   rw [shape, if_neg (by simp [h1]), holds_count h2 (by omega)]
   exact e1
theorem shape_of_it {d : Nat} {l : List Atom} {o : Bool} (h : ItF d l o) (hz : l.length < 1099511627776) : ∃ m, shape true l [] 0 = some (m, []) ∧ m ≤ d ∧ l ≠ [] := by
 have one : ∀ (a : Atom), right a = true → leaf a = true → shape true [a] [] 0 = some (0, []) := by
  intro a h1 h2
  unfold shape
  rw [if_neg (by simp [h1]), holds_leaf h2]
  rfl
 cases d with
 | zero =>
  obtain ⟨a, rfl, h1, h2, _⟩ := h
  exact ⟨0, one a h1 h2, Nat.le_refl _, by simp⟩
 | succ d =>
  rcases h with ⟨a, rfl, h1, h2, _⟩ | ⟨a, t, rfl, h1, h2, h3⟩
  ·exact ⟨0, one a h1 h2, Nat.zero_le _, by simp⟩
  ·have hcl := Kids.le (fun _ _ h => ItF.pos h) h3
   simp only [List.length_cons] at hz
   obtain ⟨m1, e1, l1⟩ := shape_kids d (shape_it d) (a.kind == 5) (count a) 0 [] t o h3 (by omega) [] [] (max 0 (([] : List Nat).length + 1))
   refine ⟨m1, ?_, by simp only [List.length_nil] at l1; omega, by simp⟩
   rw [shape, if_neg (by simp [h1]), holds_count h2 (by omega)]
   rw [List.append_nil] at e1
   exact e1

/-! The two counts agree -/
theorem dec_len (l : List Nat) : (dec l).length = l.length := by cases l <;> rfl
theorem shape_empty {l : List Atom} {most : Nat} (r : Nat × List Nat) (h : shape false l [] most = some r) : l = [] := by
 cases l with
 | nil => rfl
 | cons a t => unfold shape at h; rw [if_pos (by simp)] at h; cases h
theorem shape_right : ∀ (l : List Atom) (f : Bool) (left : List Nat) (most : Nat) (r : Nat × List Nat), shape f l left most = some r → ∀ a ∈ l, right a = true
 | [], _, _, _, _, _ => fun _ h => by cases h
 | a :: t, f, left, most, r, h => by
  unfold shape at h
  split at h
  ·cases h
  ·rename_i hc
   have hra : right a = true := by
    simp only [Bool.or_eq_true, not_or, Bool.not_eq_true', Bool.not_eq_false] at hc
    exact hc.2
   intro b hb
   rcases List.mem_cons.1 hb with rfl | hb
   ·exact hra
   ·split at h
    ·exact shape_right t _ _ _ _ h b hb
    ·exact shape_right t _ _ _ _ h b hb
theorem count_small {a : Atom} {n : Nat} (hlf : leaf a = false) (hn : holds a = some n) (hnl : n ≤ 4096) : ((a.kind == 4 || a.kind == 5) && decide (5000 < a.num)) = false ∧ n = count a := by
 unfold leaf at hlf
 simp only [Bool.not_eq_false', Bool.or_eq_true] at hlf
 unfold holds at hn
 unfold count
 rcases hlf with (h | h) | h
 ·simp only [h, if_true, Option.some.injEq] at hn ⊢
  simp only [Bool.true_or, Bool.true_and, decide_eq_false_iff_not]
  omega
 ·have h4 : (a.kind == 4) = false := by have := beq_iff_eq.1 h; rw [this]; rfl
  simp only [h, h4, if_true, Option.some.injEq, Bool.false_eq_true, if_false] at hn ⊢
  simp only [Bool.or_true, Bool.true_and, decide_eq_false_iff_not]
  omega
 ·have h4 : (a.kind == 4) = false := by have := beq_iff_eq.1 h; rw [this]; rfl
  have h5 : (a.kind == 5) = false := by have := beq_iff_eq.1 h; rw [this]; rfl
  simp only [h, h4, h5, if_true, Option.some.injEq, Bool.false_eq_true, if_false] at hn ⊢
  exact ⟨rfl, hn.symm⟩
theorem small_leaf {a : Atom} (hlf : leaf a = true) : ((a.kind == 4 || a.kind == 5) && decide (5000 < a.num)) = false := by
 unfold leaf at hlf
 simp only [Bool.not_eq_true', Bool.or_eq_false_iff] at hlf
 rw [hlf.1.1, hlf.1.2]
 rfl
/-- How much the count on top may be: no more than what stands behind. -/
theorem shape_top {l : List Atom} {c : Nat} {rest : List Nat} {most m : Nat} (h : shape false l (pops (c :: rest)) most = some (m, [])) (hz : l.length ≤ 4096) : c ≤ l.length := by
 have hl := pops_len (c :: rest)
 have k := (stk_of_shape (max m (rest.length + 1)) l _ _ m h (by omega) (by simp only [List.length_cons] at hl; omega) (pops_pos _) (by omega)).pops
 obtain ⟨l1, l2, rfl, h1, _⟩ := k
 have := RowsN.le (fun _ _ h => ItF.pos h) h1
 simp only [List.length_append]
 omega
theorem behind_of_shape : ∀ (l : List Atom) (f : Bool) (left : List Nat) (most m i : Nat), shape f l left most = some (m, []) → l ≠ [] → l.length ≤ 4096 → left.length ≤ most → behind l left most i = (some (i + l.length), m)
 | [], _, _, _, _, _, _, hn, _, _ => absurd rfl hn
 | a :: r, f, left, most, m, i, h, _, hz, hlm => by
  unfold shape at h
  unfold behind
  simp only [List.length_cons] at hz
  split at h
  ·cases h
  ·cases hlf : leaf a
   ·obtain ⟨n, hn, _⟩ := holds_some hlf
    rw [hn] at h
    simp only at h
    have hnl := shape_top h (by omega)
    obtain ⟨hs, hc⟩ := count_small hlf hn (by omega)
    rw [if_neg (by rw [hs]; simp)]
    subst hc
    simp only [Bool.false_eq_true, if_false, List.length_cons, dec_len]
    cases hp : pops (count a :: dec left) with
    | nil =>
     rw [hp] at h
     have hr := shape_empty _ h
     subst hr
     rw [if_pos (by rfl)]
     unfold shape at h
     simp only [Option.some.injEq, Prod.mk.injEq] at h
     rw [← h.1]
     rfl
    | cons c t =>
     rw [hp] at h
     rw [if_neg (by simp)]
     have hr : r ≠ [] := by
      rintro rfl
      unfold shape at h
      simp at h
     have hlen := pops_len (count a :: dec left)
     rw [hp] at hlen
     simp only [List.length_cons, dec_len] at hlen
     rw [behind_of_shape r false _ _ m (i + 1) h hr (by omega) (by simp only [List.length_cons]; omega)]
     rw [show i + 1 + r.length = i + (r.length + 1) by omega]
   ·rw [holds_leaf hlf] at h
    simp only at h
    rw [if_neg (by rw [small_leaf hlf]; simp)]
    simp only [if_true, dec_len]
    have hmx : max most left.length = most := by omega
    rw [hmx]
    cases hp : pops (dec left) with
    | nil =>
     rw [hp] at h
     have hr := shape_empty _ h
     subst hr
     rw [if_pos (by rfl)]
     unfold shape at h
     simp only [Option.some.injEq, Prod.mk.injEq] at h
     rw [← h.1]
     rfl
    | cons c t =>
     rw [hp] at h
     rw [if_neg (by simp)]
     have hr : r ≠ [] := by
      rintro rfl
      unfold shape at h
      simp at h
     have hlen := pops_len (dec left)
     rw [hp, dec_len] at hlen
     rw [behind_of_shape r false _ _ m (i + 1) h hr (by omega) (by omega)]
     rw [show i + 1 + r.length = i + (r.length + 1) by omega, List.length_cons]
theorem behind_le : ∀ (l : List Atom) (left : List Nat) (most i e m : Nat), behind l left most i = (some e, m) → i < e ∧ e ≤ i + l.length
 | [], _, _, _, _, _, h => by unfold behind at h; simp at h
 | a :: r, left, most, i, e, m, h => by
  rw [behind] at h
  split at h
  ·simp at h
  ·dsimp only at h
   generalize (if leaf a = true then dec left else count a :: dec left) = L at h
   split at h
   ·simp only [Prod.mk.injEq, Option.some.injEq] at h
    simp only [List.length_cons]; omega
   ·have := behind_le r _ _ _ _ _ h
    simp only [List.length_cons]; omega
theorem shape_of_behind : ∀ (l : List Atom) (f : Bool) (left : List Nat) (most m i : Nat), behind l left most i = (some (i + l.length), m) → (∀ a ∈ l, right a = true) → (f = true ∨ left ≠ []) → left.length ≤ most → shape f l left most = some (m, [])
 | [], _, _, _, _, _, h, _, _, _ => by unfold behind at h; simp at h
 | a :: r, f, left, most, m, i, h, hra, hf, hlm => by
  unfold behind at h
  unfold shape
  have ha := hra a (by simp)
  have hrr : ∀ b ∈ r, right b = true := fun b hb => hra b (by simp [hb])
  have hcond : ¬ ((!f && left.isEmpty || !right a) = true) := by
   rw [ha]
   rcases hf with rfl | hf
   ·simp
   ·simp [hf]
  rw [if_neg hcond]
  split at h
  ·simp at h
  ·rename_i hsm
   simp only at h
   cases hlf : leaf a
   ·rw [hlf] at h
    simp only [Bool.false_eq_true, if_false, List.length_cons, dec_len] at h
    have hh : holds a = some (count a) := by
     refine holds_count hlf ?_
     unfold leaf at hlf
     simp only [Bool.not_eq_false', Bool.or_eq_true] at hlf
     unfold count
     rcases hlf with (k | k) | k
     ·rw [k] at hsm ⊢
      simp only [Bool.true_or, Bool.true_and, decide_eq_true_eq] at hsm
      simp only [if_true]
      omega
     ·have h4 : (a.kind == 4) = false := by have := beq_iff_eq.1 k; rw [this]; rfl
      rw [k] at hsm ⊢
      simp only [Bool.or_true, Bool.true_and, decide_eq_true_eq] at hsm
      rw [h4]
      simp only [if_true, Bool.false_eq_true, if_false]
      omega
     ·have h4 : (a.kind == 4) = false := by have := beq_iff_eq.1 k; rw [this]; rfl
      have h5 : (a.kind == 5) = false := by have := beq_iff_eq.1 k; rw [this]; rfl
      rw [h4, h5]
      simp
    rw [hh]
    simp only
    cases hp : pops (count a :: dec left) with
    | nil =>
     rw [hp] at h
     rw [if_pos (by rfl)] at h
     simp only [Prod.mk.injEq, Option.some.injEq] at h
     have hr : r = [] := List.length_eq_zero_iff.1 (by omega)
     subst hr
     rw [← h.2]
     rfl
    | cons c t =>
     rw [hp] at h
     rw [if_neg (by simp)] at h
     have hlen := pops_len (count a :: dec left)
     rw [hp] at hlen
     simp only [List.length_cons, dec_len] at hlen
     exact shape_of_behind r false _ _ m (i + 1) (by rw [show i + 1 + r.length = i + (r.length + 1) by omega]; exact h) hrr (.inr (by simp)) (by simp only [List.length_cons]; omega)
   ·rw [hlf] at h
    rw [holds_leaf hlf]
    simp only [if_true, dec_len, List.length_cons] at h ⊢
    have hmx : max most left.length = most := by omega
    rw [hmx] at h
    cases hp : pops (dec left) with
    | nil =>
     rw [hp] at h
     rw [if_pos (by rfl)] at h
     simp only [Prod.mk.injEq, Option.some.injEq] at h
     have hr : r = [] := List.length_eq_zero_iff.1 (by omega)
     subst hr
     rw [← h.2]
     rfl
    | cons c t =>
     rw [hp] at h
     rw [if_neg (by simp)] at h
     have hlen := pops_len (dec left)
     rw [hp, dec_len] at hlen
     exact shape_of_behind r false _ _ m (i + 1) (by rw [show i + 1 + r.length = i + (r.length + 1) by omega]; exact h) hrr (.inr (by simp)) (by omega)
end Go.Px.E7

/-! What is told is read, and what is read is told (plain laws of layer 17). No program is named here. -/
namespace Go.Px.E7
open R7 (St)

/-! Bytes at a place -/
theorem drop_cons {s t : Bytes} {p : Nat} {c : UInt8} (h : s.drop p = c :: t) : p < s.length ∧ s.getD p 0 = c ∧ s.drop (p + 1) = t := by
 have hp : p < s.length := by
  rcases Nat.lt_or_ge p s.length with h1 | h1
  ·exact h1
  ·rw [List.drop_eq_nil_of_le h1] at h; cases h
 rw [List.drop_eq_getElem_cons hp] at h
 simp only [List.cons.injEq] at h
 exact ⟨hp, by rw [List.getD_eq_getElem?_getD, List.getElem?_eq_getElem hp]; exact h.1, h.2⟩
theorem drop_app {s a t : Bytes} {p : Nat} (h : s.drop p = a ++ t) : s.drop (p + a.length) = t := by
 rw [← List.drop_drop, h, List.drop_left]
theorem drop_len {s a t : Bytes} {p : Nat} (h : s.drop p = a ++ t) (hp : p ≤ s.length) : p + a.length ≤ s.length := by
 have := congrArg List.length h
 simp only [List.length_drop, List.length_append] at this
 omega
theorem drop_part {s a t : Bytes} {p : Nat} (h : s.drop p = a ++ t) : (s.take (p + a.length)).drop p = a := by
 rw [List.drop_take, h, Nat.add_sub_cancel_left, List.take_left]
theorem take_split {s : Bytes} {p q r : Nat} (h1 : p ≤ q) (h2 : q ≤ r) : (s.take r).drop p = (s.take q).drop p ++ (s.take r).drop q := by
 have e : (s.take r).drop q = ((s.take r).drop p).drop (q - p) := by rw [List.drop_drop]; congr 1; omega
 have e2 : (s.take q).drop p = ((s.take r).drop p).take (q - p) := by
  rw [List.drop_take, List.drop_take, List.take_take]; congr 1; omega
 rw [e, e2, List.take_append_drop]
/-! Heads are read -/
theorem want_reads {s : Bytes} {lim : Lim} {x : St} {p : Nat} (h1 : p < s.length) (h2 : (p : Int) < lim.b) (ht : x.taken = p) : R7.want s lim x p = (true, { x with taken := p + 1 }) := by
 unfold R7.want
 rw [if_pos ⟨h1, h2⟩]
 unfold R7.take
 rw [ht, Nat.max_eq_right (Nat.le_succ p)]
theorem argN_reads (s : Bytes) (lim : Lim) (v : Nat) : ∀ (m : Nat) (x : St) (p n : Nat) (t : Bytes), s.drop p = R7.beBytes v m ++ t → ((p + m : Nat) : Int) ≤ lim.b → x.taken = p →
  R7.argN s lim m x p n = (some (n * 256 ^ m + v % 256 ^ m), { x with taken := p + m })
 | 0, x, p, n, t, _, _, ht => by
  unfold R7.argN
  rw [Nat.pow_zero, Nat.mod_one, Nat.mul_one, Nat.add_zero, Nat.add_zero, ← ht]
 | m + 1, x, p, n, t, h, hb, ht => by
  unfold R7.argN
  have h' : s.drop p = UInt8.ofNat (v / 256 ^ m) :: (R7.beBytes v m ++ t) := h
  obtain ⟨h1, h2, h3⟩ := drop_cons h'
  rw [want_reads h1 (by omega) ht]
  simp only
  rw [h2, argN_reads s lim v m _ (p + 1) _ t h3 (by omega) rfl]
  have e : (UInt8.ofNat (v / 256 ^ m)).toNat = v / 256 ^ m % 256 := by simp
  rw [e]
  have e2 : (n * 256 + v / 256 ^ m % 256) * 256 ^ m + v % 256 ^ m = n * 256 ^ (m + 1) + v % 256 ^ (m + 1) := by
   rw [Nat.pow_succ, Nat.mod_mul, Nat.add_mul, Nat.mul_assoc, Nat.mul_comm 256 (256 ^ m), Nat.mul_comm (v / 256 ^ m % 256)]
   omega
  rw [e2, show p + 1 + m = p + (m + 1) by omega]
theorem infoOf_lt (n : Nat) (h : n < 18446744073709551616) : n < 256 ^ (2 ^ R7.infoOf n) ∧ R7.infoOf n ≤ 3 := by
 unfold R7.infoOf
 by_cases h1 : n < 256
 ·rw [if_pos h1]; exact ⟨h1, by omega⟩
 ·rw [if_neg h1]
  by_cases h2 : n < 65536
  ·rw [if_pos h2]; exact ⟨h2, by omega⟩
  ·rw [if_neg h2]
   by_cases h3 : n < 4294967296
   ·rw [if_pos h3]; exact ⟨h3, by omega⟩
   ·rw [if_neg h3]; exact ⟨h, by omega⟩
theorem headB_size (k n : Nat) : (R7.headB k n).length = if n < 24 then 1 else 2 ^ R7.infoOf n + 1 := by
 unfold R7.headB
 split
 ·rfl
 ·rw [List.length_cons, R7.beBytes_len]
theorem head_reads {s t : Bytes} {lim : Lim} {x : St} {p k n : Nat} (hk : k < 8) (hn : n < 18446744073709551616) (h7 : k = 7 → 20 ≤ n ∧ n ≤ 23) (hs : s.drop p = R7.headB k n ++ t) (ht : x.taken = p) (ho : (x.out.length : Int) < lim.i) (hb : ((p + (R7.headB k n).length : Nat) : Int) ≤ lim.b) :
  R7.head s lim x p = (some (k, n, p + (R7.headB k n).length), { x with taken := p + (R7.headB k n).length }) := by
 have hl := headB_size k n
 by_cases h24 : n < 24
 ·rw [if_pos h24] at hl
  rw [hl] at hb ⊢
  have e : R7.headB k n = [UInt8.ofNat (32 * k + n)] := by unfold R7.headB; rw [if_pos h24]
  rw [e] at hs
  obtain ⟨h1, h2, h3⟩ := drop_cons hs
  have hc : (s.getD p 0).toNat = 32 * k + n := by rw [h2, UInt8.toNat_ofNat']; omega
  unfold R7.head
  rw [want_reads h1 (by omega) ht]
  simp only
  rw [if_neg (show ¬ lim.i ≤ (x.out.length : Int) by omega), hc, show (32 * k + n) / 32 = k by omega, show (32 * k + n) % 32 = n by omega, if_neg (by omega), if_neg ?_, if_pos h24]
  intro h
  simp only [Bool.and_eq_true, beq_iff_eq, Bool.or_eq_true, decide_eq_true_eq] at h
  have := h7 h.1
  omega
 ·rw [if_neg h24] at hl
  rw [hl] at hb ⊢
  have e : R7.headB k n = UInt8.ofNat (32 * k + 24 + R7.infoOf n) :: R7.beBytes n (2 ^ R7.infoOf n) := by unfold R7.headB; rw [if_neg h24]
  obtain ⟨i1, i2⟩ := infoOf_lt n hn
  rw [e, List.cons_append] at hs
  obtain ⟨h1, h2, h3⟩ := drop_cons hs
  have hc : (s.getD p 0).toNat = 32 * k + (24 + R7.infoOf n) := by rw [h2, UInt8.toNat_ofNat']; omega
  unfold R7.head
  rw [want_reads h1 (Int.lt_of_lt_of_le (Int.ofNat_lt.2 (Nat.lt_add_of_pos_right (Nat.succ_pos _))) hb) ht]
  simp only
  have hk7 : ¬ k = 7 := fun e7 => by have := h7 e7; omega
  rw [if_neg (show ¬ lim.i ≤ (x.out.length : Int) by omega), hc, show (32 * k + (24 + R7.infoOf n)) / 32 = k by omega, show (32 * k + (24 + R7.infoOf n)) % 32 = 24 + R7.infoOf n by omega, if_neg (by omega), if_neg (by simp [hk7]), if_neg (by omega),
   show 24 + R7.infoOf n - 24 = R7.infoOf n by omega, argN_reads s lim n (2 ^ R7.infoOf n) _ (p + 1) 0 t h3 (by rw [show p + 1 + 2 ^ R7.infoOf n = p + (2 ^ R7.infoOf n + 1) by omega]; exact hb) rfl]
  simp only
  rw [Nat.zero_mul, Nat.zero_add, Nat.mod_eq_of_lt i1, if_pos hl, show p + 1 + 2 ^ R7.infoOf n = p + (2 ^ R7.infoOf n + 1) by omega]
theorem wantN_reads (s : Bytes) (lim : Lim) : ∀ (m : Nat) (x : St) (p : Nat), p + m ≤ s.length → ((p + m : Nat) : Int) ≤ lim.b → x.taken = p → R7.wantN s lim m x p = (true, { x with taken := p + m })
 | 0, x, p, _, _, ht => by unfold R7.wantN; rw [Nat.add_zero, ← ht]
 | m + 1, x, p, h1, h2, ht => by
  unfold R7.wantN
  rw [want_reads (by omega) (by omega) ht]
  simp only
  rw [wantN_reads s lim m _ (p + 1) (by omega) (by omega) rfl, show p + 1 + m = p + (m + 1) by omega]

/-! Items are read -/
def Wf (l : List Atom) : Prop := ∀ a ∈ l, a.num < 18446744073709551616 ∧ a.text.length < 18446744073709551616
theorem Wf.left {a b : List Atom} (h : Wf (a ++ b)) : Wf a := fun x hx => h x (List.mem_append_left _ hx)
theorem Wf.right {a b : List Atom} (h : Wf (a ++ b)) : Wf b := fun x hx => h x (List.mem_append_right _ hx)
theorem encB_app (a b : List Atom) : encB (a ++ b) = encB a ++ encB b := List.flatMap_append
theorem encB_cons (a : Atom) (b : List Atom) : encB (a :: b) = atomB a ++ encB b := List.flatMap_cons
def Reads (x : St) (p : Nat) (l : List Atom) (o : Bool) (res : Option Nat × St) : Prop :=
 if o then ∃ y, res = (none, y) ∧ y.err = 9 else res = (some (p + (encB l).length), { x with out := x.out ++ l, taken := p + (encB l).length })
theorem Reads.bad {x y : St} {p : Nat} {l : List Atom} (h : y.err = 9) : Reads x p l true (none, y) := ⟨y, rfl, h⟩
theorem Reads.ok {x : St} {p : Nat} {l : List Atom} {res : Option Nat × St} (h : Reads x p l false res) : res = (some (p + (encB l).length), { x with out := x.out ++ l, taken := p + (encB l).length }) := h
theorem Reads.no {x : St} {p : Nat} {l : List Atom} {res : Option Nat × St} (h : Reads x p l true res) : ∃ y, res = (none, y) ∧ y.err = 9 := h

def ItemR (s : Bytes) (lim : Lim) (d : Nat) (rc : St → Nat → Option Nat × St) : Prop :=
 ∀ (x : St) (p : Nat) (l : List Atom) (o : Bool) (t : Bytes), ItF d l o → Wf l → x.taken = p → p ≤ s.length → s.drop p = encB l ++ t → ((x.out.length + l.length : Nat) : Int) ≤ lim.i → ((p + (encB l).length : Nat) : Int) ≤ lim.b → Reads x p l o (rc x p)
theorem items_reads {s : Bytes} {lim : Lim} {d : Nat} {rc : St → Nat → Option Nat × St} (hR : ItemR s lim d rc) :
  ∀ (m i : Nat) (last : Bytes) (x : St) (p : Nat) (l : List Atom) (o : Bool) (t : Bytes), Kids (ItF d) false m i last l o → Wf l → x.taken = p → p ≤ s.length → s.drop p = encB l ++ t → ((x.out.length + l.length : Nat) : Int) ≤ lim.i → ((p + (encB l).length : Nat) : Int) ≤ lim.b → Reads x p l o (R7.itemsN rc m x p) := by
 intro m
 induction m with
 | zero =>
  intro i last x p l o t h _ ht _ _ _ _
  obtain ⟨rfl, rfl⟩ := h
  unfold R7.itemsN
  show _ = _
  rw [List.append_nil]
  show (some p, x) = (some (p + 0), { x with taken := p + 0 })
  rw [Nat.add_zero, ← ht]
 | succ m ih =>
  intro i last x p l o t ⟨a, r, o1, o2, e, h1, h2, h3⟩ hw ht hp hs hi hb
  subst e
  simp only [Bool.false_and, Bool.or_false] at h3
  rw [encB_app, List.append_assoc] at hs
  have hlen : (encB (a ++ r)).length = (encB a).length + (encB r).length := by rw [encB_app, List.length_append]
  rw [hlen] at hb
  rw [List.length_append] at hi
  have hr := hR x p a o1 (encB r ++ t) h1 hw.left ht hp hs (by omega) (by omega)
  unfold R7.itemsN
  cases o1 with
  | true =>
   obtain ⟨y, e1, e2⟩ := hr.no
   rw [e1, h3]
   exact Reads.bad e2
  | false =>
   rw [hr.ok]
   simp only [Bool.false_or] at h3
   subst h3
   simp only
   have hk := ih (i + 1) _ { x with out := x.out ++ a, taken := p + (encB a).length } (p + (encB a).length) r o t h2 hw.right rfl (drop_len hs hp) (drop_app hs) (by simp only [List.length_append]; omega) (by omega)
   cases o with
   | true => exact hk
   | false =>
    have := hk.ok
    show R7.itemsN rc m _ _ = _
    rw [this, hlen]
    simp only [List.append_assoc, Nat.add_assoc]
theorem pairs_reads {s : Bytes} {lim : Lim} {d : Nat} {rc : St → Nat → Option Nat × St} (hR : ItemR s lim d rc) :
  ∀ (m i : Nat) (last : Bytes) (x : St) (p : Nat) (l : List Atom) (o : Bool) (t : Bytes), Kids (ItF d) true (2 * m) i last l o → i % 2 = 0 → Wf l → x.taken = p → p ≤ s.length → s.drop p = encB l ++ t → ((x.out.length + l.length : Nat) : Int) ≤ lim.i → ((p + (encB l).length : Nat) : Int) ≤ lim.b → Reads x p l o (R7.pairsN s rc m (if i = 0 then none else some last) x p) := by
 intro m
 induction m with
 | zero =>
  intro i last x p l o t h _ _ ht _ _ _ _
  obtain ⟨rfl, rfl⟩ := h
  unfold R7.pairsN
  show _ = _
  rw [List.append_nil]
  show (some p, x) = (some (p + 0), { x with taken := p + 0 })
  rw [Nat.add_zero, ← ht]
 | succ m ih =>
  intro i last x p l o t h hi0 hw ht hp hs hi hb
  rw [show 2 * (m + 1) = 2 * m + 1 + 1 by omega] at h
  obtain ⟨a, r', o1, o2, e, h1, ⟨c, r, o3, o4, e', h4, h5, h6⟩, h3⟩ := h
  subst e'
  subst e
  have hk0 : (true && i % 2 == 0) = true := by simp [hi0]
  have hk1 : (true && (i + 1) % 2 == 0) = false := by simp; omega
  rw [hk0] at h3
  simp only [hk0, hk1, if_true, Bool.false_eq_true, if_false, Bool.false_and, Bool.or_false, Bool.true_and] at h3 h4 h5 h6
  rw [encB_app, encB_app, List.append_assoc, List.append_assoc] at hs
  have hlen : (encB (a ++ (c ++ r))).length = (encB a).length + ((encB c).length + (encB r).length) := by rw [encB_app, encB_app, List.length_append, List.length_append]
  rw [hlen] at hb
  simp only [List.length_append] at hi
  have hr := hR x p a o1 (encB c ++ (encB r ++ t)) h1 hw.left ht hp hs (by omega) (by omega)
  unfold R7.pairsN
  cases o1 with
  | true =>
   obtain ⟨y, e1, e2⟩ := hr.no
   rw [e1, h3]
   exact Reads.bad e2
  | false =>
   rw [hr.ok]
   simp only [Bool.false_or] at h3
   simp only
   rw [drop_part hs]
   have hany : ((if i = 0 then none else some last : Option Bytes).any fun l => leB (encB a) l) = (decide (0 < i) && leB (encB a) last) := by
    by_cases h0 : i = 0
    ·rw [if_pos h0, h0]; rfl
    ·rw [if_neg h0, decide_eq_true (by omega : 0 < i)]; rfl
   rw [hany]
   cases hb2 : (decide (0 < i) && leB (encB a) last) with
   | true =>
    rw [hb2] at h3
    rw [if_pos rfl, h3]
    exact Reads.bad rfl
   | false =>
    rw [hb2, Bool.false_or] at h3
    rw [if_neg (by simp)]
    have hs2 := drop_app hs
    have hp2 := drop_len hs hp
    have hr2 := hR { x with out := x.out ++ a, taken := p + (encB a).length } (p + (encB a).length) c o3 (encB r ++ t) h4 hw.right.left rfl hp2 hs2 (by simp only [List.length_append]; omega) (by omega)
    cases o3 with
    | true =>
     obtain ⟨y, e1, e2⟩ := hr2.no
     rw [e1, h3, h6]
     exact Reads.bad e2
    | false =>
     rw [hr2.ok]
     simp only [Bool.false_or] at h6
     rw [h6] at h3
     subst h3
     simp only
     have hk := ih (i + 2) (encB a) { x with out := x.out ++ a ++ c, taken := p + (encB a).length + (encB c).length } (p + (encB a).length + (encB c).length) r o t h5 (by omega) hw.right.right rfl (drop_len hs2 hp2) (drop_app hs2) (by simp only [List.length_append]; omega) (by omega)
     rw [if_neg (by omega)] at hk
     cases o with
     | true => exact hk
     | false =>
      have := hk.ok
      show R7.pairsN s rc m _ _ _ = _
      rw [this, hlen]
      simp only [List.append_assoc, Nat.add_assoc]
theorem right_kind {a : Atom} (h : right a = true) : ∃ k : Nat, a.kind = k ∧ k < 8 := by
 unfold right at h
 by_cases h2 : (a.kind == 2) = true
 ·exact ⟨2, by have := beq_iff_eq.1 h2; omega, by omega⟩
 ·rw [if_neg h2] at h
  by_cases h3 : (a.kind == 3) = true
  ·exact ⟨3, by have := beq_iff_eq.1 h3; omega, by omega⟩
  ·rw [if_neg h3] at h
   by_cases h7 : (a.kind == 7) = true
   ·exact ⟨7, by have := beq_iff_eq.1 h7; omega, by omega⟩
   ·rw [if_neg h7] at h
    by_cases h0 : (a.kind == 0 || a.kind == 1 || a.kind == 4 || a.kind == 5 || a.kind == 6) = true
    ·simp only [Bool.or_eq_true, beq_iff_eq] at h0
     exact ⟨a.kind.toNat, by omega, by omega⟩
    ·rw [if_neg h0] at h; cases h
/-- What a right item looks like. -/
theorem right_cases {a : Atom} (h : right a = true) : ∃ k : Nat, a.kind = k ∧ k < 8 ∧ ((k = 2 ∧ a.num = 0) ∨ (k = 3 ∧ a.num = 0 ∧ Lib.validD a.text = true) ∨ (k ≠ 2 ∧ k ≠ 3 ∧ a.text = [] ∧ (k = 7 → 20 ≤ a.num ∧ a.num ≤ 23))) := by
 obtain ⟨k, hk, h8⟩ := right_kind h
 refine ⟨k, hk, h8, ?_⟩
 unfold right at h
 rw [hk] at h
 by_cases h2 : k = 2
 ·subst h2; exact .inl ⟨rfl, by simpa using h⟩
 ·by_cases h3 : k = 3
  ·subst h3; exact .inr (.inl ⟨rfl, by simpa using h⟩)
  ·refine .inr (.inr ⟨h2, h3, ?_⟩)
   have e2 : ((k : Int) == 2) = false := by simp; omega
   have e3 : ((k : Int) == 3) = false := by simp; omega
   rw [e2, e3] at h
   simp only [Bool.false_eq_true, if_false] at h
   by_cases h7 : k = 7
   ·subst h7
    simp at h
    exact ⟨h.1, fun _ => h.2⟩
   ·have e7 : ((k : Int) == 7) = false := by simp; omega
    rw [e7] at h
    simp only [Bool.false_eq_true, if_false] at h
    split at h
    ·exact ⟨by simpa using h, fun e => absurd e h7⟩
    ·cases h
theorem leaf_kind {a : Atom} {k : Nat} (hk : a.kind = k) : leaf a = !(k == 4 || k == 5 || k == 6) := by
 unfold leaf
 rw [hk]
 have e : ∀ m : Nat, ((k : Int) == (m : Int)) = (k == m) := fun m => by
  rw [Bool.eq_iff_iff]; simp only [beq_iff_eq]; omega
 have e4 : ((k : Int) == 4) = (k == 4) := e 4
 have e5 : ((k : Int) == 5) = (k == 5) := e 5
 have e6 : ((k : Int) == 6) = (k == 6) := e 6
 rw [e4, e5, e6]
theorem text_reads {s t : Bytes} {lim : Lim} {x : St} {p : Nat} {a : Atom} {k : Nat} (hk : a.kind = k) (hk2 : k = 2 ∨ k = 3) (hn : a.num = 0) (hv : k = 3 → Lib.validD a.text = true) (hs : s.drop p = encB [a] ++ t) (hp : p ≤ s.length) (hb : ((p + (encB [a]).length : Nat) : Int) ≤ lim.b) :
  R7.textN s lim k a.text.length { x with taken := p + (R7.headB k a.text.length).length } p (p + (R7.headB k a.text.length).length) = (some (p + (encB [a]).length), { x with out := x.out ++ [a], taken := p + (encB [a]).length }) := by
 have hk' : (a.kind == 2 || a.kind == 3) = true := by rw [hk]; rcases hk2 with rfl | rfl <;> rfl
 have e : encB [a] = R7.headB k a.text.length ++ a.text := by
  show (atomB a ++ []) = _
  rw [List.append_nil]
  unfold atomB
  rw [if_pos hk', hk]
  rfl
 rw [e] at hs hb ⊢
 rw [List.append_assoc] at hs
 have h1 := drop_app hs
 have h2 := drop_len hs hp
 have h3 := drop_len h1 h2
 simp only [List.length_append] at hb ⊢
 unfold R7.textN
 rw [wantN_reads s lim a.text.length _ _ h3 (by omega) rfl]
 simp only
 rw [drop_part h1]
 have hva : ¬ ((k == 3 && !Lib.validD a.text) = true) := by
  intro hc
  simp only [Bool.and_eq_true, beq_iff_eq] at hc
  rw [hv hc.1] at hc
  simp at hc
 rw [if_neg hva]
 have ea : (⟨k, 0, a.text⟩ : Atom) = a := by rw [← hk, ← hn]
 rw [ea, Nat.add_assoc]
theorem plain_enc {a : Atom} {k : Nat} (hk : a.kind = k) (h2 : k ≠ 2) (h3 : k ≠ 3) (ht : a.text = []) : atomB a = R7.headB k a.num := by
 unfold atomB
 have e2 : (a.kind == 2) = false := by rw [hk]; simp; omega
 have e3 : (a.kind == 3) = false := by rw [hk]; simp; omega
 rw [e2, e3, ht, hk, List.append_nil]
 rfl
theorem atom_eta {a : Atom} {k : Nat} (hk : a.kind = k) (ht : a.text = []) : (⟨k, a.num, []⟩ : Atom) = a := by rw [← hk, ← ht]
theorem leaf_reads {s t : Bytes} {lim : Lim} {x : St} {p : Nat} {a : Atom} (d : Nat) (h1 : right a = true) (h2 : leaf a = true) (hw : Wf [a]) (ht : x.taken = p) (hp : p ≤ s.length) (hs : s.drop p = encB [a] ++ t) (hi : ((x.out.length + 1 : Nat) : Int) ≤ lim.i) (hb : ((p + (encB [a]).length : Nat) : Int) ≤ lim.b) :
  R7.item s lim d x p = (some (p + (encB [a]).length), { x with out := x.out ++ [a], taken := p + (encB [a]).length }) := by
 obtain ⟨k, hk, h8, hc⟩ := right_cases h1
 rw [leaf_kind hk] at h2
 obtain ⟨w1, w2⟩ := hw a (by simp)
 have hun : ∀ r, R7.head s lim x p = r → R7.item s lim d x p = (match r with
  | (none, y) => (none, y)
  | (some (k, n, at_), y) => if k == 2 || k == 3 then R7.textN s lim k n y p at_ else if k == 4 || k == 5 || k == 6 then (match d with | 0 => (none, R7.fault y p 10) | d + 1 => R7.holdN s (R7.item s lim d) k n y at_) else (some at_, { y with out := y.out ++ [⟨k, n, []⟩] })) := by
  intro r e
  cases d <;> (unfold R7.item; rw [e]; try rfl)
 have fin : k ≠ 2 → k ≠ 3 → a.text = [] → (k = 7 → 20 ≤ a.num ∧ a.num ≤ 23) → R7.item s lim d x p = (some (p + (encB [a]).length), { x with out := x.out ++ [a], taken := p + (encB [a]).length }) := by
  intro n2 n3 ht0 h7
  have e : encB [a] = R7.headB k a.num := by show (atomB a ++ []) = _; rw [List.append_nil]; exact plain_enc hk n2 n3 ht0
  rw [e] at hs hb ⊢
  rw [hun _ (head_reads h8 w1 h7 hs ht (by omega) hb)]
  simp only
  rw [if_neg (by simp; omega), if_neg (by simpa using h2), atom_eta hk ht0]
 have txt : (k = 2 ∨ k = 3) → a.num = 0 → (k = 3 → Lib.validD a.text = true) → R7.item s lim d x p = (some (p + (encB [a]).length), { x with out := x.out ++ [a], taken := p + (encB [a]).length }) := by
  intro hk2 hn hv
  have e : encB [a] = R7.headB k a.text.length ++ a.text := by
   show (atomB a ++ []) = _
   rw [List.append_nil]
   unfold atomB
   rw [if_pos (by rw [hk]; rcases hk2 with rfl | rfl <;> rfl), hk]
   rfl
  have hs' := hs
  have hb' := hb
  rw [e, List.append_assoc] at hs'
  rw [e, List.length_append] at hb'
  rw [hun _ (head_reads h8 w2 (by omega) hs' ht (by omega) (by omega))]
  simp only
  rw [if_pos (by rcases hk2 with rfl | rfl <;> rfl)]
  exact text_reads hk hk2 hn hv hs hp hb
 rcases hc with ⟨rfl, hn⟩ | ⟨rfl, hn, hv⟩ | ⟨n2, n3, ht0, h7⟩
 ·exact txt (.inl rfl) hn (by omega)
 ·exact txt (.inr rfl) hn (fun _ => hv)
 ·exact fin n2 n3 ht0 h7
theorem item_reads (s : Bytes) (lim : Lim) : ∀ d, ItemR s lim d (R7.item s lim d) := by
 intro d
 induction d with
 | zero =>
  intro x p l o t h hw ht hp hs hi hb
  obtain ⟨a, rfl, h1, h2, rfl⟩ := h
  exact leaf_reads 0 h1 h2 hw ht hp hs hi hb
 | succ d ih =>
  intro x p l o t h hw ht hp hs hi hb
  rcases h with ⟨a, rfl, h1, h2, rfl⟩ | ⟨a, r, rfl, h1, h2, h3⟩
  ·exact leaf_reads (d + 1) h1 h2 hw ht hp hs hi hb
  ·obtain ⟨k, hk, h8, hc⟩ := right_cases h1
   rw [leaf_kind hk] at h2
   have h456 : k = 4 ∨ k = 5 ∨ k = 6 := by
    simp only [Bool.not_eq_false', Bool.or_eq_true, beq_iff_eq] at h2
    omega
   have h2' : (k == 4 || k == 5 || k == 6) = true := by rcases h456 with rfl | rfl | rfl <;> rfl
   have ht0 : a.text = [] := by
    rcases hc with ⟨e, _⟩ | ⟨e, _⟩ | ⟨_, _, e, _⟩
    ·omega
    ·omega
    ·exact e
   obtain ⟨w1, w2⟩ := hw a (by simp)
   have hwr : Wf r := fun b hb => hw b (by simp [hb])
   have ea := plain_enc hk (by omega) (by omega) ht0
   rw [encB_cons, ea, List.append_assoc] at hs
   have hlen : (encB (a :: r)).length = (R7.headB k a.num).length + (encB r).length := by rw [encB_cons, ea, List.length_append]
   rw [hlen] at hb
   simp only [List.length_cons] at hi
   have hh := head_reads (lim := lim) h8 w1 (by omega) hs ht (by omega) (by omega)
   unfold R7.item
   rw [hh]
   simp only
   rw [if_neg (by simp; omega), if_pos h2']
   unfold R7.holdN
   simp only
   rw [atom_eta hk ht0]
   have hs2 := drop_app hs
   have hp2 := drop_len hs hp
   have fin : ∀ res : Option Nat × St, Reads { x with out := x.out ++ [a], taken := p + (R7.headB k a.num).length, frames := x.frames + 1 } (p + (R7.headB k a.num).length) r o res →
     Reads x p (a :: r) o (match res with | (some q, z) => (some q, { z with frames := z.frames - 1 }) | (none, z) => (none, z)) := by
    intro res hr
    cases o with
    | true =>
     obtain ⟨y, rfl, hy⟩ := hr.no
     exact Reads.bad hy
    | false =>
     rw [hr.ok]
     show _ = _
     rw [hlen]
     simp only [List.append_assoc, List.singleton_append, Nat.add_assoc, Nat.add_sub_cancel]
   have hi' : ((({ x with out := x.out ++ [a], taken := p + (R7.headB k a.num).length, frames := x.frames + 1 } : St).out.length + r.length : Nat) : Int) ≤ lim.i := by
    simp only [List.length_append, List.length_singleton]
    omega
   rcases h456 with rfl | rfl | rfl
   ·have hm : (a.kind == 5) = false := by rw [hk]; rfl
    have hcn : count a = a.num := by unfold count; rw [hk]; rfl
    rw [hm, hcn] at h3
    rw [if_pos (by rfl)]
    exact fin _ (items_reads ih a.num 0 [] _ _ r o t h3 hwr rfl hp2 hs2 hi' (by omega))
   ·have hm : (a.kind == 5) = true := by rw [hk]; rfl
    have hcn : count a = 2 * a.num := by unfold count; rw [hk]; rfl
    rw [hm, hcn] at h3
    rw [if_neg (by simp), if_pos (by rfl)]
    exact fin _ (pairs_reads ih a.num 0 [] _ _ r o t h3 rfl hwr rfl hp2 hs2 hi' (by omega))
   ·have hm : (a.kind == 5) = false := by rw [hk]; rfl
    have hcn : count a = 1 := by unfold count; rw [hk]; rfl
    rw [hm, hcn] at h3
    rw [if_neg (by simp), if_neg (by simp)]
    have := items_reads ih 1 0 [] { x with out := x.out ++ [a], taken := p + (R7.headB 6 a.num).length, frames := x.frames + 1 } (p + (R7.headB 6 a.num).length) r o t h3 hwr rfl hp2 hs2 hi' (by omega)
    rw [R7.itemsN_one] at this
    exact fin _ this
end Go.Px.E7

/-! What is read is one right item whose keys are in order (plain laws of layer 17). No program is named here. -/
namespace Go.Px.E7
open R7 (St)
open D7 (Ok)

theorem drop_take_self (s : Bytes) (p : Nat) : (s.take p).drop p = [] := List.drop_eq_nil_of_le (by rw [List.length_take]; omega)
theorem drop_take_cons {s : Bytes} {p q : Nat} (h : p < s.length) (hq : p < q) : (s.take q).drop p = s.getD p 0 :: (s.take q).drop (p + 1) := by
 have hl : p < (s.take q).length := by rw [List.length_take]; omega
 rw [List.drop_eq_getElem_cons hl, List.getElem_take, List.getD_eq_getElem?_getD, List.getElem?_eq_getElem h]
 rfl
theorem beBytes_mod (v m c : Nat) (V n : Nat) (hv : v = (n * 256 + c) * 256 ^ m + V) (hV : V < 256 ^ m) : UInt8.ofNat (v / 256 ^ m) = UInt8.ofNat c := by
 have hp : 0 < 256 ^ m := Nat.pow_pos (by omega)
 have e : v / 256 ^ m = n * 256 + c := by
  rw [hv, Nat.mul_comm, Nat.mul_add_div hp, Nat.div_eq_of_lt hV, Nat.add_zero]
 rw [e]
 apply UInt8.toNat_inj.1
 rw [UInt8.toNat_ofNat', UInt8.toNat_ofNat']
 omega
theorem argN_sound (s : Bytes) (lim : Lim) : ∀ (m : Nat) (x : St) (p n v : Nat) (y : St), R7.argN s lim m x p n = (some v, y) → x.taken = p → p ≤ s.length → ∃ V, v = n * 256 ^ m + V ∧ V < 256 ^ m ∧ (s.take (p + m)).drop p = R7.beBytes v m
 | 0, x, p, n, v, y, h, _, _ => by
  unfold R7.argN at h
  simp only [Prod.mk.injEq, Option.some.injEq] at h
  exact ⟨0, by rw [Nat.pow_zero]; omega, by simp, by rw [Nat.add_zero, drop_take_self]; rfl⟩
 | m + 1, x, p, n, v, y, h, ht, hp => by
  unfold R7.argN at h
  cases hw : R7.want s lim x p with
  | mk b z =>
   rw [hw] at h
   cases b
   ·simp at h
   ·obtain ⟨h1, h2, h3, h4⟩ := D7.want_ok hw ht
    simp only at h
    obtain ⟨V, e1, e2, e3⟩ := argN_sound s lim m z (p + 1) _ v y h (by rw [h4]) h2
    have hc := (s.getD p 0).toNat_lt
    refine ⟨(s.getD p 0).toNat * 256 ^ m + V, ?_, ?_, ?_⟩
    ·rw [e1, Nat.pow_succ, Nat.add_mul, Nat.mul_assoc, Nat.mul_comm 256 (256 ^ m)]; omega
    ·rw [Nat.pow_succ]
     have : (s.getD p 0).toNat * 256 ^ m + 256 ^ m ≤ 256 * 256 ^ m := by
      rw [← Nat.succ_mul]; exact Nat.mul_le_mul_right _ hc
     omega
    ·rw [drop_take_cons h2 (by omega)]
     show _ = UInt8.ofNat (v / 256 ^ m) :: R7.beBytes v m
     rw [show p + (m + 1) = p + 1 + m by omega, e3, beBytes_mod v m _ V n e1 e2]
     congr 1
     apply UInt8.toNat_inj.1
     rw [UInt8.toNat_ofNat']
     omega
theorem headB_long {k n a : Nat} (h1 : 24 ≤ a) (h2 : a ≤ 27) (hl : (R7.headB k n).length = 2 ^ (a - 24) + 1) : R7.headB k n = UInt8.ofNat (32 * k + a) :: R7.beBytes n (2 ^ (a - 24)) := by
 have hs := headB_size k n
 rw [hl] at hs
 by_cases h24 : n < 24
 ·rw [if_pos h24] at hs
  have : 0 < 2 ^ (a - 24) := Nat.two_pow_pos _
  omega
 ·rw [if_neg h24] at hs
  have hp : 2 ^ (a - 24) = 2 ^ R7.infoOf n := by omega
  have e : a - 24 = R7.infoOf n := (Nat.pow_right_inj (by omega)).1 hp
  unfold R7.headB
  rw [if_neg h24, ← e, show 32 * k + 24 + (a - 24) = 32 * k + a by omega]
theorem head_sound {s : Bytes} {lim : Lim} {x y : St} {p k n q : Nat} (hok : Ok s lim x p) (h : R7.head s lim x p = (some (k, n, q), y)) :
  (s.take q).drop p = R7.headB k n ∧ (k = 7 → 20 ≤ n ∧ n ≤ 23) := by
 unfold R7.head at h
 cases hw : R7.want s lim x p with
 | mk b z =>
  rw [hw] at h
  cases b
  ·simp at h
  ·obtain ⟨h1, h2, h3, h4⟩ := D7.want_ok hw hok.taken
   have hc := (s.getD p 0).toNat_lt
   simp only at h
   by_cases hi : lim.i ≤ z.out.length
   ·rw [if_pos hi] at h; simp at h
   ·rw [if_neg hi] at h
    obtain ⟨c, hcc⟩ : ∃ c, c = (s.getD p 0).toNat := ⟨_, rfl⟩
    have hcb : s.getD p 0 = UInt8.ofNat c := by rw [hcc]; simp
    rw [← hcc] at h hc
    by_cases h27 : 27 < c % 32
    ·rw [if_pos h27] at h; simp at h
    ·rw [if_neg h27] at h
     by_cases h7 : (c / 32 == 7 && (decide (c % 32 < 20) || decide (23 < c % 32))) = true
     ·rw [if_pos h7] at h; simp at h
     ·rw [if_neg h7] at h
      have h7' : c / 32 = 7 → 20 ≤ c % 32 ∧ c % 32 ≤ 23 := by
       intro e
       simp only [Bool.and_eq_true, beq_iff_eq, Bool.or_eq_true, decide_eq_true_eq] at h7
       omega
      by_cases h24 : c % 32 < 24
      ·rw [if_pos h24] at h
       simp only [Prod.mk.injEq, Option.some.injEq] at h
       obtain ⟨⟨rfl, rfl, rfl⟩, _⟩ := h
       refine ⟨?_, h7'⟩
       rw [drop_take_cons h2 (Nat.lt_succ_self p), drop_take_self, hcb]
       unfold R7.headB
       rw [if_pos h24, show 32 * (c / 32) + c % 32 = c by omega]
      ·rw [if_neg h24] at h
       cases ha : R7.argN s lim (2 ^ (c % 32 - 24)) z (p + 1) 0 with
       | mk o u =>
        rw [ha] at h
        cases o with
        | none => simp at h
        | some v =>
         simp only at h
         by_cases hl : (R7.headB (c / 32) v).length = 2 ^ (c % 32 - 24) + 1
         ·rw [if_pos hl] at h
          simp only [Prod.mk.injEq, Option.some.injEq] at h
          obtain ⟨⟨rfl, rfl, rfl⟩, _⟩ := h
          obtain ⟨V, e1, e2, e3⟩ := argN_sound s lim _ z (p + 1) 0 v u ha (by rw [h4]) h2
          rw [Nat.zero_mul, Nat.zero_add] at e1
          refine ⟨?_, fun e => by have := h7' e; omega⟩
          rw [headB_long (by omega) (by omega) hl, drop_take_cons h2 (by have := Nat.two_pow_pos (c % 32 - 24); omega), e3, hcb, show 32 * (c / 32) + c % 32 = c by omega]
         ·rw [if_neg hl] at h; simp at h

structure Snd (s : Bytes) (lim : Lim) (x y : St) (p q : Nat) (l : List Atom) : Prop where
 wf : Wf l
 out : y.out = x.out ++ l
 bytes : (s.take q).drop p = encB l
 le : p ≤ q
 ok : Ok s lim y q
def ItemS (s : Bytes) (lim : Lim) (d : Nat) (rc : St → Nat → Option Nat × St) : Prop :=
 ∀ (x : St) (p q : Nat) (y : St), Ok s lim x p → rc x p = (some q, y) → ∃ l, ItF d l false ∧ Snd s lim x y p q l
theorem Wf.app {a b : List Atom} (h : Wf a) (k : Wf b) : Wf (a ++ b) := fun x hx => (List.mem_append.1 hx).elim (h x) (k x)
theorem Snd.app {s : Bytes} {lim : Lim} {x y z : St} {p q r : Nat} {a b : List Atom} (h : Snd s lim x y p q a) (k : Snd s lim y z q r b) : Snd s lim x z p r (a ++ b) :=
 ⟨h.wf.app k.wf, by rw [k.out, h.out, List.append_assoc], by rw [take_split h.le k.le, h.bytes, k.bytes, encB_app], Nat.le_trans h.le k.le, k.ok⟩
theorem items_sound {s : Bytes} {lim : Lim} {d : Nat} {rc : St → Nat → Option Nat × St} (hR : ItemS s lim d rc) :
  ∀ (m i : Nat) (last : Bytes) (x : St) (p q : Nat) (y : St), Ok s lim x p → R7.itemsN rc m x p = (some q, y) → ∃ l, Kids (ItF d) false m i last l false ∧ Snd s lim x y p q l
 | 0, i, last, x, p, q, y, hok, h => by
  unfold R7.itemsN at h
  simp only [Prod.mk.injEq, Option.some.injEq] at h
  obtain ⟨rfl, rfl⟩ := h
  exact ⟨[], ⟨rfl, rfl⟩, nofun, (List.append_nil _).symm, drop_take_self s p, Nat.le_refl _, hok⟩
 | m + 1, i, last, x, p, q, y, hok, h => by
  unfold R7.itemsN at h
  cases hr : rc x p with
  | mk o z =>
   rw [hr] at h
   cases o with
   | none => simp at h
   | some t =>
    simp only at h
    obtain ⟨a, ha, sa⟩ := hR x p t z hok hr
    obtain ⟨b, hb, sb⟩ := items_sound hR m (i + 1) last z t q y sa.ok h
    exact ⟨a ++ b, ⟨a, b, false, false, rfl, ha, hb, rfl⟩, sa.app sb⟩
theorem pairs_sound {s : Bytes} {lim : Lim} {d : Nat} {rc : St → Nat → Option Nat × St} (hR : ItemS s lim d rc) :
  ∀ (m i : Nat) (last : Bytes) (x : St) (p q : Nat) (y : St), i % 2 = 0 → Ok s lim x p → R7.pairsN s rc m (if i = 0 then none else some last) x p = (some q, y) → ∃ l, Kids (ItF d) true (2 * m) i last l false ∧ Snd s lim x y p q l
 | 0, i, last, x, p, q, y, _, hok, h => by
  unfold R7.pairsN at h
  simp only [Prod.mk.injEq, Option.some.injEq] at h
  obtain ⟨rfl, rfl⟩ := h
  exact ⟨[], ⟨rfl, rfl⟩, nofun, (List.append_nil _).symm, drop_take_self s p, Nat.le_refl _, hok⟩
 | m + 1, i, last, x, p, q, y, hi, hok, h => by
  unfold R7.pairsN at h
  cases hr : rc x p with
  | mk o z =>
   rw [hr] at h
   cases o with
   | none => simp at h
   | some t =>
    simp only at h
    obtain ⟨a, ha, sa⟩ := hR x p t z hok hr
    rw [sa.bytes] at h
    have hany : ((if i = 0 then none else some last : Option Bytes).any fun l => leB (encB a) l) = (decide (0 < i) && leB (encB a) last) := by
     by_cases h0 : i = 0
     ·rw [if_pos h0, h0]; rfl
     ·rw [if_neg h0, decide_eq_true (by omega : 0 < i)]; rfl
    rw [hany] at h
    cases hb2 : (decide (0 < i) && leB (encB a) last) with
    | true => rw [hb2, if_pos rfl] at h; simp at h
    | false =>
     rw [hb2, if_neg (by simp)] at h
     cases hr2 : rc z t with
     | mk o2 u =>
      rw [hr2] at h
      cases o2 with
      | none => simp at h
      | some t2 =>
       simp only at h
       obtain ⟨c, hc, sc⟩ := hR z t t2 u sa.ok hr2
       have h' : R7.pairsN s rc m (if i + 2 = 0 then none else some (encB a)) u t2 = (some q, y) := by rw [if_neg (by omega)]; exact h
       obtain ⟨b, hb, sb⟩ := pairs_sound hR m (i + 2) (encB a) u t2 q y (by omega) sc.ok h'
       have hk0 : (true && i % 2 == 0) = true := by simp [hi]
       have hk1 : (true && (i + 1) % 2 == 0) = false := by simp; omega
       refine ⟨a ++ (c ++ b), ?_, sa.app (sc.app sb)⟩
       rw [show 2 * (m + 1) = 2 * m + 1 + 1 by omega]
       refine ⟨a, c ++ b, false, false, rfl, ha, ⟨c, b, false, false, rfl, hc, ?_, ?_⟩, ?_⟩
       ·rw [hk1, hk0, if_neg (by simp), if_pos rfl]; exact hb
       ·rw [hk1]; rfl
       ·rw [hk0, Bool.true_and, hb2]; rfl
theorem head_ok {s : Bytes} {lim : Lim} {x y : St} {p k n q : Nat} (hok : Ok s lim x p) (h : R7.head s lim x p = (some (k, n, q), y)) : y = { x with taken := q } ∧ q ≤ s.length ∧ (q : Int) ≤ lim.b ∧ p < q ∧ k < 8 ∧ n < 18446744073709551616 ∧ (x.out.length : Int) < lim.i := by
 have hh := D7.head_eq hok
 rw [h] at hh
 obtain ⟨h1, h2, h3, h4, h5, h6, h7⟩ := hh
 refine ⟨h2, h3, h4, h5, h6, h7, ?_⟩
 have := hok.out
 unfold D7.head at h1
 cases hw : D7.want s lim p with
 | error e => rw [hw] at h1; simp at h1
 | ok c =>
  rw [hw] at h1
  simp only at h1
  by_cases e : (x.out.length : Int) = lim.i
  ·rw [if_pos e] at h1; simp at h1
  ·omega
theorem text_sound {s : Bytes} {lim : Lim} {x y : St} {p q k n at_ : Nat} (hok : Ok s lim x p) (hh : R7.head s lim x p = (some (k, n, at_), { x with taken := at_ })) (h23 : k = 2 ∨ k = 3) (h : R7.textN s lim k n { x with taken := at_ } p at_ = (some q, y)) (d : Nat) :
  ∃ l, ItF d l false ∧ Snd s lim x y p q l := by
 obtain ⟨_, g2, g3, g4, g5, g6, g7⟩ := head_ok hok hh
 obtain ⟨g8, _⟩ := head_sound hok hh
 have hw := D7.wantN_eq s lim n { x with taken := at_ } at_ rfl g2 g3
 unfold R7.textN at h
 cases hr : R7.wantN s lim n { x with taken := at_ } at_ with
 | mk o z =>
  rw [hr] at hw h
  cases o with
  | false => simp at h
  | true =>
   obtain ⟨a, b, c⟩ := hw
   simp only at h
   by_cases hv : (k == 3 && !Lib.validD ((s.take (at_ + n)).drop at_)) = true
   ·rw [if_pos hv] at h; simp at h
   ·rw [if_neg hv] at h
    simp only [Prod.mk.injEq, Option.some.injEq] at h
    obtain ⟨rfl, rfl⟩ := h
    have hlen : ((s.take (at_ + n)).drop at_).length = n := by rw [List.length_drop, List.length_take]; omega
    refine ⟨[⟨k, 0, (s.take (at_ + n)).drop at_⟩], ItF.one ?_ ?_, fun x hx => ?_, ?_, ?_, by omega, b, c, ?_, ?_⟩
    ·unfold right
     rcases h23 with rfl | rfl
     ·rfl
     ·show (0 == 0 && Lib.validD _) = true
      simpa using hv
    ·rcases h23 with rfl | rfl <;> rfl
    ·rw [List.mem_singleton.1 hx]
     exact ⟨by show (0 : Nat) < _; omega, by show ((s.take (at_ + n)).drop at_).length < _; rw [hlen]; exact g6⟩
    ·rw [a]
    ·rw [take_split (Nat.le_of_lt g4) (Nat.le_add_right at_ n), g8]
     show _ = atomB _ ++ []
     rw [List.append_nil]
     unfold atomB
     rw [if_pos (by rcases h23 with rfl | rfl <;> rfl)]
     show _ = R7.headB ((k : Int)).toNat ((s.take (at_ + n)).drop at_).length ++ _
     rw [hlen]
     rfl
    ·rw [a]
    ·rw [a]
     show (((x.out ++ [_]).length : Nat) : Int) ≤ lim.i
     rw [List.length_append, List.length_singleton]
     omega
theorem encB_one (a : Atom) : encB [a] = atomB a := List.append_nil _
theorem plain_right {k n : Nat} (h2 : ¬ (k = 2 ∨ k = 3)) (h8 : k < 8) (h7 : k = 7 → 20 ≤ n ∧ n ≤ 23) : right ⟨k, n, []⟩ = true := by
 unfold right
 have hc : k = 0 ∨ k = 1 ∨ k = 4 ∨ k = 5 ∨ k = 6 ∨ k = 7 := by omega
 rcases hc with rfl | rfl | rfl | rfl | rfl | rfl
 ·rfl
 ·rfl
 ·rfl
 ·rfl
 ·rfl
 ·have := h7 rfl
  show (true && (decide (20 ≤ n) && decide (n ≤ 23))) = true
  simp [this]
theorem one_snd {s : Bytes} {lim : Lim} {x : St} {p k n q : Nat} (hok : Ok s lim x p) (hh : R7.head s lim x p = (some (k, n, q), { x with taken := q })) (h23 : ¬ (k = 2 ∨ k = 3)) (fr : Nat) :
  Snd s lim x { x with out := x.out ++ [⟨k, n, []⟩], taken := q, frames := fr } p q [⟨k, n, []⟩] ∧ right ⟨k, n, []⟩ = true := by
 obtain ⟨_, g2, g3, g4, g5, g6, g7⟩ := head_ok hok hh
 obtain ⟨g8, g9⟩ := head_sound hok hh
 refine ⟨⟨fun x hx => ?_, rfl, ?_, by omega, g2, g3, rfl, ?_⟩, plain_right h23 g5 g9⟩
 ·rw [List.mem_singleton.1 hx]
  exact ⟨g6, by show (0 : Nat) < _; omega⟩
 ·rw [g8, encB_one]
  exact (plain_enc (a := ⟨k, n, []⟩) rfl (by omega) (by omega) rfl).symm
 ·show (((x.out ++ [_]).length : Nat) : Int) ≤ lim.i
  rw [List.length_append, List.length_singleton]
  omega
theorem Snd.frames {s : Bytes} {lim : Lim} {x y : St} {p q : Nat} {l : List Atom} (h : Snd s lim x y p q l) (f : Nat) : Snd s lim x { y with frames := f } p q l := ⟨h.wf, h.out, h.bytes, h.le, h.ok.ps, h.ok.pb, h.ok.taken, h.ok.out⟩
theorem item_sound (s : Bytes) (lim : Lim) : ∀ d, ItemS s lim d (R7.item s lim d) := by
 have common : ∀ (d : Nat) (x y : St) (p q k n at_ : Nat), Ok s lim x p → R7.head s lim x p = (some (k, n, at_), { x with taken := at_ }) → ¬ (k = 2 ∨ k = 3) → ¬ (k == 4 || k == 5 || k == 6) = true →
   ((some at_, { ({ x with taken := at_ } : St) with out := x.out ++ [⟨k, n, []⟩] }) : Option Nat × St) = (some q, y) → ∃ l, ItF d l false ∧ Snd s lim x y p q l := by
  intro d x y p q k n at_ hok hh h23 h456 e
  simp only [Prod.mk.injEq, Option.some.injEq] at e
  obtain ⟨rfl, rfl⟩ := e
  obtain ⟨h1, h2⟩ := one_snd hok hh h23 x.frames
  refine ⟨[⟨k, n, []⟩], ItF.one h2 ?_, h1⟩
  rw [leaf_kind (k := k) rfl]
  simpa using h456
 intro d
 induction d with
 | zero =>
  intro x p q y hok h
  unfold R7.item at h
  cases hr : R7.head s lim x p with
  | mk o z =>
   rw [hr] at h
   cases o with
   | none => simp at h
   | some t =>
    obtain ⟨k, n, at_⟩ := t
    obtain ⟨rfl, _⟩ := head_ok hok hr
    simp only at h
    by_cases h23 : (k == 2 || k == 3) = true
    ·rw [if_pos h23] at h
     simp only [Bool.or_eq_true, beq_iff_eq] at h23
     exact text_sound hok hr h23 h 0
    ·rw [if_neg h23] at h
     by_cases h456 : (k == 4 || k == 5 || k == 6) = true
     ·rw [if_pos h456] at h; simp at h
     ·rw [if_neg h456] at h
      exact common 0 x y p q k n at_ hok hr (by simpa using h23) h456 h
 | succ d ih =>
  intro x p q y hok h
  unfold R7.item at h
  cases hr : R7.head s lim x p with
  | mk o z =>
   rw [hr] at h
   cases o with
   | none => simp at h
   | some t =>
    obtain ⟨k, n, at_⟩ := t
    obtain ⟨rfl, _⟩ := head_ok hok hr
    simp only at h
    by_cases h23 : (k == 2 || k == 3) = true
    ·rw [if_pos h23] at h
     simp only [Bool.or_eq_true, beq_iff_eq] at h23
     exact text_sound hok hr h23 h (d + 1)
    ·rw [if_neg h23] at h
     by_cases h456 : (k == 4 || k == 5 || k == 6) = true
     ·rw [if_pos h456] at h
      obtain ⟨h1, h2⟩ := one_snd hok hr (by simpa using h23) (x.frames + 1)
      have hlf : leaf ⟨k, n, []⟩ = false := by rw [leaf_kind (k := k) rfl, h456]; rfl
      unfold R7.holdN at h
      simp only at h
      have fin : ∀ res : Option Nat × St, (match res with | (some q, z) => (some q, { z with frames := z.frames - 1 }) | (none, z) => (none, z)) = (some q, y) →
        (∀ z, res = (some q, z) → ∃ l, Kids (ItF d) ((k : Int) == 5) (count ⟨k, n, []⟩) 0 [] l false ∧ Snd s lim { x with out := x.out ++ [⟨k, n, []⟩], taken := at_, frames := x.frames + 1 } z at_ q l) → ∃ l, ItF (d + 1) l false ∧ Snd s lim x y p q l := by
       intro res e hk
       obtain ⟨o, z⟩ := res
       cases o with
       | none => simp at e
       | some q' =>
        simp only [Prod.mk.injEq, Option.some.injEq] at e
        obtain ⟨rfl, rfl⟩ := e
        obtain ⟨l, k1, k2⟩ := hk z rfl
        exact ⟨⟨k, n, []⟩ :: l, ItF.node h2 hlf k1, (h1.app k2).frames _⟩
      refine fin _ h ?_
      intro z hz
      simp only [Bool.or_eq_true, beq_iff_eq] at h456
      rcases h456 with (rfl | rfl) | rfl
      ·rw [if_pos (by rfl)] at hz
       exact items_sound ih n 0 [] _ _ _ _ h1.ok hz
      ·rw [if_neg (by simp), if_pos (by rfl)] at hz
       exact pairs_sound ih n 0 [] _ _ _ _ rfl h1.ok hz
      ·rw [if_neg (by simp), if_neg (by simp), ← R7.itemsN_one (R7.item s lim d)] at hz
       exact items_sound ih 1 0 [] _ _ _ _ h1.ok hz
     ·rw [if_neg h456] at h
      exact common (d + 1) x y p q k n at_ hok hr (by simpa using h23) h456 h

/-! Decode, by items -/
theorem start_ok {s : Bytes} {lim : Lim} (hm : lim.may = true) : Ok s lim R7.start 0 := by
 have hmay := Cf.may_of hm
 exact ⟨Nat.zero_le _, by omega, rfl, by show ((0 : Nat) : Int) ≤ lim.i; omega⟩
theorem decode_of_it {l : List Atom} {o : Bool} {lim : Lim} (hm : lim.may = true) (h : ItF lim.d.toNat l o) (hw : Wf l) (hi : (l.length : Int) ≤ lim.i) (hb : ((encB l).length : Int) ≤ lim.b) :
  if o then (R7.decode (encB l) lim).2.2 = 9 else R7.decode (encB l) lim = (l, 0, 0) := by
 have hr := item_reads (encB l) lim lim.d.toNat R7.start 0 l o [] h hw rfl (Nat.zero_le _) (List.append_nil _).symm (by show ((0 + l.length : Nat) : Int) ≤ lim.i; omega) (by omega)
 rw [R7.decode_yes hm]
 unfold R7.read
 cases o with
 | true =>
  obtain ⟨y, e1, e2⟩ := hr.no
  rw [e1]
  exact e2
 | false =>
  rw [hr.ok]
  simp only [Nat.zero_add, Nat.lt_irrefl, if_false]
  show (R7.list _, (0 : Int), (0 : Int)) = _
  unfold R7.list
  simp [R7.start]
theorem decode_sound {s : Bytes} {lim : Lim} (h : (R7.decode s lim).2.2 = 0) :
  lim.may = true ∧ (R7.decode s lim).2.1 = 0 ∧ ItF lim.d.toNat (R7.decode s lim).1 false ∧ Wf (R7.decode s lim).1 ∧ s = encB (R7.decode s lim).1 ∧ ((R7.decode s lim).1.length : Int) ≤ lim.i ∧ (s.length : Int) ≤ lim.b ∧
   ∃ y, R7.item s lim lim.d.toNat R7.start 0 = (some s.length, y) ∧ y.out = (R7.decode s lim).1 ∧ y.err = 0 ∧ y.place = 0 := by
 cases hm : lim.may with
 | false => rw [R7.decode_no hm] at h; simp at h
 | true =>
  rw [R7.decode_yes hm] at h ⊢
  simp only at h
  have hok := start_ok (s := s) hm
  have hmay := Cf.may_of hm
  have hsim := R7.item_sim (s := s) hm lim.d.toNat R7.start 0 { Cf.init lim with text := s.take 0, out := [], stack := [] } ⟨⟨rfl, rfl, Nat.zero_le _, by omega, rfl, rfl, rfl, rfl, rfl⟩, rfl, rfl, by show ((0 + lim.d.toNat : Nat) : Int) = lim.d; omega⟩ (by show ((0 : Nat) : Int) ≤ lim.i; omega)
  unfold R7.read at h ⊢
  cases hr : R7.item s lim lim.d.toNat R7.start 0 with
  | mk o y =>
   rw [hr] at h hsim
   cases o with
   | none => exact absurd h hsim.xerr
   | some q =>
    obtain ⟨i1, _⟩ := hsim
    simp only at h ⊢
    by_cases hlt : q < s.length
    ·rw [if_pos hlt] at h
     exfalso
     cases hw : R7.want s lim y q with
     | mk b z =>
      rw [hw] at h
      cases b
      ·unfold R7.want at hw
       split at hw
       ·simp at hw
       ·split at hw <;> (simp only [Prod.mk.injEq, true_and] at hw; subst hw; simp [R7.fault] at h)
      ·simp [R7.fault] at h
    ·rw [if_neg hlt]
     obtain ⟨l, h1, h2⟩ := item_sound s lim lim.d.toNat R7.start 0 q y hok hr
     have hq : q = s.length := by have := h2.ok.ps; omega
     subst hq
     have hout : y.out = l := h2.out
     have hl : R7.list y = l := by unfold R7.list; rw [i1.err]; simpa using hout
     have hp : y.place = 0 := i1.place
     simp only [hl]
     refine ⟨trivial, hp, h1, h2.wf, ?_, ?_, h2.ok.pb, y, rfl, hout, i1.err, hp⟩
     ·have := h2.bytes
      rwa [List.take_length, List.drop_zero] at this
     ·have := h2.ok.out
      rwa [hout] at this
end Go.Px.E7

/-! Lesser limits, and texts that are cut: the reading is the same, or is refused (plain laws of layer 17). No program is named here. -/
namespace Go.Px.E7
open R7 (St)

section
variable {s s' : Bytes} {lim lim' : Lim} {e : Nat} {Bad : St → Prop}
end

/-! What follows for Decode -/
/-- A reading that went well, by the reader. -/
def Well (s : Bytes) (lim : Lim) (l : List Atom) : Prop := ∃ y, R7.item s lim lim.d.toNat R7.start 0 = (some s.length, y) ∧ y.out = l ∧ y.err = 0 ∧ y.place = 0
theorem Well.decode {s : Bytes} {lim : Lim} {l : List Atom} (hm : lim.may = true) (h : Well s lim l) : R7.decode s lim = (l, 0, 0) := by
 obtain ⟨y, h1, h2, h3, h4⟩ := h
 rw [R7.decode_yes hm]
 unfold R7.read
 rw [h1]
 simp only [Nat.lt_irrefl, if_false]
 rw [h3, h4]
 unfold R7.list
 rw [h3, h2]
 rfl
theorem one_le_size (n : Nat) : 1 ≤ (if n < 24 then 1 else 2 ^ R7.infoOf n + 1) := by
 split
 ·exact Nat.le_refl _
 ·exact Nat.le_add_left _ _
end Go.Px.E7

/-! Encode as a plain function, and how the two ways to it agree (plain laws of layer 17). No program is named here. -/
namespace Go.Px.E7

def encLim : Lim := ⟨32, 4096, 262144, 1⟩
def encode (l : List Atom) : Bytes × Int :=
 if 4096 < l.length then ([], 10)
 else match shape true l [] 0 with
  | none => ([], 9)
  | some (m, left) =>
   if l.isEmpty || !left.isEmpty then ([], 9)
   else if 32 < m then ([], 10)
   else if 262144 < (encB l).length then ([], 10)
   else if (R7.decode (encB l) encLim).2.2 = 0 then (encB l, 0) else ([], 9)
theorem encLim_may : encLim.may = true := by decide

/-- The ways that Encode goes. -/
inductive Enc (l : List Atom) : Bytes × Int → Prop
 | many : 4096 < l.length → Enc l ([], 10)
 | form : l.length ≤ 4096 → (∀ o, ¬ ItF 4096 l o) → Enc l ([], 9)
 | deep (m : Nat) : l.length ≤ 4096 → shape true l [] 0 = some (m, []) → l ≠ [] → 32 < m → Enc l ([], 10)
 | long (o : Bool) (m : Nat) : l.length ≤ 4096 → shape true l [] 0 = some (m, []) → l ≠ [] → m ≤ 32 → ItF 32 l o → 262144 < (encB l).length → Enc l ([], 10)
 | out (m : Nat) : l.length ≤ 4096 → shape true l [] 0 = some (m, []) → l ≠ [] → m ≤ 32 → ItF 32 l true → (encB l).length ≤ 262144 → Enc l ([], 9)
 | ok (m : Nat) : l.length ≤ 4096 → shape true l [] 0 = some (m, []) → l ≠ [] → m ≤ 32 → ItF 32 l false → (encB l).length ≤ 262144 → Enc l (encB l, 0)
theorem encode_enc (l : List Atom) (hw : Wf l) : Enc l (encode l) := by
 unfold encode
 by_cases h0 : 4096 < l.length
 ·rw [if_pos h0]; exact .many h0
 ·rw [if_neg h0]
  have hform : (∀ m, ¬ (shape true l [] 0 = some (m, []) ∧ l ≠ [])) → Enc l ([], 9) := by
   intro h
   refine .form (by omega) fun o ho => ?_
   obtain ⟨m, h1, h2, h3⟩ := shape_of_it ho (by omega)
   exact h m ⟨h1, h3⟩
  cases hs : shape true l [] 0 with
  | none => exact hform fun m h => by rw [hs] at h; cases h.1
  | some r =>
   obtain ⟨m, left⟩ := r
   simp only
   by_cases hc : (l.isEmpty || !left.isEmpty) = true
   ·rw [if_pos hc]
    refine hform fun m2 h => ?_
    rw [hs] at h
    simp only [Option.some.injEq, Prod.mk.injEq] at h
    obtain ⟨⟨_, rfl⟩, h2⟩ := h
    simp at hc
    exact h2 hc
   ·rw [if_neg hc]
    simp only [Bool.or_eq_true, List.isEmpty_iff, Bool.not_eq_true', not_or, Bool.not_eq_false] at hc
    obtain ⟨hn, hl⟩ := hc
    have hl' : left = [] := by simpa using hl
    subst hl'
    by_cases h32 : 32 < m
    ·rw [if_pos h32]; exact .deep m (by omega) hs hn h32
    ·rw [if_neg h32]
     obtain ⟨o, ho⟩ := it_of_shape (D := 32) hn hs (by omega) (by omega)
     by_cases hb : 262144 < (encB l).length
     ·rw [if_pos hb]; exact .long o m (by omega) hs hn (by omega) ho hb
     ·rw [if_neg hb]
      have hd := decode_of_it (lim := encLim) encLim_may ho hw (by show (l.length : Int) ≤ 4096; omega) (by show ((encB l).length : Int) ≤ 262144; omega)
      cases o with
      | true =>
       rw [if_pos rfl] at hd
       rw [hd, if_neg (by omega)]
       exact .out m (by omega) hs hn (by omega) ho (by omega)
      | false =>
       have hd' : R7.decode (encB l) encLim = (l, 0, 0) := hd
       rw [hd', if_pos rfl]
       exact .ok m (by omega) hs hn (by omega) ho (by omega)
theorem encode_of_it {l : List Atom} (h : ItF 32 l false) (hw : Wf l) (hi : l.length ≤ 4096) (hb : (encB l).length ≤ 262144) : encode l = (encB l, 0) := by
 obtain ⟨m, h1, h2, h3⟩ := shape_of_it h (by omega)
 unfold encode
 rw [if_neg (by omega), h1]
 simp only
 have hd : R7.decode (encB l) encLim = (l, 0, 0) := decode_of_it (lim := encLim) encLim_may h hw (by show (l.length : Int) ≤ 4096; omega) (by show ((encB l).length : Int) ≤ 262144; omega)
 rw [if_neg (by simpa using h3), if_neg (by omega), if_neg (by omega), hd, if_pos rfl]
theorem encode_decode {s : Bytes} {lim : Lim} (h : (R7.decode s lim).2.2 = 0) : encode (R7.decode s lim).1 = (s, 0) := by
 obtain ⟨hm, _, h1, h2, h3, h4, h5, _⟩ := decode_sound h
 have hmay := Cf.may_of hm
 have := encode_of_it (h1.mono (by omega : lim.d.toNat ≤ 32)) h2 (by omega) (by rw [← h3]; omega)
 rw [← h3] at this
 exact this
/-- The reference's way. -/
theorem enc_right {l : List Atom} (h0 : l.length ≤ 4096) {a : Atom} (ha : a ∈ l) (hr : right a = false) (hw : Wf l) : encode l = ([], 9) := by
 have := encode_enc l hw
 generalize encode l = r at this
 have nor : ∀ {d o}, ¬ ItF d l o := fun h => by rw [h.all a ha] at hr; cases hr
 have nos : ∀ {r}, shape true l [] 0 ≠ some r := fun h => by rw [shape_right l _ _ _ _ h a ha] at hr; cases hr
 cases this with
 | many h => omega
 | form => rfl
 | deep _ _ h => exact absurd h nos
 | long _ _ _ h => exact absurd h nos
 | out => rfl
 | ok _ _ h => exact absurd h nos
theorem enc_behind {l : List Atom} (h0 : l.length ≤ 4096) (hw : Wf l) (h : ∀ m, behind l [] 0 0 ≠ (some l.length, m)) : encode l = ([], 9) := by
 have := encode_enc l hw
 generalize encode l = r at this
 have nos : ∀ {m}, l ≠ [] → shape true l [] 0 ≠ some (m, []) := fun {m} hn hs => h m (by have := behind_of_shape l true [] 0 m 0 hs hn h0 (Nat.le_refl _); rwa [Nat.zero_add] at this)
 cases this with
 | many h => omega
 | form => rfl
 | deep _ _ h hn => exact absurd h (nos hn)
 | long _ _ _ h hn => exact absurd h (nos hn)
 | out => rfl
 | ok _ _ h hn => exact absurd h (nos hn)
theorem enc_on {l : List Atom} (h0 : l.length ≤ 4096) (hw : Wf l) (hr : ∀ a ∈ l, right a = true) {m : Nat} (h : behind l [] 0 0 = (some l.length, m)) :
  (32 < m → encode l = ([], 10)) ∧ (m ≤ 32 → ∃ o, ItF 32 l o ∧ (262144 < (encB l).length → encode l = ([], 10)) ∧ ((encB l).length ≤ 262144 → encode l = if o then ([], 9) else (encB l, 0))) := by
 have hn : l ≠ [] := by rintro rfl; unfold behind at h; simp at h
 have hs := shape_of_behind l true [] 0 m 0 (by rw [Nat.zero_add]; exact h) hr (.inl rfl) (Nat.le_refl _)
 unfold encode
 rw [if_neg (by omega), hs]
 simp only
 rw [if_neg (by simpa using hn)]
 refine ⟨fun h32 => by rw [if_pos h32], fun h32 => ?_⟩
 rw [if_neg (by omega)]
 obtain ⟨o, ho⟩ := it_of_shape (D := 32) hn hs h32 (by omega)
 refine ⟨o, ho, fun hb => by rw [if_pos hb], fun hb => ?_⟩
 rw [if_neg (by omega)]
 have hd := decode_of_it (lim := encLim) encLim_may ho hw (by show (l.length : Int) ≤ 4096; omega) (by show ((encB l).length : Int) ≤ 262144; omega)
 cases o with
 | true =>
  rw [if_pos rfl] at hd
  rw [hd, if_neg (by omega)]
  rfl
 | false =>
  have hd' : R7.decode (encB l) encLim = (l, 0, 0) := hd
  rw [hd', if_pos rfl]
  rfl
end Go.Px.E7
