/-
  The telling of layer 17 as plain functions: heads and texts in a row; what is one right item; the stack that counts. No program is named here.
-/
import Derived.Test.YtddiabaagpmkgaaDoorD7E
namespace Go.Px.R7
/-- What Decode hands back: items, place, error. -/
def decode (s : Bytes) (lim : Lim) : List Atom × Int × Int := if lim.may then (list (read s lim), (read s lim).place, (read s lim).err) else ([], 0, 2)
theorem decode_no {s : Bytes} {lim : Lim} (h : lim.may = false) : decode s lim = ([], 0, 2) := by unfold decode; rw [h]; rfl
theorem decode_yes {s : Bytes} {lim : Lim} (h : lim.may = true) : decode s lim = (list (read s lim), (read s lim).place, (read s lim).err) := by unfold decode; rw [h]; rfl
end Go.Px.R7
namespace Go.Px.E7

def atomB (a : Atom) : Bytes := R7.headB a.kind.toNat (if a.kind == 2 || a.kind == 3 then a.text.length else a.num) ++ a.text
def encB (l : List Atom) : Bytes := l.flatMap atomB
def right (a : Atom) : Bool :=
  if a.kind == 2 then a.num == 0
  else if a.kind == 3 then a.num == 0 && Lib.validD a.text
  else if a.kind == 7 then a.text.isEmpty && (decide (20 ≤ a.num) && decide (a.num ≤ 23))
  else if a.kind == 0 || a.kind == 1 || a.kind == 4 || a.kind == 5 || a.kind == 6 then a.text.isEmpty
  else false
def leaf (a : Atom) : Bool := !(a.kind == 4 || a.kind == 5 || a.kind == 6)
def holds (a : Atom) : Option Nat := if a.kind == 4 then some (min a.num 1099511627776) else if a.kind == 5 then some (2 * min a.num 1099511627776) else if a.kind == 6 then some 1 else none
def count (a : Atom) : Nat := if a.kind == 4 then a.num else if a.kind == 5 then 2 * a.num else 1
def dec : List Nat → List Nat
  | [] => []
  | n :: r => (n - 1) :: r
def pops : List Nat → List Nat
  | [] => []
  | n :: r => if n = 0 then pops r else n :: r
/-- The program's count of what stands within one another. -/
def shape : Bool → List Atom → List Nat → Nat → Option (Nat × List Nat)
  | _, [], left, most => some (most, left)
  | first, a :: r, left, most =>
    if (!first && left.isEmpty) || !right a then none
    else match holds a with
      | some n => shape false r (pops (n :: dec left)) (max most (left.length + 1))
      | none => shape false r (pops (dec left)) most
/-- The reference's. -/
def behind : List Atom → List Nat → Nat → Nat → Option Nat × Nat
  | [], _, most, _ => (none, most)
  | a :: r, left, most, i =>
    if (a.kind == 4 || a.kind == 5) && decide (5000 < a.num) then (none, most)
    else
      let left2 := if leaf a then dec left else count a :: dec left
      if (pops left2).isEmpty then (some (i + 1), max most left2.length) else behind r (pops left2) (max most left2.length) (i + 1)

/-! Items in a row -/
def Kids (R : List Atom → Bool → Prop) (mp : Bool) : Nat → Nat → Bytes → List Atom → Bool → Prop
  | 0, _, _, l, o => l = [] ∧ o = false
  | m + 1, i, last, l, o => ∃ x r o1 o2, l = x ++ r ∧ R x o1 ∧ Kids R mp m (i + 1) (if mp && i % 2 == 0 then encB x else last) r o2 ∧ o = (o1 || (mp && i % 2 == 0 && decide (0 < i) && leB (encB x) last) || o2)
/-- One item, within which at most d stand within one another; the letter says whether keys are out of order somewhere. -/
def ItF : Nat → List Atom → Bool → Prop
  | 0, l, o => ∃ a, l = [a] ∧ right a = true ∧ leaf a = true ∧ o = false
  | d + 1, l, o => (∃ a, l = [a] ∧ right a = true ∧ leaf a = true ∧ o = false) ∨ (∃ a r, l = a :: r ∧ right a = true ∧ leaf a = false ∧ Kids (ItF d) (a.kind == 5) (count a) 0 [] r o)
theorem Kids.mono {R R' : List Atom → Bool → Prop} (h : ∀ l o, R l o → R' l o) {mp : Bool} : ∀ {m i last l o}, Kids R mp m i last l o → Kids R' mp m i last l o
  | 0, _, _, _, _, k => k
  | _ + 1, _, _, _, _, ⟨x, r, o1, o2, e, h1, h2, h3⟩ => ⟨x, r, o1, o2, e, h _ _ h1, Kids.mono h h2, h3⟩
theorem ItF.succ : ∀ {d l o}, ItF d l o → ItF (d + 1) l o
  | 0, _, _, h => .inl h
  | _ + 1, _, _, .inl h => .inl h
  | _ + 1, _, _, .inr ⟨a, r, e, h1, h2, h3⟩ => .inr ⟨a, r, e, h1, h2, h3.mono fun _ _ h => ItF.succ h⟩
theorem ItF.mono {d e : Nat} (hd : d ≤ e) {l : List Atom} {o : Bool} (h : ItF d l o) : ItF e l o := by
  induction hd with
  | refl => exact h
  | step _ ih => exact ih.succ
theorem ItF.pos {d : Nat} {l : List Atom} {o : Bool} (h : ItF d l o) : 1 ≤ l.length := by
  cases d with
  | zero => obtain ⟨a, rfl, _⟩ := h; exact Nat.le_refl _
  | succ d =>
    rcases h with ⟨a, rfl, _⟩ | ⟨a, r, rfl, _⟩
    · exact Nat.le_refl _
    · simp
theorem Kids.le {R : List Atom → Bool → Prop} (h : ∀ l o, R l o → 1 ≤ l.length) {mp : Bool} : ∀ {m i last l o}, Kids R mp m i last l o → m ≤ l.length
  | 0, _, _, _, _, _ => Nat.zero_le _
  | m + 1, i, last, l, o, ⟨x, r, o1, o2, e, h1, h2, h3⟩ => by
    have a := h _ _ h1
    have b := Kids.le h h2
    subst e
    simp only [List.length_append]
    omega
theorem ItF.all : ∀ {d l o}, ItF d l o → ∀ a ∈ l, right a = true
  | 0, _, _, ⟨a, e, h, _⟩ => by subst e; intro b hb; rw [List.mem_singleton.1 hb]; exact h
  | d + 1, _, _, .inl ⟨a, e, h, _⟩ => by subst e; intro b hb; rw [List.mem_singleton.1 hb]; exact h
  | d + 1, _, _, .inr ⟨a, r, e, h, _, hk⟩ => by
    subst e
    have inner : ∀ (m i : Nat) (last : Bytes) (mp : Bool) (l : List Atom) (o : Bool), Kids (ItF d) mp m i last l o → ∀ a ∈ l, right a = true := by
      intro m
      induction m with
      | zero => intro i last mp l o k; obtain ⟨rfl, _⟩ := k; intro a ha; cases ha
      | succ m ih =>
        intro i last mp l o ⟨x, r, o1, o2, e, h1, h2, _⟩
        subst e
        intro a ha
        rcases List.mem_append.1 ha with ha | ha
        · exact ItF.all h1 a ha
        · exact ih _ _ _ _ _ h2 a ha
    intro b hb
    rcases List.mem_cons.1 hb with rfl | hb
    · exact h
    · exact inner _ _ _ _ _ _ hk b hb

/-! From the stack to items -/
def RowsN (R : List Atom → Bool → Prop) : Nat → List Atom → Prop
  | 0, l => l = []
  | n + 1, l => ∃ x r o, l = x ++ r ∧ R x o ∧ RowsN R n r
theorem RowsN.kids {R : List Atom → Bool → Prop} (mp : Bool) : ∀ {n l}, RowsN R n l → ∀ i last, ∃ o, Kids R mp n i last l o
  | 0, _, h => fun _ _ => ⟨false, h, rfl⟩
  | n + 1, _, ⟨x, r, o, e, h1, h2⟩ => fun i last => by
    obtain ⟨o2, k⟩ := RowsN.kids mp h2 (i + 1) (if mp && i % 2 == 0 then encB x else last)
    exact ⟨_, x, r, o, o2, e, h1, k, rfl⟩
theorem RowsN.le {R : List Atom → Bool → Prop} (h : ∀ l o, R l o → 1 ≤ l.length) : ∀ {n l}, RowsN R n l → n ≤ l.length
  | 0, _, _ => Nat.zero_le _
  | n + 1, _, ⟨x, r, o, e, h1, h2⟩ => by
    have a := h _ _ h1
    have b := RowsN.le h h2
    subst e
    simp only [List.length_append]
    omega
def Stk (D : Nat) : List Nat → List Atom → Prop
  | [], l => l = []
  | c :: rest, l => ∃ l1 l2, l = l1 ++ l2 ∧ RowsN (ItF (D - (rest.length + 1))) c l1 ∧ Stk D rest l2
theorem Stk.pops {D : Nat} : ∀ {st l}, Stk D (E7.pops st) l → Stk D st l
  | [], _, h => h
  | n :: r, l, h => by
    unfold E7.pops at h
    by_cases hn : n = 0
    · rw [if_pos hn] at h
      subst hn
      exact ⟨[], l, rfl, rfl, Stk.pops h⟩
    · rw [if_neg hn] at h
      exact h
theorem pops_pos : ∀ (st : List Nat), pops st = [] ∨ ∃ n r, pops st = (n + 1) :: r
  | [] => .inl rfl
  | n :: r => by
    unfold pops
    by_cases hn : n = 0
    · rw [if_pos hn]; exact pops_pos r
    · rw [if_neg hn]; exact .inr ⟨n - 1, r, by rw [Nat.sub_add_cancel (by omega)]⟩
theorem pops_len : ∀ (st : List Nat), (pops st).length ≤ st.length
  | [] => Nat.le_refl _
  | n :: r => by
    unfold pops
    by_cases hn : n = 0
    · rw [if_pos hn]; have := pops_len r; simp; omega
    · rw [if_neg hn]; exact Nat.le_refl _
theorem shape_most : ∀ (l : List Atom) (f : Bool) (left : List Nat) (most m : Nat) (e : List Nat), shape f l left most = some (m, e) → most ≤ m
  | [], f, left, most, m, e, h => by unfold shape at h; simp only [Option.some.injEq, Prod.mk.injEq] at h; omega
  | a :: r, f, left, most, m, e, h => by
    unfold shape at h
    split at h
    · cases h
    · split at h
      · have := shape_most r _ _ _ _ _ h; omega
      · exact shape_most r _ _ _ _ _ h
theorem holds_leaf {a : Atom} (h : leaf a = true) : holds a = none := by
  unfold leaf at h
  simp only [Bool.not_eq_true', Bool.or_eq_false_iff] at h
  unfold holds
  rw [h.1.1, h.1.2, h.2]
  rfl
theorem holds_some {a : Atom} (h : leaf a = false) : ∃ n, holds a = some n ∧ (n = count a ∨ 1099511627776 ≤ n) := by
  unfold leaf at h
  simp only [Bool.not_eq_false', Bool.or_eq_true] at h
  unfold holds count
  rcases h with (h | h) | h
  · rw [h]
    refine ⟨_, rfl, ?_⟩
    by_cases hc : a.num ≤ 1099511627776
    · rw [Nat.min_eq_left hc]; exact .inl rfl
    · rw [Nat.min_eq_right (by omega)]; exact .inr (Nat.le_refl _)
  · have h4 : (a.kind == 4) = false := by have := beq_iff_eq.1 h; rw [this]; rfl
    rw [h4, h]
    refine ⟨_, rfl, ?_⟩
    by_cases hc : a.num ≤ 1099511627776
    · rw [Nat.min_eq_left hc]; exact .inl rfl
    · rw [Nat.min_eq_right (by omega)]; exact .inr (by omega)
  · have h4 : (a.kind == 4) = false := by have := beq_iff_eq.1 h; rw [this]; rfl
    have h5 : (a.kind == 5) = false := by have := beq_iff_eq.1 h; rw [this]; rfl
    rw [h4, h5, h]
    exact ⟨1, rfl, .inl rfl⟩
theorem ItF.node {d : Nat} {a : Atom} {r : List Atom} {o : Bool} (h1 : right a = true) (h2 : leaf a = false) (h3 : Kids (ItF d) (a.kind == 5) (count a) 0 [] r o) : ItF (d + 1) (a :: r) o := .inr ⟨a, r, rfl, h1, h2, h3⟩
theorem ItF.one {d : Nat} {a : Atom} (h1 : right a = true) (h2 : leaf a = true) : ItF d [a] false := by
  cases d with
  | zero => exact ⟨a, rfl, h1, h2, rfl⟩
  | succ d => exact .inl ⟨a, rfl, h1, h2, rfl⟩
theorem stk_of_shape (D : Nat) : ∀ (l : List Atom) (left : List Nat) (most m : Nat), shape false l left most = some (m, []) → m ≤ D → left.length ≤ D → (left = [] ∨ ∃ n r, left = (n + 1) :: r) → l.length < 1099511627776 → Stk D left l
  | [], left, most, m, h, _, _, _, _ => by
    unfold shape at h
    simp only [Option.some.injEq, Prod.mk.injEq] at h
    rw [h.2]
    exact rfl
  | a :: r, left, most, m, h, hm, hl, hp, hz => by
    unfold shape at h
    by_cases hc : (!false && left.isEmpty || !right a) = true
    · rw [if_pos hc] at h; cases h
    · rw [if_neg hc] at h
      have hc2 : left.isEmpty = false ∧ right a = true := by
        simpa using hc
      obtain ⟨hne, hra⟩ := hc2
      rcases hp with rfl | ⟨n, rest, rfl⟩
      · cases hne
      · simp only [List.length_cons] at hl hz
        have hdec : dec ((n + 1) :: rest) = n :: rest := rfl
        rw [hdec] at h
        cases hlf : leaf a
        · obtain ⟨k, hk, hkc⟩ := holds_some hlf
          rw [hk] at h
          simp only at h
          have hmm := shape_most _ _ _ _ _ _ h
          have := pops_len (k :: n :: rest)
          simp only [List.length_cons] at this hmm
          have ih := (stk_of_shape D r _ _ m h hm (by omega) (pops_pos _) (by omega)).pops
          obtain ⟨l1, l2, rfl, h1, h2⟩ := ih
          obtain ⟨l3, l4, rfl, h3, h4⟩ := h2
          have hkl := RowsN.le (fun _ _ h => ItF.pos h) h1
          have hkc' : k = count a := by
            rcases hkc with e | e
            · exact e
            · simp only [List.length_append] at hz; omega
          subst hkc'
          obtain ⟨o, hko⟩ := h1.kids (a.kind == 5) 0 []
          refine ⟨a :: l1 ++ l3, l4, by simp, ⟨a :: l1, l3, o, rfl, ?_, h3⟩, h4⟩
          have e1 : D - (rest.length + 1) = D - ((n :: rest).length + 1) + 1 := by simp only [List.length_cons]; omega
          rw [e1]
          exact ItF.node hra hlf hko
        · rw [holds_leaf hlf] at h
          simp only at h
          have := pops_len (n :: rest)
          simp only [List.length_cons] at this
          have ih := (stk_of_shape D r _ _ m h hm (by omega) (pops_pos _) (by omega)).pops
          obtain ⟨l1, l2, rfl, h1, h2⟩ := ih
          exact ⟨a :: l1, l2, rfl, ⟨[a], l1, false, rfl, ItF.one hra hlf, h1⟩, h2⟩
theorem it_of_shape {D : Nat} {l : List Atom} {m : Nat} (hn : l ≠ []) (h : shape true l [] 0 = some (m, [])) (hm : m ≤ D) (hz : l.length < 1099511627776) : ∃ o, ItF D l o := by
  cases l with
  | nil => exact absurd rfl hn
  | cons a r =>
    unfold shape at h
    by_cases hc : (!true && ([] : List Nat).isEmpty || !right a) = true
    · rw [if_pos hc] at h; cases h
    · rw [if_neg hc] at h
      have hra : right a = true := by simpa using hc
      simp only [List.length_cons] at hz
      cases hlf : leaf a
      · obtain ⟨k, hk, hkc⟩ := holds_some hlf
        rw [hk] at h
        simp only [dec] at h
        have hmm := shape_most _ _ _ _ _ _ h
        have := pops_len [k]
        simp only [List.length_cons, List.length_nil] at this hmm
        have ih := (stk_of_shape D r _ _ m h hm (by omega) (pops_pos _) (by omega)).pops
        obtain ⟨l1, l2, rfl, h1, rfl⟩ := ih
        have hkl := RowsN.le (fun _ _ h => ItF.pos h) h1
        have hkc' : k = count a := by
          rcases hkc with e | e
          · exact e
          · simp only [List.length_append] at hz; omega
        subst hkc'
        obtain ⟨o, hko⟩ := h1.kids (a.kind == 5) 0 []
        rw [List.append_nil]
        refine ⟨o, ?_⟩
        have e1 : D = D - (([] : List Nat).length + 1) + 1 := by simp only [List.length_nil]; omega
        rw [e1]
        exact ItF.node hra hlf hko
      · rw [holds_leaf hlf] at h
        simp only [dec, pops] at h
        cases r with
        | nil => exact ⟨false, ItF.one hra hlf⟩
        | cons b t =>
          unfold shape at h
          rw [if_pos (by simp)] at h
          cases h

/-! From items to the stack -/
theorem shape_kids (d : Nat) (hR : ∀ x o, ItF d x o → x.length < 1099511627776 → ∀ r c rest most, ∃ m1, shape false (x ++ r) ((c + 1) :: rest) most = shape false r (pops (c :: rest)) m1 ∧ m1 ≤ max most (rest.length + 1 + d)) (mp : Bool) :
    ∀ (n i : Nat) (last : Bytes) (l : List Atom) (o : Bool), Kids (ItF d) mp n i last l o → l.length < 1099511627776 → ∀ r rest most, ∃ m1, shape false (l ++ r) (pops (n :: rest)) most = shape false r (pops rest) m1 ∧ m1 ≤ max most (rest.length + 1 + d) := by
  intro n
  induction n with
  | zero =>
    intro i last l o h _ r rest most
    obtain ⟨rfl, _⟩ := h
    exact ⟨most, rfl, by omega⟩
  | succ n ih =>
    intro i last l o ⟨x, t, o1, o2, e, h1, h2, _⟩ hz r rest most
    subst e
    simp only [List.length_append] at hz
    obtain ⟨m1, e1, l1⟩ := hR x o1 h1 (by omega) (t ++ r) n rest most
    obtain ⟨m2, e2, l2⟩ := ih _ _ _ _ h2 (by omega) r rest m1
    refine ⟨m2, ?_, by omega⟩
    rw [List.append_assoc]
    have hp : pops ((n + 1) :: rest) = (n + 1) :: rest := rfl
    rw [hp, e1, e2]
theorem holds_count {a : Atom} (h : leaf a = false) (hc : count a < 1099511627776) : holds a = some (count a) := by
  unfold leaf at h
  simp only [Bool.not_eq_false', Bool.or_eq_true] at h
  unfold holds
  unfold count at hc ⊢
  rcases h with (h | h) | h
  · simp only [h, if_true] at hc ⊢
    rw [Nat.min_eq_left (by omega)]
  · have h4 : (a.kind == 4) = false := by have := beq_iff_eq.1 h; rw [this]; rfl
    simp only [h, h4, if_true] at hc ⊢
    simp only [Bool.false_eq_true, if_false] at hc ⊢
    rw [Nat.min_eq_left (by omega)]
  · have h4 : (a.kind == 4) = false := by have := beq_iff_eq.1 h; rw [this]; rfl
    have h5 : (a.kind == 5) = false := by have := beq_iff_eq.1 h; rw [this]; rfl
    simp only [h, h4, h5]
    rfl
theorem shape_it : ∀ (d : Nat) (x : List Atom) (o : Bool), ItF d x o → x.length < 1099511627776 → ∀ r c rest most, ∃ m1, shape false (x ++ r) ((c + 1) :: rest) most = shape false r (pops (c :: rest)) m1 ∧ m1 ≤ max most (rest.length + 1 + d) := by
  have one : ∀ (d : Nat) (a : Atom), right a = true → leaf a = true → ∀ r c rest most, ∃ m1, shape false ([a] ++ r) ((c + 1) :: rest) most = shape false r (pops (c :: rest)) m1 ∧ m1 ≤ max most (rest.length + 1 + d) := by
    intro d a h1 h2 r c rest most
    refine ⟨most, ?_, by omega⟩
    show shape false (a :: r) ((c + 1) :: rest) most = _
    rw [shape, if_neg (by simp [h1]), holds_leaf h2]
    rfl
  intro d
  induction d with
  | zero =>
    intro x o h _
    obtain ⟨a, rfl, h1, h2, _⟩ := h
    exact one 0 a h1 h2
  | succ d ih =>
    intro x o h hz
    rcases h with ⟨a, rfl, h1, h2, _⟩ | ⟨a, t, rfl, h1, h2, h3⟩
    · exact one (d + 1) a h1 h2
    · intro r c rest most
      have hcl := Kids.le (fun _ _ h => ItF.pos h) h3
      simp only [List.length_cons] at hz
      obtain ⟨m1, e1, l1⟩ := shape_kids d ih (a.kind == 5) (count a) 0 [] t o h3 (by omega) r (c :: rest) (max most (((c + 1) :: rest).length + 1))
      refine ⟨m1, ?_, by simp only [List.length_cons] at l1; omega⟩
      show shape false (a :: (t ++ r)) ((c + 1) :: rest) most = _
      rw [shape, if_neg (by simp [h1]), holds_count h2 (by omega)]
      exact e1
theorem shape_of_it {d : Nat} {l : List Atom} {o : Bool} (h : ItF d l o) (hz : l.length < 1099511627776) : ∃ m, shape true l [] 0 = some (m, []) ∧ m ≤ d ∧ l ≠ [] := by
  have one : ∀ (a : Atom), right a = true → leaf a = true → shape true [a] [] 0 = some (0, []) := by
    intro a h1 h2
    unfold shape
    rw [if_neg (by simp [h1]), holds_leaf h2]
    rfl
  cases d with
  | zero =>
    obtain ⟨a, rfl, h1, h2, _⟩ := h
    exact ⟨0, one a h1 h2, Nat.le_refl _, by simp⟩
  | succ d =>
    rcases h with ⟨a, rfl, h1, h2, _⟩ | ⟨a, t, rfl, h1, h2, h3⟩
    · exact ⟨0, one a h1 h2, Nat.zero_le _, by simp⟩
    · have hcl := Kids.le (fun _ _ h => ItF.pos h) h3
      simp only [List.length_cons] at hz
      obtain ⟨m1, e1, l1⟩ := shape_kids d (shape_it d) (a.kind == 5) (count a) 0 [] t o h3 (by omega) [] [] (max 0 (([] : List Nat).length + 1))
      refine ⟨m1, ?_, by simp only [List.length_nil] at l1; omega, by simp⟩
      rw [shape, if_neg (by simp [h1]), holds_count h2 (by omega)]
      rw [List.append_nil] at e1
      exact e1

/-! The two counts agree -/
theorem dec_len (l : List Nat) : (dec l).length = l.length := by cases l <;> rfl
theorem dec_empty (l : List Nat) : (dec l).isEmpty = l.isEmpty := by cases l <;> rfl
theorem shape_empty {l : List Atom} {most : Nat} (r : Nat × List Nat) (h : shape false l [] most = some r) : l = [] := by
  cases l with
  | nil => rfl
  | cons a t => unfold shape at h; rw [if_pos (by simp)] at h; cases h
theorem shape_right : ∀ (l : List Atom) (f : Bool) (left : List Nat) (most : Nat) (r : Nat × List Nat), shape f l left most = some r → ∀ a ∈ l, right a = true
  | [], _, _, _, _, _ => fun _ h => by cases h
  | a :: t, f, left, most, r, h => by
    unfold shape at h
    split at h
    · cases h
    · rename_i hc
      have hra : right a = true := by
        simp only [Bool.or_eq_true, not_or, Bool.not_eq_true', Bool.not_eq_false] at hc
        exact hc.2
      intro b hb
      rcases List.mem_cons.1 hb with rfl | hb
      · exact hra
      · split at h
        · exact shape_right t _ _ _ _ h b hb
        · exact shape_right t _ _ _ _ h b hb
theorem count_small {a : Atom} {n : Nat} (hlf : leaf a = false) (hn : holds a = some n) (hnl : n ≤ 4096) : ((a.kind == 4 || a.kind == 5) && decide (5000 < a.num)) = false ∧ n = count a := by
  unfold leaf at hlf
  simp only [Bool.not_eq_false', Bool.or_eq_true] at hlf
  unfold holds at hn
  unfold count
  rcases hlf with (h | h) | h
  · simp only [h, if_true, Option.some.injEq] at hn ⊢
    simp only [Bool.true_or, Bool.true_and, decide_eq_false_iff_not]
    omega
  · have h4 : (a.kind == 4) = false := by have := beq_iff_eq.1 h; rw [this]; rfl
    simp only [h, h4, if_true, Option.some.injEq, Bool.false_eq_true, if_false] at hn ⊢
    simp only [Bool.or_true, Bool.true_and, decide_eq_false_iff_not]
    omega
  · have h4 : (a.kind == 4) = false := by have := beq_iff_eq.1 h; rw [this]; rfl
    have h5 : (a.kind == 5) = false := by have := beq_iff_eq.1 h; rw [this]; rfl
    simp only [h, h4, h5, if_true, Option.some.injEq, Bool.false_eq_true, if_false] at hn ⊢
    exact ⟨rfl, hn.symm⟩
theorem small_leaf {a : Atom} (hlf : leaf a = true) : ((a.kind == 4 || a.kind == 5) && decide (5000 < a.num)) = false := by
  unfold leaf at hlf
  simp only [Bool.not_eq_true', Bool.or_eq_false_iff] at hlf
  rw [hlf.1.1, hlf.1.2]
  rfl
/-- How much the count on top may be: no more than what stands behind. -/
theorem shape_top {l : List Atom} {c : Nat} {rest : List Nat} {most m : Nat} (h : shape false l (pops (c :: rest)) most = some (m, [])) (hz : l.length ≤ 4096) : c ≤ l.length := by
  have hl := pops_len (c :: rest)
  have k := (stk_of_shape (max m (rest.length + 1)) l _ _ m h (by omega) (by simp only [List.length_cons] at hl; omega) (pops_pos _) (by omega)).pops
  obtain ⟨l1, l2, rfl, h1, _⟩ := k
  have := RowsN.le (fun _ _ h => ItF.pos h) h1
  simp only [List.length_append]
  omega
theorem behind_of_shape : ∀ (l : List Atom) (f : Bool) (left : List Nat) (most m i : Nat), shape f l left most = some (m, []) → l ≠ [] → l.length ≤ 4096 → left.length ≤ most → behind l left most i = (some (i + l.length), m)
  | [], _, _, _, _, _, _, hn, _, _ => absurd rfl hn
  | a :: r, f, left, most, m, i, h, _, hz, hlm => by
    unfold shape at h
    unfold behind
    simp only [List.length_cons] at hz
    split at h
    · cases h
    · cases hlf : leaf a
      · obtain ⟨n, hn, _⟩ := holds_some hlf
        rw [hn] at h
        simp only at h
        have hnl := shape_top h (by omega)
        obtain ⟨hs, hc⟩ := count_small hlf hn (by omega)
        rw [if_neg (by rw [hs]; simp)]
        subst hc
        simp only [Bool.false_eq_true, if_false, List.length_cons, dec_len]
        cases hp : pops (count a :: dec left) with
        | nil =>
          rw [hp] at h
          have hr := shape_empty _ h
          subst hr
          rw [if_pos (by rfl)]
          unfold shape at h
          simp only [Option.some.injEq, Prod.mk.injEq] at h
          rw [← h.1]
          rfl
        | cons c t =>
          rw [hp] at h
          rw [if_neg (by simp)]
          have hr : r ≠ [] := by
            rintro rfl
            unfold shape at h
            simp at h
          have hlen := pops_len (count a :: dec left)
          rw [hp] at hlen
          simp only [List.length_cons, dec_len] at hlen
          rw [behind_of_shape r false _ _ m (i + 1) h hr (by omega) (by simp only [List.length_cons]; omega)]
          rw [show i + 1 + r.length = i + (r.length + 1) by omega]
      · rw [holds_leaf hlf] at h
        simp only at h
        rw [if_neg (by rw [small_leaf hlf]; simp)]
        simp only [if_true, dec_len]
        have hmx : max most left.length = most := by omega
        rw [hmx]
        cases hp : pops (dec left) with
        | nil =>
          rw [hp] at h
          have hr := shape_empty _ h
          subst hr
          rw [if_pos (by rfl)]
          unfold shape at h
          simp only [Option.some.injEq, Prod.mk.injEq] at h
          rw [← h.1]
          rfl
        | cons c t =>
          rw [hp] at h
          rw [if_neg (by simp)]
          have hr : r ≠ [] := by
            rintro rfl
            unfold shape at h
            simp at h
          have hlen := pops_len (dec left)
          rw [hp, dec_len] at hlen
          rw [behind_of_shape r false _ _ m (i + 1) h hr (by omega) (by omega)]
          rw [show i + 1 + r.length = i + (r.length + 1) by omega, List.length_cons]
theorem behind_le : ∀ (l : List Atom) (left : List Nat) (most i e m : Nat), behind l left most i = (some e, m) → i < e ∧ e ≤ i + l.length
  | [], _, _, _, _, _, h => by unfold behind at h; simp at h
  | a :: r, left, most, i, e, m, h => by
    rw [behind] at h
    split at h
    · simp at h
    · dsimp only at h
      generalize (if leaf a = true then dec left else count a :: dec left) = L at h
      split at h
      · simp only [Prod.mk.injEq, Option.some.injEq] at h
        simp only [List.length_cons]; omega
      · have := behind_le r _ _ _ _ _ h
        simp only [List.length_cons]; omega
theorem shape_of_behind : ∀ (l : List Atom) (f : Bool) (left : List Nat) (most m i : Nat), behind l left most i = (some (i + l.length), m) → (∀ a ∈ l, right a = true) → (f = true ∨ left ≠ []) → left.length ≤ most → shape f l left most = some (m, [])
  | [], _, _, _, _, _, h, _, _, _ => by unfold behind at h; simp at h
  | a :: r, f, left, most, m, i, h, hra, hf, hlm => by
    unfold behind at h
    unfold shape
    have ha := hra a (by simp)
    have hrr : ∀ b ∈ r, right b = true := fun b hb => hra b (by simp [hb])
    have hcond : ¬ ((!f && left.isEmpty || !right a) = true) := by
      rw [ha]
      rcases hf with rfl | hf
      · simp
      · simp [hf]
    rw [if_neg hcond]
    split at h
    · simp at h
    · rename_i hsm
      simp only at h
      cases hlf : leaf a
      · rw [hlf] at h
        simp only [Bool.false_eq_true, if_false, List.length_cons, dec_len] at h
        have hh : holds a = some (count a) := by
          refine holds_count hlf ?_
          unfold leaf at hlf
          simp only [Bool.not_eq_false', Bool.or_eq_true] at hlf
          unfold count
          rcases hlf with (k | k) | k
          · rw [k] at hsm ⊢
            simp only [Bool.true_or, Bool.true_and, decide_eq_true_eq] at hsm
            simp only [if_true]
            omega
          · have h4 : (a.kind == 4) = false := by have := beq_iff_eq.1 k; rw [this]; rfl
            rw [k] at hsm ⊢
            simp only [Bool.or_true, Bool.true_and, decide_eq_true_eq] at hsm
            rw [h4]
            simp only [if_true, Bool.false_eq_true, if_false]
            omega
          · have h4 : (a.kind == 4) = false := by have := beq_iff_eq.1 k; rw [this]; rfl
            have h5 : (a.kind == 5) = false := by have := beq_iff_eq.1 k; rw [this]; rfl
            rw [h4, h5]
            simp
        rw [hh]
        simp only
        cases hp : pops (count a :: dec left) with
        | nil =>
          rw [hp] at h
          rw [if_pos (by rfl)] at h
          simp only [Prod.mk.injEq, Option.some.injEq] at h
          have hr : r = [] := List.length_eq_zero_iff.1 (by omega)
          subst hr
          rw [← h.2]
          rfl
        | cons c t =>
          rw [hp] at h
          rw [if_neg (by simp)] at h
          have hlen := pops_len (count a :: dec left)
          rw [hp] at hlen
          simp only [List.length_cons, dec_len] at hlen
          exact shape_of_behind r false _ _ m (i + 1) (by rw [show i + 1 + r.length = i + (r.length + 1) by omega]; exact h) hrr (.inr (by simp)) (by simp only [List.length_cons]; omega)
      · rw [hlf] at h
        rw [holds_leaf hlf]
        simp only [if_true, dec_len, List.length_cons] at h ⊢
        have hmx : max most left.length = most := by omega
        rw [hmx] at h
        cases hp : pops (dec left) with
        | nil =>
          rw [hp] at h
          rw [if_pos (by rfl)] at h
          simp only [Prod.mk.injEq, Option.some.injEq] at h
          have hr : r = [] := List.length_eq_zero_iff.1 (by omega)
          subst hr
          rw [← h.2]
          rfl
        | cons c t =>
          rw [hp] at h
          rw [if_neg (by simp)] at h
          have hlen := pops_len (dec left)
          rw [hp, dec_len] at hlen
          exact shape_of_behind r false _ _ m (i + 1) (by rw [show i + 1 + r.length = i + (r.length + 1) by omega]; exact h) hrr (.inr (by simp)) (by omega)
end Go.Px.E7
