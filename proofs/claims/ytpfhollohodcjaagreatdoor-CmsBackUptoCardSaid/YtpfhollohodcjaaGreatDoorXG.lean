/-
  Several texts in one: The telling of layer 15 as plain functions: what is one right element and its bytes; the stack that counts. No program is named here.
-/
import Derived.Test.YtpfhollohodcjaaGreatDoorXA
/-! The telling of layer 15 as plain functions: what is one right element and its bytes; the stack that counts. No program is named here. -/
namespace Go.Px.E5

/-- The bytes of a number, the greatest first, ahead of others. -/
def beN : Nat → Nat → Bytes → Bytes
  | 0, _, s => s
  | m + 1, n, s => if n = 0 then s else beN m (n / 256) (UInt8.ofNat (n % 256) :: s)
/-- A length as bytes. -/
def lenB (n : Nat) : Bytes := if n < 128 then [UInt8.ofNat n] else UInt8.ofNat (128 + (beN 8 n []).length) :: beN 8 n []
def wrap (t : UInt8) (b : Bytes) : Bytes := t :: (lenB b.length ++ b)
def leaf (a : Node) : Bool := decide (a.kids < 0)
def count (a : Node) : Nat := a.kids.toNat
def right (a : Node) : Bool := R5.tagE a.tag.toNat == 0 && decide (-1 ≤ a.kids) && (R5.inner a.tag.toNat == !leaf a) && (if leaf a then R5.body a.tag.toNat a.body else a.body.isEmpty)
def dec : List Nat → List Nat
  | [] => []
  | n :: r => (n - 1) :: r
def pops : List Nat → List Nat
  | [] => []
  | n :: r => if n = 0 then pops r else n :: r
/-- The program's count of what stands within one another. -/
def shape : Bool → List Node → List Nat → Nat → Option (Nat × List Nat)
  | _, [], left, most => some (most, left)
  | first, a :: r, left, most =>
    if (!first && left.isEmpty) || !right a then none
    else if leaf a then shape false r (pops (dec left)) most
    else shape false r (pops (count a :: dec left)) (max most (left.length + 1))
/-- The reference's. -/
def behind : List Node → List Nat → Nat → Nat → Option Nat × Nat
  | [], _, most, _ => (none, most)
  | a :: r, left, most, i =>
    if a.kids < -1 then (none, most)
    else
      let left2 := if leaf a then dec left else count a :: dec left
      if (pops left2).isEmpty then (some (i + 1), max most left2.length) else behind r (pops left2) (max most left2.length) (i + 1)

/-! Elements in a row: their list, their bytes, whether a set is out of order somewhere -/
def Kids (R : List Node → Bytes → Bool → Prop) (set : Bool) : Nat → Bytes → List Node → Bytes → Bool → Prop
  | 0, _, l, b, o => l = [] ∧ b = [] ∧ o = false
  | m + 1, last, l, b, o => ∃ x r bx br o1 o2, l = x ++ r ∧ b = bx ++ br ∧ R x bx o1 ∧ Kids R set m bx r br o2 ∧ o = (o1 || (set && Op.bytesLess bx last) || o2)
/-- One element, within which at most d stand within one another. -/
def El : Nat → List Node → Bytes → Bool → Prop
  | 0, l, b, o => ∃ a, l = [a] ∧ right a = true ∧ leaf a = true ∧ b = wrap a.tag a.body ∧ o = false
  | d + 1, l, b, o => (∃ a, l = [a] ∧ right a = true ∧ leaf a = true ∧ b = wrap a.tag a.body ∧ o = false) ∨
      (∃ a r br, l = a :: r ∧ right a = true ∧ leaf a = false ∧ Kids (El d) (a.tag.toNat == 49) (count a) [] r br o ∧ b = wrap a.tag br)
theorem Kids.mono {R R' : List Node → Bytes → Bool → Prop} (h : ∀ l b o, R l b o → R' l b o) {set : Bool} : ∀ {m last l b o}, Kids R set m last l b o → Kids R' set m last l b o
  | 0, _, _, _, _, k => k
  | _ + 1, _, _, _, _, ⟨x, r, bx, br, o1, o2, e, e2, h1, h2, h3⟩ => ⟨x, r, bx, br, o1, o2, e, e2, h _ _ _ h1, Kids.mono h h2, h3⟩
theorem El.succ : ∀ {d l b o}, El d l b o → El (d + 1) l b o
  | 0, _, _, _, h => .inl h
  | _ + 1, _, _, _, .inl h => .inl h
  | _ + 1, _, _, _, .inr ⟨a, r, br, e, h1, h2, h3, h4⟩ => .inr ⟨a, r, br, e, h1, h2, h3.mono fun _ _ _ h => El.succ h, h4⟩
theorem El.mono {d e : Nat} (hd : d ≤ e) {l : List Node} {b : Bytes} {o : Bool} (h : El d l b o) : El e l b o := by
  induction hd with
  | refl => exact h
  | step _ ih => exact ih.succ
theorem El.pos {d : Nat} {l : List Node} {b : Bytes} {o : Bool} (h : El d l b o) : 1 ≤ l.length := by
  cases d with
  | zero => obtain ⟨a, rfl, _⟩ := h; exact Nat.le_refl _
  | succ d =>
    rcases h with ⟨a, rfl, _⟩ | ⟨a, r, br, rfl, _⟩
    · exact Nat.le_refl _
    · simp
theorem El.all : ∀ {d l b o}, El d l b o → ∀ a ∈ l, right a = true
  | 0, _, _, _, ⟨a, e, h, _⟩ => by subst e; intro b hb; rw [List.mem_singleton.1 hb]; exact h
  | d + 1, _, _, _, .inl ⟨a, e, h, _⟩ => by subst e; intro b hb; rw [List.mem_singleton.1 hb]; exact h
  | d + 1, _, _, _, .inr ⟨a, r, br, e, h, _, hk, _⟩ => by
    subst e
    have inner : ∀ (m : Nat) (last : Bytes) (set : Bool) (l : List Node) (b : Bytes) (o : Bool), Kids (El d) set m last l b o → ∀ a ∈ l, right a = true := by
      intro m
      induction m with
      | zero => intro last set l b o k; obtain ⟨rfl, _⟩ := k; intro a ha; cases ha
      | succ m ih =>
        intro last set l b o ⟨x, r, bx, br, o1, o2, e, _, h1, h2, _⟩
        subst e
        intro a ha
        rcases List.mem_append.1 ha with ha | ha
        · exact El.all h1 a ha
        · exact ih _ _ _ _ _ h2 a ha
    intro b hb
    rcases List.mem_cons.1 hb with rfl | hb
    · exact h
    · exact inner _ _ _ _ _ _ hk b hb
theorem El.node {d : Nat} {a : Node} {r : List Node} {br : Bytes} {o : Bool} (h1 : right a = true) (h2 : leaf a = false) (h3 : Kids (El d) (a.tag.toNat == 49) (count a) [] r br o) : El (d + 1) (a :: r) (wrap a.tag br) o := .inr ⟨a, r, br, rfl, h1, h2, h3, rfl⟩
theorem El.one {d : Nat} {a : Node} (h1 : right a = true) (h2 : leaf a = true) : El d [a] (wrap a.tag a.body) false := by
  cases d with
  | zero => exact ⟨a, rfl, h1, h2, rfl, rfl⟩
  | succ d => exact .inl ⟨a, rfl, h1, h2, rfl, rfl⟩

/-! From the stack to elements -/
def RowsN (R : List Node → Bytes → Bool → Prop) : Nat → List Node → Prop
  | 0, l => l = []
  | n + 1, l => ∃ x r b o, l = x ++ r ∧ R x b o ∧ RowsN R n r
theorem RowsN.kids {R : List Node → Bytes → Bool → Prop} (set : Bool) : ∀ {n l}, RowsN R n l → ∀ last, ∃ b o, Kids R set n last l b o
  | 0, _, h => fun _ => ⟨[], false, h, rfl, rfl⟩
  | n + 1, _, ⟨x, r, b, o, e, h1, h2⟩ => fun last => by
    obtain ⟨b2, o2, k⟩ := RowsN.kids set h2 b
    exact ⟨_, _, x, r, b, b2, o, o2, e, rfl, h1, k, rfl⟩
def Stk (D : Nat) : List Nat → List Node → Prop
  | [], l => l = []
  | c :: rest, l => ∃ l1 l2, l = l1 ++ l2 ∧ RowsN (El (D - (rest.length + 1))) c l1 ∧ Stk D rest l2
theorem Stk.pops {D : Nat} : ∀ {st l}, Stk D (E5.pops st) l → Stk D st l
  | [], _, h => h
  | n :: r, l, h => by
    unfold E5.pops at h
    by_cases hn : n = 0
    · rw [if_pos hn] at h
      subst hn
      exact ⟨[], l, rfl, rfl, Stk.pops h⟩
    · rw [if_neg hn] at h
      exact h
theorem pops_pos : ∀ (st : List Nat), pops st = [] ∨ ∃ n r, pops st = (n + 1) :: r
  | [] => .inl rfl
  | n :: r => by
    unfold pops
    by_cases hn : n = 0
    · rw [if_pos hn]; exact pops_pos r
    · rw [if_neg hn]; exact .inr ⟨n - 1, r, by rw [Nat.sub_add_cancel (by omega)]⟩
theorem pops_len : ∀ (st : List Nat), (pops st).length ≤ st.length
  | [] => Nat.le_refl _
  | n :: r => by
    unfold pops
    by_cases hn : n = 0
    · rw [if_pos hn]; have := pops_len r; simp; omega
    · rw [if_neg hn]; exact Nat.le_refl _
theorem shape_most : ∀ (l : List Node) (f : Bool) (left : List Nat) (most m : Nat) (e : List Nat), shape f l left most = some (m, e) → most ≤ m
  | [], f, left, most, m, e, h => by unfold shape at h; simp only [Option.some.injEq, Prod.mk.injEq] at h; omega
  | a :: r, f, left, most, m, e, h => by
    unfold shape at h
    split at h
    · cases h
    · split at h
      · exact shape_most r _ _ _ _ _ h
      · have := shape_most r _ _ _ _ _ h; omega
theorem stk_of_shape (D : Nat) : ∀ (l : List Node) (left : List Nat) (most m : Nat), shape false l left most = some (m, []) → m ≤ D → left.length ≤ D → (left = [] ∨ ∃ n r, left = (n + 1) :: r) → Stk D left l
  | [], left, most, m, h, _, _, _ => by
    unfold shape at h
    simp only [Option.some.injEq, Prod.mk.injEq] at h
    rw [h.2]
    exact rfl
  | a :: r, left, most, m, h, hm, hl, hp => by
    unfold shape at h
    by_cases hc : (!false && left.isEmpty || !right a) = true
    · rw [if_pos hc] at h; cases h
    · rw [if_neg hc] at h
      have hc2 : left.isEmpty = false ∧ right a = true := by
        simpa using hc
      obtain ⟨hne, hra⟩ := hc2
      rcases hp with rfl | ⟨n, rest, rfl⟩
      · cases hne
      · simp only [List.length_cons] at hl
        have hdec : dec ((n + 1) :: rest) = n :: rest := rfl
        rw [hdec] at h
        cases hlf : leaf a
        · rw [hlf, if_neg (by simp)] at h
          have hmm := shape_most _ _ _ _ _ _ h
          have := pops_len (count a :: n :: rest)
          simp only [List.length_cons] at this hmm
          have ih := (stk_of_shape D r _ _ m h hm (by omega) (pops_pos _)).pops
          obtain ⟨l1, l2, rfl, h1, h2⟩ := ih
          obtain ⟨l3, l4, rfl, h3, h4⟩ := h2
          obtain ⟨b, o, hko⟩ := h1.kids (a.tag.toNat == 49) []
          refine ⟨a :: l1 ++ l3, l4, by simp, ⟨a :: l1, l3, wrap a.tag b, o, rfl, ?_, h3⟩, h4⟩
          have e1 : D - (rest.length + 1) = D - ((n :: rest).length + 1) + 1 := by simp only [List.length_cons]; omega
          rw [e1]
          exact El.node hra hlf hko
        · rw [hlf, if_pos rfl] at h
          have := pops_len (n :: rest)
          simp only [List.length_cons] at this
          have ih := (stk_of_shape D r _ _ m h hm (by omega) (pops_pos _)).pops
          obtain ⟨l1, l2, rfl, h1, h2⟩ := ih
          exact ⟨a :: l1, l2, rfl, ⟨[a], l1, _, false, rfl, El.one hra hlf, h1⟩, h2⟩
theorem el_of_shape {D : Nat} {l : List Node} {m : Nat} (hn : l ≠ []) (h : shape true l [] 0 = some (m, [])) (hm : m ≤ D) : ∃ b o, El D l b o := by
  cases l with
  | nil => exact absurd rfl hn
  | cons a r =>
    unfold shape at h
    by_cases hc : (!true && ([] : List Nat).isEmpty || !right a) = true
    · rw [if_pos hc] at h; cases h
    · rw [if_neg hc] at h
      have hra : right a = true := by simpa using hc
      cases hlf : leaf a
      · rw [hlf, if_neg (by simp)] at h
        simp only [dec] at h
        have hmm := shape_most _ _ _ _ _ _ h
        have := pops_len [count a]
        simp only [List.length_cons, List.length_nil] at this hmm
        have ih := (stk_of_shape D r _ _ m h hm (by omega) (pops_pos _)).pops
        obtain ⟨l1, l2, rfl, h1, rfl⟩ := ih
        obtain ⟨b, o, hko⟩ := h1.kids (a.tag.toNat == 49) []
        rw [List.append_nil]
        refine ⟨wrap a.tag b, o, ?_⟩
        have e1 : D = D - (([] : List Nat).length + 1) + 1 := by simp only [List.length_nil]; omega
        rw [e1]
        exact El.node hra hlf hko
      · rw [hlf, if_pos rfl] at h
        simp only [dec, pops] at h
        cases r with
        | nil => exact ⟨_, false, El.one hra hlf⟩
        | cons b t =>
          unfold shape at h
          rw [if_pos (by simp)] at h
          cases h

/-! From elements to the stack -/
theorem shape_kids (d : Nat) (hR : ∀ x b o, El d x b o → ∀ r c rest most, ∃ m1, shape false (x ++ r) ((c + 1) :: rest) most = shape false r (pops (c :: rest)) m1 ∧ m1 ≤ max most (rest.length + 1 + d)) (set : Bool) :
    ∀ (n : Nat) (last : Bytes) (l : List Node) (b : Bytes) (o : Bool), Kids (El d) set n last l b o → ∀ r rest most, ∃ m1, shape false (l ++ r) (pops (n :: rest)) most = shape false r (pops rest) m1 ∧ m1 ≤ max most (rest.length + 1 + d) := by
  intro n
  induction n with
  | zero =>
    intro last l b o h r rest most
    obtain ⟨rfl, _⟩ := h
    exact ⟨most, rfl, by omega⟩
  | succ n ih =>
    intro last l b o ⟨x, t, bx, br, o1, o2, e, _, h1, h2, _⟩ r rest most
    subst e
    obtain ⟨m1, e1, l1⟩ := hR x bx o1 h1 (t ++ r) n rest most
    obtain ⟨m2, e2, l2⟩ := ih _ _ _ _ h2 r rest m1
    refine ⟨m2, ?_, by omega⟩
    rw [List.append_assoc]
    have hp : pops ((n + 1) :: rest) = (n + 1) :: rest := rfl
    rw [hp, e1, e2]
theorem shape_el : ∀ (d : Nat) (x : List Node) (b : Bytes) (o : Bool), El d x b o → ∀ r c rest most, ∃ m1, shape false (x ++ r) ((c + 1) :: rest) most = shape false r (pops (c :: rest)) m1 ∧ m1 ≤ max most (rest.length + 1 + d) := by
  have one : ∀ (d : Nat) (a : Node), right a = true → leaf a = true → ∀ r c rest most, ∃ m1, shape false ([a] ++ r) ((c + 1) :: rest) most = shape false r (pops (c :: rest)) m1 ∧ m1 ≤ max most (rest.length + 1 + d) := by
    intro d a h1 h2 r c rest most
    refine ⟨most, ?_, by omega⟩
    show shape false (a :: r) ((c + 1) :: rest) most = _
    rw [shape, if_neg (by simp [h1]), if_pos h2]
    rfl
  intro d
  induction d with
  | zero =>
    intro x b o h
    obtain ⟨a, rfl, h1, h2, _⟩ := h
    exact one 0 a h1 h2
  | succ d ih =>
    intro x b o h
    rcases h with ⟨a, rfl, h1, h2, _⟩ | ⟨a, t, br, rfl, h1, h2, h3, _⟩
    · exact one (d + 1) a h1 h2
    · intro r c rest most
      obtain ⟨m1, e1, l1⟩ := shape_kids d ih (a.tag.toNat == 49) (count a) [] t br o h3 r (c :: rest) (max most (((c + 1) :: rest).length + 1))
      refine ⟨m1, ?_, by simp only [List.length_cons] at l1; omega⟩
      show shape false (a :: (t ++ r)) ((c + 1) :: rest) most = _
      rw [shape, if_neg (by simp [h1]), if_neg (by rw [h2]; simp)]
      exact e1
theorem shape_of_el {d : Nat} {l : List Node} {b : Bytes} {o : Bool} (h : El d l b o) : ∃ m, shape true l [] 0 = some (m, []) ∧ m ≤ d ∧ l ≠ [] := by
  have one : ∀ (a : Node), right a = true → leaf a = true → shape true [a] [] 0 = some (0, []) := by
    intro a h1 h2
    unfold shape
    rw [if_neg (by simp [h1]), if_pos h2]
    rfl
  cases d with
  | zero =>
    obtain ⟨a, rfl, h1, h2, _⟩ := h
    exact ⟨0, one a h1 h2, Nat.le_refl _, by simp⟩
  | succ d =>
    rcases h with ⟨a, rfl, h1, h2, _⟩ | ⟨a, t, br, rfl, h1, h2, h3, _⟩
    · exact ⟨0, one a h1 h2, Nat.zero_le _, by simp⟩
    · obtain ⟨m1, e1, l1⟩ := shape_kids d (shape_el d) (a.tag.toNat == 49) (count a) [] t br o h3 [] [] (max 0 (([] : List Nat).length + 1))
      refine ⟨m1, ?_, by simp only [List.length_nil] at l1; omega, by simp⟩
      rw [shape, if_neg (by simp [h1]), if_neg (by rw [h2]; simp)]
      rw [List.append_nil] at e1
      exact e1

/-! The two counts agree -/
theorem dec_len (l : List Nat) : (dec l).length = l.length := by cases l <;> rfl
theorem shape_right : ∀ (l : List Node) (f : Bool) (left : List Nat) (most : Nat) (r : Nat × List Nat), shape f l left most = some r → ∀ a ∈ l, right a = true
  | [], _, _, _, _, _ => fun _ h => by cases h
  | a :: t, f, left, most, r, h => by
    unfold shape at h
    split at h
    · cases h
    · rename_i hc
      have hra : right a = true := by
        simp only [Bool.or_eq_true, not_or, Bool.not_eq_true', Bool.not_eq_false] at hc
        exact hc.2
      intro b hb
      rcases List.mem_cons.1 hb with rfl | hb
      · exact hra
      · split at h
        · exact shape_right t _ _ _ _ h b hb
        · exact shape_right t _ _ _ _ h b hb
theorem right_kids {a : Node} (h : right a = true) : -1 ≤ a.kids := by
  unfold right at h
  simp only [Bool.and_eq_true, decide_eq_true_eq] at h
  exact h.1.1.2
end Go.Px.E5
