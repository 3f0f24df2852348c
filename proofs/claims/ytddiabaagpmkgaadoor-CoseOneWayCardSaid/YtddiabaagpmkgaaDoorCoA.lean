/-
  Items that stand in a list, and what lies behind one (plain law of layer 25). No program is named here.
-/
import Derived.Test.YtddiabaagpmkgaaDoorE7E
namespace Go.Px.E7
def left2 (a : Atom) (left : List Nat) : List Nat := if leaf a then dec left else count a :: dec left
theorem behind_cons {a : Atom} {r : List Atom} {left : List Nat} {most i : Nat} (h : ((a.kind == 4 || a.kind == 5) && decide (5000 < a.num)) = false) :
    behind (a :: r) left most i = if (pops (left2 a left)).isEmpty then (some (i + 1), max most (left2 a left).length) else behind r (pops (left2 a left)) (max most (left2 a left).length) (i + 1) := by
  rw [behind, if_neg (by rw [h]; decide)]
  rfl
/-- What comes behind one that has ended. -/
def aft (left : List Nat) (r : List Atom) (most i : Nat) : Option Nat × Nat := if (pops left).isEmpty then (some i, most) else behind r (pops left) most i
theorem aft_zero (left : List Nat) (r : List Atom) (most i : Nat) : aft (0 :: left) r most i = aft left r most i := by
  unfold aft
  rw [pops, if_pos rfl]
theorem aft_live (n : Nat) (left : List Nat) (r : List Atom) (most i : Nat) : aft ((n + 1) :: left) r most i = behind r ((n + 1) :: left) most i := by
  unfold aft
  rw [pops, if_neg (Nat.succ_ne_zero n)]
  rfl
def BehIt (d : Nat) : Prop := ∀ x o, ItF d x o → x.length ≤ 4096 → ∀ (left : List Nat) (r : List Atom) (most i : Nat), ∃ m1, behind (x ++ r) left most i = aft (dec left) r m1 (i + x.length)
theorem beh_kids {d : Nat} (ih : BehIt d) {mp : Bool} : ∀ (m k : Nat) (last : Bytes) (x : List Atom) (o : Bool), Kids (ItF d) mp m k last x o → x.length ≤ 4096 → ∀ (left : List Nat) (r : List Atom) (most i : Nat), ∃ m1, aft (m :: left) (x ++ r) most i = aft left r m1 (i + x.length)
  | 0, k, last, x, o, h, hl, left, r, most, i => by
    obtain ⟨rfl, _⟩ := h
    exact ⟨most, by rw [aft_zero]; rfl⟩
  | m + 1, k, last, x, o, h, hl, left, r, most, i => by
    obtain ⟨x1, y, o1, o2, rfl, h1, h2, _⟩ := h
    rw [List.length_append] at hl
    obtain ⟨m1, e1⟩ := ih x1 o1 h1 (by omega) ((m + 1) :: left) (y ++ r) most i
    obtain ⟨m2, e2⟩ := beh_kids ih m (k + 1) _ y o2 h2 (by omega) left r m1 (i + x1.length)
    refine ⟨m2, ?_⟩
    rw [aft_live, List.append_assoc, e1]
    show aft (m :: left) (y ++ r) m1 (i + x1.length) = _
    rw [e2, List.length_append, Nat.add_assoc]
theorem leaf_small {a : Atom} (h : leaf a = true) : ((a.kind == 4 || a.kind == 5) && decide (5000 < a.num)) = false := small_leaf h
theorem node_small {a : Atom} (_ : leaf a = false) (hc : count a ≤ 4096) : ((a.kind == 4 || a.kind == 5) && decide (5000 < a.num)) = false := by
  unfold count at hc
  by_cases h4 : a.kind = 4
  · rw [if_pos (by simp [h4])] at hc
    simp; intro; omega
  · rw [if_neg (by simp [h4])] at hc
    by_cases h5 : a.kind = 5
    · rw [if_pos (by simp [h5])] at hc
      simp; intro; omega
    · simp [h4, h5]
theorem beh_it : ∀ d, BehIt d
  | 0 => by
    intro x o h hl left r most i
    obtain ⟨a, rfl, _, h2, _⟩ := h
    refine ⟨max most (dec left).length, ?_⟩
    rw [List.singleton_append, behind_cons (leaf_small h2)]
    unfold left2
    rw [if_pos h2]
    rfl
  | d + 1 => by
    intro x o h hl left r most i
    rcases h with ⟨a, rfl, _, h2, _⟩ | ⟨a, r', rfl, _, h2, hk⟩
    · refine ⟨max most (dec left).length, ?_⟩
      rw [List.singleton_append, behind_cons (leaf_small h2)]
      unfold left2
      rw [if_pos h2]
      rfl
    · rw [List.length_cons] at hl
      have hc := Kids.le (fun _ _ h => ItF.pos h) hk
      rw [List.cons_append, behind_cons (node_small h2 (by omega))]
      have e1 : left2 a left = count a :: dec left := by unfold left2; rw [if_neg (by rw [h2]; decide)]
      rw [e1]
      obtain ⟨m1, e⟩ := beh_kids (beh_it d) (count a) 0 [] r' o hk (by omega) (dec left) r (max most (count a :: dec left).length) (i + 1)
      unfold aft at e
      rw [e]
      exact ⟨m1, by rw [List.length_cons, Nat.add_assoc, Nat.add_comm 1]; rfl⟩
/-- An item stands at a place of a list, and ends at another. -/
structure At (L : List Atom) (p q : Nat) : Prop where
  it : ∃ d x r, d ≤ 32 ∧ ItF d x false ∧ L.drop p = x ++ r ∧ q = p + x.length
theorem At.lt {L : List Atom} {p q : Nat} (h : At L p q) : p < q ∧ q ≤ L.length := by
  obtain ⟨d, x, r, _, h1, h2, rfl⟩ := h.it
  have h3 := h1.pos
  have h4 := congrArg List.length h2
  rw [List.length_drop, List.length_append] at h4
  omega
theorem At.behind {L : List Atom} {p q : Nat} (h : At L p q) (hl : L.length ≤ 4096) : ∃ m, E7.behind (L.drop p) [] 0 p = (some q, m) := by
  obtain ⟨d, x, r, _, h1, h2, rfl⟩ := h.it
  have h4 := congrArg List.length h2
  rw [List.length_drop, List.length_append] at h4
  obtain ⟨m1, e⟩ := beh_it d x false h1 (by omega) [] r 0 p
  rw [h2, e]
  exact ⟨m1, rfl⟩
/-- The place behind the item at a place. -/
def nx (L : List Atom) (p : Nat) : Nat := (E7.behind (L.drop p) [] 0 p).1.getD 0
theorem At.nx {L : List Atom} {p q : Nat} (h : At L p q) (hl : L.length ≤ 4096) : E7.nx L p = q := by
  obtain ⟨m, e⟩ := h.behind hl
  unfold E7.nx
  rw [e]
  rfl
/-! The program counts how many items are left -/
def adds (a : Atom) : Nat := if leaf a then 0 else count a
/-- From a count and a place: the place at which the count is none. -/
def cnt (L : List Atom) : Nat → Nat → Nat → Option Nat
  | 0, _, _ => none
  | f + 1, left, p => if left = 0 then some p else match L[p]? with
    | none => none
    | some a => cnt L f (left + adds a - 1) (p + 1)
def CntIt (d : Nat) : Prop := ∀ x o, ItF d x o → ∀ (L r : List Atom) (p f left : Nat), L.drop p = x ++ r → cnt L (f + x.length) (left + 1) p = cnt L f left (p + x.length)
theorem cnt_step {L r : List Atom} {a : Atom} {p f left : Nat} (h : L.drop p = a :: r) : cnt L (f + 1) (left + 1) p = cnt L f (left + adds a) (p + 1) := by
  have e : L[p]? = some a := by
    have := congrArg (fun l => l[0]?) h
    simpa using this
  rw [cnt, if_neg (by omega), e]
  show cnt L f (left + 1 + adds a - 1) (p + 1) = _
  rw [show left + 1 + adds a - 1 = left + adds a by omega]
theorem drop_next {L r : List Atom} {a : Atom} {p : Nat} (h : L.drop p = a :: r) : L.drop (p + 1) = r := by
  rw [← List.drop_drop, h]
  rfl
theorem cnt_kids {d : Nat} (ih : CntIt d) {mp : Bool} : ∀ (m k : Nat) (last : Bytes) (x : List Atom) (o : Bool), Kids (ItF d) mp m k last x o → ∀ (L r : List Atom) (p f left : Nat), L.drop p = x ++ r → cnt L (f + x.length) (left + m) p = cnt L f left (p + x.length)
  | 0, k, last, x, o, h, L, r, p, f, left, hL => by
    obtain ⟨rfl, _⟩ := h
    rfl
  | m + 1, k, last, x, o, h, L, r, p, f, left, hL => by
    obtain ⟨x1, y, o1, o2, rfl, h1, h2, _⟩ := h
    rw [List.append_assoc] at hL
    have hL2 : L.drop (p + x1.length) = y ++ r := by rw [← List.drop_drop, hL, List.drop_left]
    have e1 := ih x1 o1 h1 L (y ++ r) p (f + y.length) (left + m) hL
    have e2 := cnt_kids ih m (k + 1) _ y o2 h2 L r (p + x1.length) f left hL2
    rw [List.length_append, show f + (x1.length + y.length) = f + y.length + x1.length by omega, show left + (m + 1) = left + m + 1 by omega, e1, e2, Nat.add_assoc]
theorem cnt_it : ∀ d, CntIt d
  | 0 => by
    intro x o h L r p f left hL
    obtain ⟨a, rfl, _, h2, _⟩ := h
    rw [List.length_singleton, cnt_step hL]
    unfold adds
    rw [if_pos h2]
    rfl
  | d + 1 => by
    intro x o h L r p f left hL
    rcases h with ⟨a, rfl, _, h2, _⟩ | ⟨a, r', rfl, _, h2, hk⟩
    · rw [List.length_singleton, cnt_step hL]
      unfold adds
      rw [if_pos h2]
      rfl
    · have hL2 : L.drop (p + 1) = r' ++ r := drop_next hL
      rw [List.length_cons, ← Nat.add_assoc, cnt_step hL]
      unfold adds
      rw [if_neg (by rw [h2]; decide), cnt_kids (cnt_it d) (count a) 0 [] r' o hk L r (p + 1) f left hL2, Nat.add_assoc, Nat.add_comm 1]
theorem At.cnt {L : List Atom} {p q : Nat} (h : At L p q) : E7.cnt L (q - p + 1) 1 p = some q := by
  obtain ⟨d, x, r, _, h1, h2, rfl⟩ := h.it
  rw [show p + x.length - p + 1 = 1 + x.length by omega, cnt_it d x false h1 L r p 1 0 h2]
  rfl
end Go.Px.E7
