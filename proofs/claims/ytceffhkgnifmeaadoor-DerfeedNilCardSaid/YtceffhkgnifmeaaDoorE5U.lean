/-
  The ways of Encode of layer 15, as the two sides find them (plain laws). No program is named here.
-/
import Derived.Test.YtceffhkgnifmeaaDoorE5T
namespace Go.Px.E5

/-- The reference's count of the bytes of all bodies. -/
def totN : List Node → Nat → Nat
  | [], t => t
  | a :: r, t => totN r (if 262144 < a.body.length ∨ 262144 < t then 262145 else t + a.body.length)
theorem tot_app : ∀ (l : List Node) (a : Node) (t : Nat), totN (l ++ [a]) t = if 262144 < a.body.length ∨ 262144 < totN l t then 262145 else totN l t + a.body.length
  | [], a, t => rfl
  | b :: l, a, t => by
    rw [List.cons_append]
    unfold totN
    exact tot_app l a _
theorem tot_le : ∀ (l : List Node) (t : Nat), t ≤ 524288 → totN l t ≤ 524288
  | [], t, h => h
  | a :: r, t, h => by
    unfold totN
    refine tot_le r _ ?_
    split <;> omega
theorem tot_big : ∀ (l : List Node) (t : Nat), 262144 < totN l t → 262144 < t + (l.map (fun a => a.body.length)).sum
  | [], t, h => by simpa [totN] using h
  | a :: r, t, h => by
    unfold totN at h
    have := tot_big r _ h
    rw [List.map_cons, List.sum_cons]
    by_cases hc : 262144 < a.body.length ∨ 262144 < t
    · rw [if_pos hc] at this
      omega
    · rw [if_neg hc] at this
      omega
theorem tot_small : ∀ (l : List Node) (t : Nat), ¬ 262144 < totN l t → t + (l.map (fun a => a.body.length)).sum ≤ 262144
  | [], t, h => by simpa [totN] using h
  | a :: r, t, h => by
    unfold totN at h
    have := tot_small r _ h
    rw [List.map_cons, List.sum_cons]
    by_cases hc : 262144 < a.body.length ∨ 262144 < t
    · rw [if_pos hc] at this
      omega
    · rw [if_neg hc] at this
      omega
theorem behind_of_el {d : Nat} {l : List Node} {b : Bytes} {o : Bool} (h : El d l b o) : ∃ m, behind l [] 0 0 = (some l.length, m) ∧ l ≠ [] := by
  obtain ⟨m, h1, _, h3⟩ := shape_of_el h
  refine ⟨m, ?_, h3⟩
  have := behind_of_shape l true [] 0 m 0 h1 h3 (Nat.le_refl _)
  rw [Nat.zero_add] at this
  exact this
theorem enc_behind {l : List Node} (hl : l.length ≤ 4096) (h : l = [] ∨ (behind l [] 0 0).1 ≠ some l.length) : Enc l ([], 9) := by
  refine .form hl fun d b o he => ?_
  obtain ⟨m, h1, h2⟩ := behind_of_el he
  rcases h with h | h
  · exact h2 h
  · rw [h1] at h; exact h rfl
theorem enc_wrong {l : List Node} {a : Node} (hl : l.length ≤ 4096) (ha : a ∈ l) (h : right a = false) : Enc l ([], 9) :=
  .form hl fun d b o he => by rw [he.all a ha] at h; cases h
theorem shape_behind {l : List Node} {m : Nat} (h : behind l [] 0 0 = (some l.length, m)) (hr : ∀ a ∈ l, right a = true) : shape true l [] 0 = some (m, []) :=
  shape_of_behind l true [] 0 m 0 (by rw [Nat.zero_add]; exact h) hr (.inl rfl) (Nat.le_refl _)
theorem enc_total {l : List Node} {m : Nat} (hl : l.length ≤ 4096) (hn : l ≠ []) (h : shape true l [] 0 = some (m, [])) (hm : m ≤ 32) (ht : 262144 < totN l 0) : Enc l ([], 10) := by
  obtain ⟨b, o, he⟩ := el_of_shape hn h hm
  have := tot_big l 0 ht
  exact .long b o hl he (by have := he.whole.2.2.2.2.1; omega)
theorem el_total {l : List Node} {b : Bytes} {o : Bool} {d : Nat} (hl : l.length ≤ 4096) (h : El d l b o) (ht : ¬ 262144 < totN l 0) : b.length ≤ 400000 := by
  have := tot_small l 0 ht
  have := h.whole.2.2.2.2.2
  omega
theorem enc_shape {l : List Node} (hl : l.length ≤ 4096) (h : l = [] ∨ shape true l [] 0 = none ∨ ∃ m c r, shape true l [] 0 = some (m, c :: r)) : Enc l ([], 9) := by
  refine .form hl fun d b o he => ?_
  obtain ⟨m, h1, _, h3⟩ := shape_of_el he
  rcases h with h | h | ⟨m', c, r, h⟩
  · exact h3 h
  · rw [h1] at h; cases h
  · rw [h1] at h; simp at h
end Go.Px.E5
