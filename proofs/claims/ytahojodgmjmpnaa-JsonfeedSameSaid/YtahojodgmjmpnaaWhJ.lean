/-
  The walk over jsonfeed's text.digit: a byte that is no digit.
-/
import Derived.Test.YtahojodgmjmpnaaWgJ
namespace Go.Proofs.Ytahojodgmjmpnaa
open Go.RowKit Go.Px
theorem hex_none (z : Nat) (h : R6.hex z = none) : (z < 48 ∨ 57 < z) ∧ (z < 97 ∨ 102 < z) ∧ (z < 65 ∨ 70 < z) := by
  unfold R6.hex R6.digit at h
  refine ⟨?_, ?_, ?_⟩
  all_goals
    apply Classical.byContradiction
    intro hn
    revert h
    (repeat' split) <;> simp_all <;> omega
set_option maxRecDepth 100000 in
set_option maxHeartbeats 4000000 in
theorem digit_none (b : Nat) (t : J6.Txt) (vt : Value) (z : Nat) (hh : R6.hex z = none) (w : World) (h : TxtAt w b t vt) :
    Calls Try.prog 95 #[.pointer (some ⟨b, 0, none⟩), .int .u8 (z : Nat)] w (TxtPost w b vt (.refuses, t)) := by
  obtain ⟨q1, q2, q3⟩ := hex_none z hh
  have H := Px.hid h
  clear hh h
  have hc : decide ((48 : Int) ≤ (z : Int)) = false ∨ ((48 : Int) ≤ (z : Int) ∧ decide ((z : Int) ≤ 57) = false ∧ decide ((97 : Int) ≤ (z : Int)) = false ∧ decide ((65 : Int) ≤ (z : Int)) = false) ∨
      ((48 : Int) ≤ (z : Int) ∧ decide ((z : Int) ≤ 57) = false ∧ decide ((97 : Int) ≤ (z : Int)) = false ∧ (65 : Int) ≤ (z : Int) ∧ decide ((z : Int) ≤ 70) = false) ∨
      ((48 : Int) ≤ (z : Int) ∧ decide ((z : Int) ≤ 57) = false ∧ (97 : Int) ≤ (z : Int) ∧ decide ((z : Int) ≤ 102) = false ∧ (65 : Int) ≤ (z : Int) ∧ decide ((z : Int) ≤ 70) = false) := by
    simp only [decide_eq_false_iff_not]
    omega
  have hl : decide ((48 : Int) ≤ (z : Int)) = false → decide ((97 : Int) ≤ (z : Int)) = false ∧ decide ((65 : Int) ≤ (z : Int)) = false := by
    simp only [decide_eq_false_iff_not]
    omega
  clear q1 q2 q3
  rcases hc with a1 | ⟨a1, a2, a3, a4⟩ | ⟨a1, a2, a3, a4, a5⟩ | ⟨a1, a2, a3, a4, a5, a6⟩
  · obtain ⟨a2, a3⟩ := hl a1
    clear hl
    go_enter Try.func95, Try.ntmps95
    go_wp2
    go_ret
    exact ⟨rfl, _, H.out, Fr.refl _ w, Fresh.refl _ _⟩
  all_goals
    clear hl
    go_enter Try.func95, Try.ntmps95
    go_wp2
    go_ret
    exact ⟨rfl, _, H.out, Fr.refl _ w, Fresh.refl _ _⟩
end Go.Proofs.Ytahojodgmjmpnaa
