/-
  The walks over jsonfeed's number: next, whole.
-/
import Derived.Test.YtahojodgmjmpnaaProg
import Derived.Test.YtahojodgmjmpnaaHeap
import Derived.Test.YtahojodgmjmpnaaJfM
import Derived.WalkKit
import Derived.WalkLawsBesides
import Derived.WalkSpells
import Derived.Deep.QuietTactic
import Derived.BigQuiet
namespace Go.Proofs.Ytahojodgmjmpnaa
open Go.RowKit Go.Px

/-- What next hands back. -/
def nextV (o : Option Nat) : Value := match o with
  | some k => .int .i64 (k : Nat)
  | none => .int .i64 (-1)
/-- Behind a digit that is no 0. -/
def numD (q : Nat) : Option Nat := if q == 0 || q == 1 || q == 3 then some 3 else if q == 4 || q == 5 then some 5 else if q == 6 || q == 7 || q == 8 then some 8 else none
theorem numD_eq : ∀ q, q < 9 → ∀ c, c < 58 → 48 < c → R6.numNext q c = numD q := by decide
theorem num_none (q c : Nat) (h1 : ¬ (48 ≤ c ∧ c ≤ 57)) (h2 : c ≠ 45) (h3 : c ≠ 46) (h4 : c ≠ 101) (h5 : c ≠ 69) (h6 : c ≠ 43) : R6.numNext q c = none := by
  have hd : R6.digit c = false := by unfold R6.digit; simp; omega
  have h48 : (c == 48) = false := by simp; omega
  have e2 : (c == 45) = false := by simpa using h2
  have e3 : (c == 46) = false := by simpa using h3
  have e4 : (c == 101) = false := by simpa using h4
  have e5 : (c == 69) = false := by simpa using h5
  have e6 : (c == 43) = false := by simpa using h6
  unfold R6.numNext
  simp only [hd, h48, e2, e3, e4, e5, e6, Bool.and_false, Bool.or_false, Bool.false_eq_true, if_false]
set_option maxRecDepth 100000 in
set_option maxHeartbeats 4000000 in
theorem num_next (b q c : Nat) (hq : q ≤ 8) (w : World) (h : w.cell? ⟨b, 0, none⟩ = some (.int .i64 (q : Nat))) :
    Calls Try.prog 67 #[.pointer (some ⟨b, 0, none⟩), .int .u8 (c : Nat)] w fun r w' => r = .returned (nextV (R6.numNext q c)) ∧ w = w' := by
  have hq9 : q = 0 ∨ q = 1 ∨ q = 2 ∨ q = 3 ∨ q = 4 ∨ q = 5 ∨ q = 6 ∨ q = 7 ∨ q = 8 := by omega
  by_cases hdig : 48 ≤ c ∧ c ≤ 57
  · by_cases h0 : c = 48
    · subst h0
      rcases hq9 with rfl | rfl | rfl | rfl | rfl | rfl | rfl | rfl | rfl
      all_goals
        clear hdig hq
        go_enter Try.func67, Try.ntmps67
        go_wp2
        go_ret
        exact ⟨rfl, rfl⟩
    · rw [numD_eq q (by omega) c (by omega) (by omega)]
      have z1 : (48 : Int) ≤ (c : Int) := by omega
      have z2 : (c : Int) ≤ 57 := by omega
      have n48z : ((c : Int) == 48) = false := by simp; omega
      rcases hq9 with rfl | rfl | rfl | rfl | rfl | rfl | rfl | rfl | rfl
      all_goals
        clear hdig hq h0
        go_enter Try.func67, Try.ntmps67
        go_wp2
        go_ret
        exact ⟨rfl, rfl⟩
  · have hcc : c = 45 ∨ c = 46 ∨ c = 101 ∨ c = 69 ∨ c = 43 ∨ (c ≠ 45 ∧ c ≠ 46 ∧ c ≠ 101 ∧ c ≠ 69 ∧ c ≠ 43) := by omega
    rcases hcc with rfl | rfl | rfl | rfl | rfl | ⟨m1, m2, m3, m4, m5⟩
    all_goals try
      rcases hq9 with rfl | rfl | rfl | rfl | rfl | rfl | rfl | rfl | rfl
      all_goals
        clear hdig hq
        go_enter Try.func67, Try.ntmps67
        go_wp2
        go_ret
        exact ⟨rfl, rfl⟩
    rw [num_none q c hdig m1 m2 m3 m4 m5]
    have k1 : ((c : Int) == 45) = false := by simp; omega
    have k2 : ((c : Int) == 46) = false := by simp; omega
    have k3 : ((c : Int) == 101) = false := by simp; omega
    have k4 : ((c : Int) == 69) = false := by simp; omega
    have k5 : ((c : Int) == 43) = false := by simp; omega
    by_cases h48 : 48 ≤ c
    · have z1 : (48 : Int) ≤ (c : Int) := by omega
      have z2 : decide ((c : Int) ≤ 57) = false := by simp; omega
      clear hdig hq hq9 m1 m2 m3 m4 m5 h48
      go_enter Try.func67, Try.ntmps67
      go_wp2
      go_ret
      exact ⟨rfl, rfl⟩
    · have z1 : decide ((48 : Int) ≤ (c : Int)) = false := by simp; omega
      clear hdig hq hq9 m1 m2 m3 m4 m5 h48
      go_enter Try.func67, Try.ntmps67
      go_wp2
      go_ret
      exact ⟨rfl, rfl⟩
theorem num_whole (b q : Nat) (hq : q ≤ 8) (w : World) (h : w.cell? ⟨b, 0, none⟩ = some (.int .i64 (q : Nat))) :
    Calls Try.prog 22 #[.pointer (some ⟨b, 0, none⟩)] w fun r w' => r = .returned (.bool (R6.numEnd q)) ∧ w = w' := by
  have hq9 : q = 0 ∨ q = 1 ∨ q = 2 ∨ q = 3 ∨ q = 4 ∨ q = 5 ∨ q = 6 ∨ q = 7 ∨ q = 8 := by omega
  rcases hq9 with rfl | rfl | rfl | rfl | rfl | rfl | rfl | rfl | rfl
  all_goals
    clear hq
    go_enter Try.func22, Try.ntmps22
    go_wp2
    go_ret
    exact ⟨rfl, rfl⟩
end Go.Proofs.Ytahojodgmjmpnaa
