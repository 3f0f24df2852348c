/-
  The walks over layer 27's wakes and the statement ScriptNil.
-/
import Derived.Test.YtebpacdbcoacgaaGreatDoorScO
namespace Go.Proofs.YtebpacdbcoacgaaGreatDoor
open Go.RowKit Go.Px
set_option maxRecDepth 100000 in
set_option maxHeartbeats 4000000 in
theorem wakes27 (mx : Int) (w : World) (hm : MaxW w mx) : Calls Tryz.prog 5 #[] w fun e w' => e = .returned (.bool true) ∧ Same w w' := by
  have HM := Px.hid hm
  clear hm
  go_enter Tryz.func5, Tryz.ntmps5
  go_wp2_with fail
  refine (run_key mx _ HM.out).mono ?_
  rintro e w1 ⟨rfl, hs1⟩
  have HS1 := Px.hid hs1
  clear hs1
  go_wp2_with fail
  refine (run_x mx _ (HM.out.fr HS1.out (fun x => x))).mono ?_
  rintro e w2 ⟨rfl, hs2⟩
  have HS2 := Px.hid (HS1.out.trans hs2)
  clear hs2
  go_wp2_with fail
  refine (run_lim mx _ (HM.out.fr HS2.out (fun x => x))).mono ?_
  rintro e w3 ⟨rfl, hs3⟩
  have HS3 := Px.hid (HS2.out.trans hs3)
  clear hs3
  go_wp2
  go_ret
  exact ⟨rfl, HS3.out⟩
set_option maxRecDepth 100000 in
set_option maxHeartbeats 4000000 in
theorem do_nil (x : Value) (w : World) : Calls Tryz.prog 7 #[.pointer none, x] w fun e w' => e = .returned (.string ⟨#[101, 114, 114, 111, 114, 32, 49]⟩) ∧ w = w' := by
  go_enter Tryz.func7, Tryz.ntmps7
  go_wp2_with (go_at_call 13; refine (failed_1 _).mono ?_; rintro e w' ⟨rfl, rfl⟩)
  go_ret
  exact ⟨rfl, rfl⟩
set_option maxRecDepth 100000 in
theorem law_ScriptNil (s : List UInt8) (mx : Int) (w : World) (hm : MaxW w mx) : Calls Tryz.prog 4 #[S s] w fun e w' => e = .returned (.bool true) ∧ Below w.heap.size w w' := by
  have HW := Px.hid (wakes27 mx w hm)
  clear hm
  go_enter Tryz.func4, Tryz.ntmps4
  go_wp2_with fail
  refine HW.out.mono ?_
  rintro e w1 ⟨rfl, hs1⟩
  have HS1 := Px.hid hs1
  clear hs1 HW
  go_wp2_with (go_at_call 7; refine (do_nil _ _).mono ?_; rintro e w' ⟨rfl, rfl⟩)
  go_ret
  exact ⟨rfl, HS1.out.below⟩
end Go.Proofs.YtebpacdbcoacgaaGreatDoor
