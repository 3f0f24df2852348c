/-
  The statement ScriptNil, proved: its row and its card.
-/
import Derived.Test.YtebpacdbcoacgaaGreatDoorPScriptNilA
import Derived.Test.YtebpacdbcoacgaaGreatDoorPScriptNilB
import Derived.Test.YtebpacdbcoacgaaGreatDoorPScriptNilC
import Derived.Test.YtebpacdbcoacgaaGreatDoorPScriptNilD
import Derived.Test.YtebpacdbcoacgaaGreatDoorPScriptNilE
import Derived.Test.YtebpacdbcoacgaaGreatDoorT6
namespace Go.Proofs.YtebpacdbcoacgaaGreatDoor
open Go.ChangeShapes Go.WideShapes Go.ChangeAt Go.RowKit Go.Px
theorem scriptNil_row : Rows.ScriptNilSaid :=
  OpenClaim.holds_of_wide 4 Tryz.f4 rfl rfl rfl rfl rfl rfl rfl ⟨rfl, rfl, rfl, rfl, rfl⟩ rfl rfl rfl rfl rfl scriptNil_named Tryz.func4 scriptNil_joined
    (of_decide_eq_true (by kernel_rfl)) (by unfold Func.isWrapper; first | (rw [if_pos (by decide +kernel)]; kernel_rfl) | (rw [if_neg (by decide +kernel)]; exact ⟨rfl, rfl⟩))
    (fun os started H enc _ => scriptNil_lifted os started H enc)
theorem scriptNil_holds : Rows.ScriptNilCardSaid :=
  Claim7.holds_tied_plain_at .later [] [.pinned, .data, .data, .data, .data, .sentinel, .sentinel, .data, .data, .handle, .data] true Rows.scriptNilCard.stood.harness true scriptNil_row (fun _ h => by cases h) scriptNil_wf (fun _ h => by cases h) scriptNil_row_tie rfl ⟨rfl, rfl⟩ scriptNil_main rfl
    (fun f fn hf hfn => by
      obtain rfl : f = 4 := Option.some.inj (scriptNil_named.symm.trans hf) |>.symm
      obtain rfl : fn = Tryz.f4 := (Option.some.inj (Tryz.func4.symm.trans hfn)).symm
      exact ⟨scriptNil_looks, fun j t ht => by
        rw [Tryz.params4] at ht
        have hm : t ∈ [9] := by simpa using Array.mem_of_getElem? ht
        have hall : ([9].all fun u => !Tryz.prog.wantsStandIn u) = true := scriptNil_stand
        exact (show Tryz.prog.wantsStandIn t = false by simpa using List.all_eq_true.1 hall t hm)⟩)
    scriptNil_goes
#print axioms scriptNil_holds
end Go.Proofs.YtebpacdbcoacgaaGreatDoor
