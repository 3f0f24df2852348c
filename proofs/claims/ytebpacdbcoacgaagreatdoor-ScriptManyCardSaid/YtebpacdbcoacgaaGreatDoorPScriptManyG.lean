/-
  The statement ScriptMany, proved: its row and its card.
-/
import Derived.Test.YtebpacdbcoacgaaGreatDoorPScriptManyA
import Derived.Test.YtebpacdbcoacgaaGreatDoorPScriptManyB
import Derived.Test.YtebpacdbcoacgaaGreatDoorPScriptManyC
import Derived.Test.YtebpacdbcoacgaaGreatDoorPScriptManyD
import Derived.Test.YtebpacdbcoacgaaGreatDoorPScriptManyE
import Derived.Test.YtebpacdbcoacgaaGreatDoorT6
namespace Go.Proofs.YtebpacdbcoacgaaGreatDoor
open Go.ChangeShapes Go.WideShapes Go.ChangeAt Go.RowKit Go.Px
theorem scriptMany_row : Rows.ScriptManySaid :=
  OpenClaim.holds_of_wide 3 Tryz.f3 rfl rfl rfl rfl rfl rfl rfl ⟨rfl, rfl, rfl, rfl, rfl⟩ rfl rfl rfl rfl rfl scriptMany_named Tryz.func3 scriptMany_joined
    (of_decide_eq_true (by kernel_rfl)) (by unfold Func.isWrapper; first | (rw [if_pos (by decide +kernel)]; kernel_rfl) | (rw [if_neg (by decide +kernel)]; exact ⟨rfl, rfl⟩))
    (fun os started H enc _ => scriptMany_lifted os started H enc)
theorem scriptMany_holds : Rows.ScriptManyCardSaid :=
  Claim7.holds_tied_plain_at .later [] [.pinned, .data, .data, .data, .data, .sentinel, .sentinel, .data, .data, .handle, .data] true Rows.scriptManyCard.stood.harness true scriptMany_row (fun _ h => by cases h) scriptMany_wf (fun _ h => by cases h) scriptMany_row_tie rfl ⟨rfl, rfl⟩ scriptMany_main rfl
    (fun f fn hf hfn => by
      obtain rfl : f = 3 := Option.some.inj (scriptMany_named.symm.trans hf) |>.symm
      obtain rfl : fn = Tryz.f3 := (Option.some.inj (Tryz.func3.symm.trans hfn)).symm
      exact ⟨scriptMany_looks, fun j t ht => by
        rw [Tryz.params3] at ht
        have hm : t ∈ [9, 22] := by simpa using Array.mem_of_getElem? ht
        have hall : ([9, 22].all fun u => !Tryz.prog.wantsStandIn u) = true := scriptMany_stand
        exact (show Tryz.prog.wantsStandIn t = false by simpa using List.all_eq_true.1 hall t hm)⟩)
    scriptMany_goes
#print axioms scriptMany_holds
end Go.Proofs.YtebpacdbcoacgaaGreatDoor
