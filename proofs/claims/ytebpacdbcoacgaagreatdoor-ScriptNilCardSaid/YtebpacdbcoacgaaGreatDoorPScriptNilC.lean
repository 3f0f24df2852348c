/-
  Closed facts of the row and the card of ScriptNil.
-/
import Derived.Test.YtebpacdbcoacgaaGreatDoorRows
import Derived.Test.YtebpacdbcoacgaaGreatDoorCards
import Derived.JoinedOf
import Derived.SevenTiedAt
namespace Go.Proofs.YtebpacdbcoacgaaGreatDoor
open Go
theorem scriptNil_wf : Rows.scriptNilRow.wfByText (OpenSpec.ofChange Rows.scriptNilSpec) = true := by kernel_rfl
theorem scriptNil_named : Tryz.prog.funcNamed "pyxis/pyxislaw27.ScriptNil" = some 4 := by kernel_rfl
theorem scriptNil_main : Tryz.prog.mainIs = some (Rows.scriptNilCard.stood.harness.1, Rows.scriptNilCard.stood.harness.2.toList) := by kernel_rfl
theorem scriptNil_stand : ([9].all fun u => !Tryz.prog.wantsStandIn u) = true := by kernel_rfl
end Go.Proofs.YtebpacdbcoacgaaGreatDoor
