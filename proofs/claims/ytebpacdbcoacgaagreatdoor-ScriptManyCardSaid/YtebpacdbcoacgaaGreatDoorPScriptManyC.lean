/-
  Closed facts of the row and the card of ScriptMany.
-/
import Derived.Test.YtebpacdbcoacgaaGreatDoorRows
import Derived.Test.YtebpacdbcoacgaaGreatDoorCards
import Derived.JoinedOf
import Derived.SevenTiedAt
namespace Go.Proofs.YtebpacdbcoacgaaGreatDoor
open Go
theorem scriptMany_wf : Rows.scriptManyRow.wfByText (OpenSpec.ofChange Rows.scriptManySpec) = true := by kernel_rfl
theorem scriptMany_named : Tryz.prog.funcNamed "pyxis/pyxislaw27.ScriptMany" = some 3 := by kernel_rfl
theorem scriptMany_main : Tryz.prog.mainIs = some (Rows.scriptManyCard.stood.harness.1, Rows.scriptManyCard.stood.harness.2.toList) := by kernel_rfl
theorem scriptMany_stand : ([9, 22].all fun u => !Tryz.prog.wantsStandIn u) = true := by kernel_rfl
end Go.Proofs.YtebpacdbcoacgaaGreatDoor
