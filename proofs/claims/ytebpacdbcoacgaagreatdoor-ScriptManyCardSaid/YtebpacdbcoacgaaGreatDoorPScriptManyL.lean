/-
  Closed facts of the row and the card of ScriptMany, each within the bound on memory.
-/
import Derived.Test.YtebpacdbcoacgaaGreatDoorRows
import Derived.Test.YtebpacdbcoacgaaGreatDoorCards
import Derived.JoinedOf
import Derived.SevenTiedAt
namespace Go.Proofs.YtebpacdbcoacgaaGreatDoor
open Go
theorem scriptMany_wf0 : Rows.scriptManyRow.wf (OpenSpec.ofChange Rows.scriptManySpec) = true := by kernel_rfl
theorem scriptMany_tie0 : namedTie Tryz.prog Rows.scriptManyRow.named Rows.scriptManySpec.vars = true := by kernel_rfl
theorem scriptMany_plain : Tryz.prog.plainKeys = Rows.scriptManyRow.plainKeys := by kernel_rfl
theorem scriptMany_enter : Tryz.prog.mayEnter = true := by kernel_rfl
end Go.Proofs.YtebpacdbcoacgaaGreatDoor
