/-
  Closed facts of the row and the card of ScriptMany, each within the bound on memory.
-/
import Derived.Test.YtebpacdbcoacgaaGreatDoorRows
import Derived.Test.YtebpacdbcoacgaaGreatDoorCards
import Derived.JoinedOf
import Derived.SevenTiedAt
import Derived.Test.YtebpacdbcoacgaaGreatDoorPScriptManyF
namespace Go.Proofs.YtebpacdbcoacgaaGreatDoor
open Go
theorem scriptMany_varsNamed : Tryz.prog.varsNamed 3 = Rows.scriptManyRow.named := by
  unfold Program.varsNamed
  rw [scriptMany_closure]
  kernel_rfl
end Go.Proofs.YtebpacdbcoacgaaGreatDoor
