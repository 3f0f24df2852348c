/-
  Closed facts of the row and the card of ScriptNil, each within the bound on memory.
-/
import Derived.Test.YtebpacdbcoacgaaGreatDoorRows
import Derived.Test.YtebpacdbcoacgaaGreatDoorCards
import Derived.JoinedOf
import Derived.SevenTiedAt
import Derived.Test.YtebpacdbcoacgaaGreatDoorPScriptNilF
namespace Go.Proofs.YtebpacdbcoacgaaGreatDoor
open Go
theorem scriptNil_varsNamed : Tryz.prog.varsNamed 4 = Rows.scriptNilRow.named := by
  unfold Program.varsNamed
  rw [scriptNil_closure]
  kernel_rfl
end Go.Proofs.YtebpacdbcoacgaaGreatDoor
