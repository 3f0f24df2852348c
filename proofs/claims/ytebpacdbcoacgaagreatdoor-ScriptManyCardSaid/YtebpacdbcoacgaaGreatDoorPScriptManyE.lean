/-
  Closed facts of the row and the card of ScriptMany, each within the bound on memory.
-/
import Derived.Test.YtebpacdbcoacgaaGreatDoorRows
import Derived.Test.YtebpacdbcoacgaaGreatDoorCards
import Derived.JoinedOf
import Derived.SevenTiedAt
import Derived.Test.YtebpacdbcoacgaaGreatDoorPScriptManyH
import Derived.Test.YtebpacdbcoacgaaGreatDoorPScriptManyC
namespace Go.Proofs.YtebpacdbcoacgaaGreatDoor
open Go
theorem scriptMany_goes0 : Tryz.prog.goes 3 = false := by
  unfold Program.goes
  rw [scriptMany_closure, scriptMany_unfollowed]
  kernel_rfl
theorem scriptMany_goes : false = Rows.scriptManyRow.goesBy Tryz.prog := by
  unfold OpenClaim.goesBy Program.goesAt Program.goesFrom
  rw [show Rows.scriptManyRow.func = "pyxis/pyxislaw27.ScriptMany" from rfl, show Rows.scriptManyRow.start = .entering from rfl, scriptMany_named, Option.any_some, scriptMany_goes0]
  rfl
end Go.Proofs.YtebpacdbcoacgaaGreatDoor
