/-
  Closed facts of the row and the card of ScriptNil, each within the bound on memory.
-/
import Derived.Test.YtebpacdbcoacgaaGreatDoorRows
import Derived.Test.YtebpacdbcoacgaaGreatDoorCards
import Derived.JoinedOf
import Derived.SevenTiedAt
import Derived.Test.YtebpacdbcoacgaaGreatDoorPScriptNilH
import Derived.Test.YtebpacdbcoacgaaGreatDoorPScriptNilC
namespace Go.Proofs.YtebpacdbcoacgaaGreatDoor
open Go
theorem scriptNil_goes0 : Tryz.prog.goes 4 = false := by
  unfold Program.goes
  rw [scriptNil_closure, scriptNil_unfollowed]
  kernel_rfl
theorem scriptNil_goes : false = Rows.scriptNilRow.goesBy Tryz.prog := by
  unfold OpenClaim.goesBy Program.goesAt Program.goesFrom
  rw [show Rows.scriptNilRow.func = "pyxis/pyxislaw27.ScriptNil" from rfl, show Rows.scriptNilRow.start = .entering from rfl, scriptNil_named, Option.any_some, scriptNil_goes0]
  rfl
end Go.Proofs.YtebpacdbcoacgaaGreatDoor
