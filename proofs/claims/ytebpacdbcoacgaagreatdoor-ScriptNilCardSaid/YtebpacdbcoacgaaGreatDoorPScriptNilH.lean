/-
  Closed facts of the row and the card of ScriptNil, each within the bound on memory.
-/
import Derived.Test.YtebpacdbcoacgaaGreatDoorRows
import Derived.Test.YtebpacdbcoacgaaGreatDoorCards
import Derived.JoinedOf
import Derived.SevenTiedAt
import Derived.Test.YtebpacdbcoacgaaGreatDoorPScriptNilF
namespace Go.Proofs.YtebpacdbcoacgaaGreatDoor
open Go
theorem scriptNil_unfollowed : Tryz.prog.unfollowed 4 = true := by
  unfold Program.unfollowed
  rw [scriptNil_closure]
  kernel_rfl
theorem scriptNil_recurses : Tryz.prog.recurses 4 = true := by
  unfold Program.recurses
  rw [scriptNil_unfollowed, Bool.true_or]
theorem scriptNil_inPlace : Tryz.prog.inPlace 4 = Rows.scriptNilRow.inPlace := by
  unfold Program.inPlace
  rw [scriptNil_closure]
  kernel_rfl
end Go.Proofs.YtebpacdbcoacgaaGreatDoor
