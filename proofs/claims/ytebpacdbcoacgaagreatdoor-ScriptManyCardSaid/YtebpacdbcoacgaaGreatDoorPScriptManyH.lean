/-
  Closed facts of the row and the card of ScriptMany, each within the bound on memory.
-/
import Derived.Test.YtebpacdbcoacgaaGreatDoorRows
import Derived.Test.YtebpacdbcoacgaaGreatDoorCards
import Derived.JoinedOf
import Derived.SevenTiedAt
import Derived.Test.YtebpacdbcoacgaaGreatDoorPScriptManyF
namespace Go.Proofs.YtebpacdbcoacgaaGreatDoor
open Go
theorem scriptMany_unfollowed : Tryz.prog.unfollowed 3 = true := by
  unfold Program.unfollowed
  rw [scriptMany_closure]
  kernel_rfl
theorem scriptMany_recurses : Tryz.prog.recurses 3 = true := by
  unfold Program.recurses
  rw [scriptMany_unfollowed, Bool.true_or]
theorem scriptMany_inPlace : Tryz.prog.inPlace 3 = Rows.scriptManyRow.inPlace := by
  unfold Program.inPlace
  rw [scriptMany_closure]
  kernel_rfl
end Go.Proofs.YtebpacdbcoacgaaGreatDoor
