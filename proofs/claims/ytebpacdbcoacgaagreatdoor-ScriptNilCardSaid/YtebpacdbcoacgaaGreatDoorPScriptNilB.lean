/-
  Closed facts of the row and the card of ScriptNil, each within the bound on memory.
-/
import Derived.Test.YtebpacdbcoacgaaGreatDoorRows
import Derived.Test.YtebpacdbcoacgaaGreatDoorCards
import Derived.JoinedOf
import Derived.SevenTiedAt
import Derived.Test.YtebpacdbcoacgaaGreatDoorPScriptNilH
import Derived.Test.YtebpacdbcoacgaaGreatDoorPScriptNilI
namespace Go.Proofs.YtebpacdbcoacgaaGreatDoor
open Go
theorem scriptNil_joined : joinedFacts Tryz.prog 4 Tryz.f4 Rows.scriptNilSpec Rows.scriptNilRow = true := by
  unfold joinedFacts
  rw [scriptNil_inPlace, scriptNil_unfollowed, scriptNil_recurses, scriptNil_varsNamed]
  kernel_rfl
end Go.Proofs.YtebpacdbcoacgaaGreatDoor
