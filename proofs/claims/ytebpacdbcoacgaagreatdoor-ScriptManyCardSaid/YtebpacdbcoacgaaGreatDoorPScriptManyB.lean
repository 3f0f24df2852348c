/-
  Closed facts of the row and the card of ScriptMany, each within the bound on memory.
-/
import Derived.Test.YtebpacdbcoacgaaGreatDoorRows
import Derived.Test.YtebpacdbcoacgaaGreatDoorCards
import Derived.JoinedOf
import Derived.SevenTiedAt
import Derived.Test.YtebpacdbcoacgaaGreatDoorPScriptManyH
import Derived.Test.YtebpacdbcoacgaaGreatDoorPScriptManyI
import Derived.Test.YtebpacdbcoacgaaGreatDoorPScriptManyK
import Derived.Test.YtebpacdbcoacgaaGreatDoorPScriptManyL
namespace Go.Proofs.YtebpacdbcoacgaaGreatDoor
open Go
theorem scriptMany_joined : joinedFacts Tryz.prog 3 Tryz.f3 Rows.scriptManySpec Rows.scriptManyRow = true := by
  unfold joinedFacts
  rw [scriptMany_wf0, scriptMany_laidOut, scriptMany_mapsRowed, scriptMany_tie0, scriptMany_stops, scriptMany_stopKnobs, scriptMany_inPlace, scriptMany_unfollowed, scriptMany_recurses, scriptMany_varsNamed, scriptMany_plain, scriptMany_heard, scriptMany_enter]
  kernel_rfl
end Go.Proofs.YtebpacdbcoacgaaGreatDoor
