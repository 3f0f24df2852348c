/-
  Closed facts of the row and the card of ScriptMany, each within the bound on memory.
-/
import Derived.Test.YtebpacdbcoacgaaGreatDoorRows
import Derived.Test.YtebpacdbcoacgaaGreatDoorCards
import Derived.JoinedOf
import Derived.SevenTiedAt
namespace Go.Proofs.YtebpacdbcoacgaaGreatDoor
open Go
theorem scriptMany_laidOut : laidOutB Tryz.prog = true := by kernel_rfl
theorem scriptMany_mapsRowed : mapsRowed Tryz.prog = true := by kernel_rfl
theorem scriptMany_stops : Tryz.prog.stops = [] := by kernel_rfl
theorem scriptMany_stopKnobs : Tryz.prog.stopKnobs = [] := by kernel_rfl
theorem scriptMany_heard : Tryz.prog.stopsHeard = true := by kernel_rfl
end Go.Proofs.YtebpacdbcoacgaaGreatDoor
