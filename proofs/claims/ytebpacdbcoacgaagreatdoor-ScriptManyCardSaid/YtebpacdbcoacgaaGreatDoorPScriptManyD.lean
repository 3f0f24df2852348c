/-
  Closed facts of the row and the card of ScriptMany.
-/
import Derived.Test.YtebpacdbcoacgaaGreatDoorRows
import Derived.Test.YtebpacdbcoacgaaGreatDoorCards
import Derived.JoinedOf
import Derived.SevenTiedAt
namespace Go.Proofs.YtebpacdbcoacgaaGreatDoor
open Go
theorem scriptMany_looks : true = Tryz.prog.looks [] := by kernel_rfl
end Go.Proofs.YtebpacdbcoacgaaGreatDoor
