/-
  A part of the tie of the listed variables: one closed fact.
-/
import Derived.Test.YtebpacdbcoacgaaGreatDoorRows
import Derived.LaidByTextLater
namespace Go.Proofs.YtebpacdbcoacgaaGreatDoor
open Go
theorem tie_d (os : Os) (tape : Tape) : varsDone Tryz.prog 400 (varsId Tryz.prog) os tape = true := by kernel_rfl
end Go.Proofs.YtebpacdbcoacgaaGreatDoor
