/-
  A part of the tie of the listed variables: one closed fact.
-/
import Derived.Test.YtebpacdbcoacgaaGreatDoorT0
namespace Go.Proofs.YtebpacdbcoacgaaGreatDoor
open Go
theorem tie_h3 (os : Os) (tape : Tape) : (tieL.filter fun x => x.2.handleName?.isSome).all (handleAtB Tryz.prog (varsWorld Tryz.prog 400 (varsId Tryz.prog) os tape).memory) = true := by kernel_rfl
end Go.Proofs.YtebpacdbcoacgaaGreatDoor
