/-
  A part of the tie of the listed variables: one closed fact.
-/
import Derived.Test.YtebpacdbcoacgaaGreatDoorT0
namespace Go.Proofs.YtebpacdbcoacgaaGreatDoor
open Go
theorem tie_h2 (os : Os) (tape : Tape) : (DataW.laidRun Tryz.prog (varsWorld Tryz.prog 400 (varsId Tryz.prog) os tape).memory 8 ((tieL.filter fun x => x.2.handleName?.isNone).map (·.1))).map (fun x => decide x.2.Nodup && laidRowsB Tryz.prog (varsWorld Tryz.prog 400 (varsId Tryz.prog) os tape).memory x.2) = some true := by kernel_rfl
end Go.Proofs.YtebpacdbcoacgaaGreatDoor
