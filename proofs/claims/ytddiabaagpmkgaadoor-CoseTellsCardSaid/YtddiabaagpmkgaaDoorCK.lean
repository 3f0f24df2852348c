/-
 Several texts in one: What all cards of this seat share: the listed tables as facts on memory; arguments as plain data. A string among a statement's arguments, with the reach that every row bears.
-/
import Derived.Test.YtddiabaagpmkgaaDoorUtf8
import Derived.Test.YtddiabaagpmkgaaDoorCborM
import Derived.Test.YtddiabaagpmkgaaDoorTie
import Derived.Test.YtddiabaagpmkgaaDoorCards
import Derived.ProofKit
import Derived.OpenShut
import Derived.Lay
import Derived.LaidMore
import Derived.SevenTiedAt
import Derived.Carry
import Derived.Lib.SmallJoins
import Derived.Lib.LaidU8T
import Derived.Stop.Joined
import Derived.SizedLaws
/-! What all cards of this seat share: the listed tables as facts on memory; arguments as plain data. -/
namespace Go.Proofs.YtddiabaagpmkgaaDoor
open Go.ChangeShapes Go.WideShapes Go.ChangeAt Go.RowKit Go.Px Go.Shelf Go.Lib

theorem own : ownKnob Tryd.prog.godebug = none := by kernel_rfl
theorem laidOut : laidOutB Tryd.prog = true := by kernel_rfl
set_option maxRecDepth 100000 in
theorem first_eq : Rows.laid_unicode_utf8_first = firstData := by kernel_rfl
theorem accept_eq : (Rows.laid_unicode_utf8_acceptRanges : DataW Unit) = acceptData := by kernel_rfl
/-- The list of the rows' tables. -/
def laidL : List (String × DataW Unit) := [("unicode/utf8.acceptRanges", Rows.laid_unicode_utf8_acceptRanges), ("unicode/utf8.first", Rows.laid_unicode_utf8_first)]
theorem tabs_of {W : World} (hL : laidMetH Tryd.prog laidL W) : Tabs W := by
 rw [MakeChecks.laidMetH_plain _ _ _ (by kernel_rfl)] at hL
 exact utf8Tabs_of_readsT (U8Types.of196 Tryd.laysValid) ⟨by kernel_rfl, by kernel_rfl, by kernel_rfl, by kernel_rfl, by kernel_rfl, by kernel_rfl, by kernel_rfl⟩ (first_eq ▸ Lib.laidMet.reads hL (.tail _ (.head _))) (accept_eq ▸ Lib.laidMet.reads hL (.head _))

theorem int_range {k : IntKind} {n : Int} (h : (Lit.int k n).wf = true) : k.min ≤ n ∧ n ≤ k.max := by
 simpa [Lit.wf] using h
end Go.Proofs.YtddiabaagpmkgaaDoor

/-! A string among a statement's arguments, with the reach that every row bears. -/
namespace Go.Proofs.YtddiabaagpmkgaaDoor
open Go.ChangeShapes Go.WideShapes Go.ChangeAt Go.RowKit Go.Px Go.Shelf Go.Lib

end Go.Proofs.YtddiabaagpmkgaaDoor
