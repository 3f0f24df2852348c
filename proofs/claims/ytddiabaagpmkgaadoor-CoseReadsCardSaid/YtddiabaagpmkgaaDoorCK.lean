/-
 Several texts in one: What all cards of this seat share: the listed tables as facts on memory; arguments as plain data. A string among a statement's arguments, with the reach that every row bears.
-/
import Derived.Test.YtddiabaagpmkgaaDoorUtf8
import Derived.Test.YtddiabaagpmkgaaDoorCborM
import Derived.Test.YtddiabaagpmkgaaDoorTie
import Derived.Test.YtddiabaagpmkgaaDoorCards
import Derived.ProofKit
import Derived.OpenShut
import Derived.Lay
import Derived.LaidMore
import Derived.SevenTiedAt
import Derived.Carry
import Derived.Lib.SmallJoins
import Derived.Lib.LaidU8T
import Derived.Stop.Joined
import Derived.SizedLaws
/-! What all cards of this seat share: the listed tables as facts on memory; arguments as plain data. -/
namespace Go.Proofs.YtddiabaagpmkgaaDoor
open Go.ChangeShapes Go.WideShapes Go.ChangeAt Go.RowKit Go.Px Go.Shelf Go.Lib

theorem own : ownKnob Tryd.prog.godebug = none := by kernel_rfl
theorem laidOut : laidOutB Tryd.prog = true := by kernel_rfl
set_option maxRecDepth 100000 in
theorem first_eq : Rows.laid_unicode_utf8_first = firstData := by kernel_rfl
theorem accept_eq : (Rows.laid_unicode_utf8_acceptRanges : DataW Unit) = acceptData := by kernel_rfl
/-- The list of the rows' tables. -/
def laidL : List (String × DataW Unit) := [("unicode/utf8.acceptRanges", Rows.laid_unicode_utf8_acceptRanges), ("unicode/utf8.first", Rows.laid_unicode_utf8_first)]
theorem tabs_of {W : World} (hL : laidMetH Tryd.prog laidL W) : Tabs W := by
 rw [MakeChecks.laidMetH_plain _ _ _ (by kernel_rfl)] at hL
 exact utf8Tabs_of_readsT (U8Types.of196 Tryd.laysValid) ⟨by kernel_rfl, by kernel_rfl, by kernel_rfl, by kernel_rfl, by kernel_rfl, by kernel_rfl, by kernel_rfl⟩ (first_eq ▸ Lib.laidMet.reads hL (.tail _ (.head _))) (accept_eq ▸ Lib.laidMet.reads hL (.head _))

theorem int_range {k : IntKind} {n : Int} (h : (Lit.int k n).wf = true) : k.min ≤ n ∧ n ≤ k.max := by
 simpa [Lit.wf] using h
def LimFits (l : Lim) : Prop := (IntKind.i64.min ≤ l.d ∧ l.d ≤ IntKind.i64.max) ∧ (IntKind.i64.min ≤ l.i ∧ l.i ≤ IntKind.i64.max) ∧ (IntKind.i64.min ≤ l.b ∧ l.b ≤ IntKind.i64.max) ∧ (IntKind.i64.min ≤ l.r ∧ l.r ≤ IntKind.i64.max)
set_option maxRecDepth 100000 in
theorem open_lim {H : Type} {enc : TypeId × Value → H} {w : World} {base b0 : Nat} {sp : Nat → Bool} {held : Bool} {r : Reach} {v : Value} {d : DataW H} {ps : List MemPlace} (hv : Value.okWide Tryd.prog w r b0 23 v) (h : DataW.Trod enc Tryd.prog w base sp held 23 v d ps) :
  ∃ l : Lim, v = .agg #[.int .i64 l.d, .int .i64 l.i, .int .i64 l.b, .int .i64 l.r] ∧ LimFits l := by
 obtain ⟨v0, v1, v2, v3, y0, y1, y2, y3, n, rfl, rfl, rfl, h0, h1, h2, h3⟩ := Joins.open_agg4 Tryd.underlying23 (by kernel_rfl) (by kernel_rfl) hv h
 obtain ⟨a, e0, rfl, w0⟩ := DataW.trod_int Tryd.underlying3 h0
 obtain ⟨b, e1, rfl, w1⟩ := DataW.trod_int Tryd.underlying3 h1
 obtain ⟨c, e2, rfl, w2⟩ := DataW.trod_int Tryd.underlying3 h2
 obtain ⟨e, e3, rfl, w3⟩ := DataW.trod_int Tryd.underlying3 h3
 simp only [List.cons.injEq, and_true] at e0 e1 e2 e3
 subst e0 e1 e2 e3
 exact ⟨⟨a, b, c, e⟩, rfl, int_range w0, int_range w1, int_range w2, int_range w3⟩
end Go.Proofs.YtddiabaagpmkgaaDoor

/-! A string among a statement's arguments, with the reach that every row bears. -/
namespace Go.Proofs.YtddiabaagpmkgaaDoor
open Go.ChangeShapes Go.WideShapes Go.ChangeAt Go.RowKit Go.Px Go.Shelf Go.Lib

set_option maxRecDepth 100000 in
theorem open_str_r {H : Type} {enc : TypeId × Value → H} {w : World} {base b0 : Nat} {sp : Nat → Bool} {held : Bool} {r : Reach} {v : Value} {d : DataW H} {ps : List MemPlace} (hv : Value.okWide Tryd.prog w r b0 9 v) (h : DataW.Trod enc Tryd.prog w base sp held 9 v d ps) :
  ∃ l : List UInt8, v = S l ∧ d = .lit (.string l) ∧ l.length ≤ maxLen := by
 obtain ⟨s, rfl, hd, _, hs⟩ := Go.ChangeMaps.open_string Tryd.underlying9 hv h
 have e : s.data.toList.length = s.size := Array.length_toList
 exact ⟨s.data.toList, mk_S s, hd, e ▸ hs⟩
theorem reach_le {n : Nat} (h : n ≤ reachBytes) : n ≤ 140737488351232 := h
end Go.Proofs.YtddiabaagpmkgaaDoor
