/-
  Several texts in one: What all rows of this seat share: arguments as plain data. A slice of strings among a statement's arguments, as plain data.
-/
import Derived.Test.YtahojodgmjmpnaaLJ
import Derived.Test.YtahojodgmjmpnaaRows
import Derived.ProofKit
import Derived.OpenShut
import Derived.Carry
import Derived.Lib.SmallJoins
import Derived.Test.YtahojodgmjmpnaaLI
import Derived.SliceStrings
/-! What all rows of this seat share: arguments as plain data. -/
namespace Go.Proofs.Ytahojodgmjmpnaa
open Go.ChangeShapes Go.WideShapes Go.ChangeAt Go.RowKit Go.Px

theorem own : ownKnob Try.prog.godebug = none := by kernel_rfl
theorem laidOut : laidOutB Try.prog = true := by kernel_rfl
theorem int_range {k : IntKind} {n : Int} (h : (Lit.int k n).wf = true) : k.min ≤ n ∧ n ≤ k.max := by
  simpa [Lit.wf] using h
def LimFits (l : Lim) : Prop := (IntKind.i64.min ≤ l.d ∧ l.d ≤ IntKind.i64.max) ∧ (IntKind.i64.min ≤ l.i ∧ l.i ≤ IntKind.i64.max) ∧ (IntKind.i64.min ≤ l.b ∧ l.b ≤ IntKind.i64.max) ∧ (IntKind.i64.min ≤ l.r ∧ l.r ≤ IntKind.i64.max)
set_option maxRecDepth 100000 in
theorem open_lim {H : Type} {enc : TypeId × Value → H} {w : World} {base b0 : Nat} {sp : Nat → Bool} {held : Bool} {r : Reach} {v : Value} {d : DataW H} {ps : List MemPlace} (hv : Value.okWide Try.prog w r b0 24 v) (h : DataW.Trod enc Try.prog w base sp held 24 v d ps) :
    ∃ l : Lim, v = .agg #[.int .i64 l.d, .int .i64 l.i, .int .i64 l.b, .int .i64 l.r] ∧ LimFits l := by
  obtain ⟨v0, v1, v2, v3, y0, y1, y2, y3, n, rfl, rfl, rfl, h0, h1, h2, h3⟩ := Joins.open_agg4 Try.underlying24 (by kernel_rfl) (by kernel_rfl) hv h
  obtain ⟨a, e0, rfl, w0⟩ := DataW.trod_int Try.underlying3 h0
  obtain ⟨b, e1, rfl, w1⟩ := DataW.trod_int Try.underlying3 h1
  obtain ⟨c, e2, rfl, w2⟩ := DataW.trod_int Try.underlying3 h2
  obtain ⟨e, e3, rfl, w3⟩ := DataW.trod_int Try.underlying3 h3
  simp only [List.cons.injEq, and_true] at e0 e1 e2 e3
  subst e0 e1 e2 e3
  exact ⟨⟨a, b, c, e⟩, rfl, int_range w0, int_range w1, int_range w2, int_range w3⟩
set_option maxRecDepth 100000 in
theorem open_str {H : Type} {enc : TypeId × Value → H} {w : World} {base b0 : Nat} {sp : Nat → Bool} {held : Bool} {r : Reach} {v : Value} {d : DataW H} {ps : List MemPlace} (hv : Value.okWide Try.prog w r b0 9 v) (h : DataW.Trod enc Try.prog w base sp held 9 v d ps) :
    ∃ l : List UInt8, v = S l ∧ l.length ≤ maxLen := by
  obtain ⟨s, rfl, _, _, hs⟩ := Go.ChangeMaps.open_string Try.underlying9 hv h
  have e : s.data.toList.length = s.size := Array.length_toList
  exact ⟨s.data.toList, mk_S s, e ▸ hs⟩
end Go.Proofs.Ytahojodgmjmpnaa

/-! A slice of strings among a statement's arguments, as plain data. -/
namespace Go.Proofs.Ytahojodgmjmpnaa
open Go.ChangeShapes Go.WideShapes Go.ChangeAt Go.RowKit Go.Px Go.Shelf Go.Lib

set_option maxRecDepth 100000 in
theorem open_strs {H : Type} {enc : TypeId × Value → H} {w : World} {base b0 : Nat} {held : Bool} {r : Reach} {v : Value} {d : DataW H} {ps : List MemPlace} (hv : Value.okWide Try.prog w r b0 22 v) (h : DataW.Trod enc Try.prog w base (fun _ => true) held 22 v d ps) :
    ∃ ss : List Bytes, StrsAt w v ss := by
  obtain ⟨a0, len, cap, rfl⟩ := okWide_slice Try.underlying22 hv
  obtain ⟨fuel, hf⟩ := h
  rcases open_strings Try.underlying22 Try.underlying9 (by kernel_rfl) hf with ⟨hcs, _⟩ | ⟨a, len', cap', ss, hcs, _, hl, hm, hz, _, hcell, hws⟩
  · simp [Value.cells] at hcs
    obtain ⟨rfl, rfl, rfl⟩ := hcs
    exact ⟨[], ⟨none, 0, rfl⟩, Nat.zero_le _, fun i h => absurd h (Nat.not_lt_zero i), fun i h => absurd h (Nat.not_lt_zero i)⟩
  · simp [Value.cells] at hcs
    obtain ⟨rfl, rfl, rfl⟩ := hcs
    simp only [if_true] at hz
    obtain ⟨b, off, spot⟩ := a
    have hlen : ((ss.take len).map (fun s : ByteArray => s.data.toList)).length = len := by rw [List.length_map, List.length_take]; omega
    refine ⟨(ss.take len).map (fun s : ByteArray => s.data.toList), ⟨some ⟨b, off, spot⟩, cap, by rw [hlen]⟩, by rw [hlen]; omega, fun i hi => ?_, fun i hi => ?_⟩
    · rw [hlen] at hi
      have hmem : ss[i]'(by omega) ∈ ss := List.getElem_mem _
      have := hws _ hmem
      rw [List.getElem_map, List.getElem_take]
      exact (show (ss[i]'(by omega)).data.toList.length = (ss[i]'(by omega)).size from Array.length_toList) ▸ this
    · rw [hlen] at hi
      have hspot : spot = none := by simpa [Addr.add] using World.cell?_spot (hcell 0 (by omega))
      subst hspot
      have hc := hcell i (by omega)
      rw [add_plain] at hc
      refine ⟨b, off, cap, by rw [hlen], World.block_lt_of_cell? w _ hc, ?_⟩
      rw [hc, List.getElem_map, List.getElem_take, List.getD, List.getElem?_eq_getElem (by omega : i < ss.length)]
      rfl
end Go.Proofs.Ytahojodgmjmpnaa
