/-
  Several texts in one: A slice of strings among a statement's arguments, as plain data.
-/
import Derived.Test.YtceffhkgnifmeaaDoorCard
import Derived.Test.YtceffhkgnifmeaaDoorKD
import Derived.SliceStrings
/-! A slice of strings among a statement's arguments, as plain data. -/
namespace Go.Proofs.YtceffhkgnifmeaaDoor
open Go.ChangeShapes Go.WideShapes Go.ChangeAt Go.RowKit Go.Px Go.Shelf Go.Lib

set_option maxRecDepth 100000 in
theorem open_strs {H : Type} {enc : TypeId × Value → H} {w : World} {base b0 : Nat} {held : Bool} {r : Reach} {v : Value} {d : DataW H} {ps : List MemPlace} (hv : Value.okWide Tryd.prog w r b0 44 v) (h : DataW.Trod enc Tryd.prog w base (fun _ => true) held 44 v d ps) :
    ∃ ss : List Bytes, StrsAt w v ss := by
  obtain ⟨a0, len, cap, rfl⟩ := okWide_slice Tryd.underlying44 hv
  obtain ⟨fuel, hf⟩ := h
  rcases open_strings Tryd.underlying44 Tryd.underlying9 (by kernel_rfl) hf with ⟨hcs, _⟩ | ⟨a, len', cap', ss, hcs, _, hl, hm, hz, _, hcell, hws⟩
  · simp [Value.cells] at hcs
    obtain ⟨rfl, rfl, rfl⟩ := hcs
    exact ⟨[], ⟨none, 0, rfl⟩, Nat.zero_le _, fun i h => absurd h (Nat.not_lt_zero i), fun i h => absurd h (Nat.not_lt_zero i)⟩
  · simp [Value.cells] at hcs
    obtain ⟨rfl, rfl, rfl⟩ := hcs
    simp only [if_true] at hz
    obtain ⟨b, off, spot⟩ := a
    have hlen : ((ss.take len).map (fun s : ByteArray => s.data.toList)).length = len := by rw [List.length_map, List.length_take]; omega
    refine ⟨(ss.take len).map (fun s : ByteArray => s.data.toList), ⟨some ⟨b, off, spot⟩, cap, by rw [hlen]⟩, by rw [hlen]; omega, fun i hi => ?_, fun i hi => ?_⟩
    · rw [hlen] at hi
      have hmem : ss[i]'(by omega) ∈ ss := List.getElem_mem _
      have := hws _ hmem
      rw [List.getElem_map, List.getElem_take]
      exact (show (ss[i]'(by omega)).data.toList.length = (ss[i]'(by omega)).size from Array.length_toList) ▸ this
    · rw [hlen] at hi
      have hspot : spot = none := by simpa [Addr.add] using World.cell?_spot (hcell 0 (by omega))
      subst hspot
      have hc := hcell i (by omega)
      rw [add_plain] at hc
      refine ⟨b, off, cap, by rw [hlen], World.block_lt_of_cell? w _ hc, ?_⟩
      rw [hc, List.getElem_map, List.getElem_take, List.getD, List.getElem?_eq_getElem (by omega : i < ss.length)]
      rfl
end Go.Proofs.YtceffhkgnifmeaaDoor
