/-
  A string among a statement's arguments, with the reach that every row bears.
-/
import Derived.Test.YtceffhkgnifmeaaDoorCard
import Derived.SizedLaws
namespace Go.Proofs.YtceffhkgnifmeaaDoor
open Go.ChangeShapes Go.WideShapes Go.ChangeAt Go.RowKit Go.Px Go.Shelf Go.Lib

set_option maxRecDepth 100000 in
theorem open_str_r {H : Type} {enc : TypeId × Value → H} {w : World} {base b0 : Nat} {sp : Nat → Bool} {held : Bool} {r : Reach} {v : Value} {d : DataW H} {ps : List MemPlace} (hv : Value.okWide Tryd.prog w r b0 9 v) (h : DataW.Trod enc Tryd.prog w base sp held 9 v d ps) :
    ∃ l : List UInt8, v = S l ∧ d = .lit (.string l) ∧ l.length ≤ maxLen := by
  obtain ⟨s, rfl, hd, _, hs⟩ := Go.ChangeMaps.open_string Tryd.underlying9 hv h
  have e : s.data.toList.length = s.size := Array.length_toList
  exact ⟨s.data.toList, mk_S s, hd, e ▸ hs⟩
theorem reach_le {n : Nat} (h : n ≤ reachBytes) : n ≤ 140737488351232 := h
end Go.Proofs.YtceffhkgnifmeaaDoor
