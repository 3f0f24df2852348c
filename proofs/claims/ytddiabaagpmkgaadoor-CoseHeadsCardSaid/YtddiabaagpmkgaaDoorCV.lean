/-
 Several texts in one: The walk over the statement CoseHeads (layer 25).
-/
import Derived.Test.YtddiabaagpmkgaaDoorCL
import Derived.Test.YtddiabaagpmkgaaDoorCT
/-! The walk over the statement CoseHeads (layer 25). -/
namespace Go.Proofs.YtddiabaagpmkgaaDoor
open Go.RowKit Go.Px Go.Px.E7 Go.Px.Co
set_option maxRecDepth 100000 in
set_option maxHeartbeats 8000000 in
theorem law_CoseHeads (k : Int) (name iv : Bytes) (w : World) (_hk : IntKind.i64.min ≤ k ∧ k ≤ IntKind.i64.max) (hn : name.length ≤ 140737488351232) (hi : iv.length ≤ 140737488351232) (hT : Tabs w) :
  Calls Tryd.prog 7 #[.int .i64 k, S name, S iv] w fun e w' => e = .returned (.bool true) ∧ Below w.heap.size w w' := by
 have HT := Px.hid hT
 have HP := Px.hid (cheads_any k name iv w hn hi hT)
 have HR := Px.hid (fun W => rheads_any k name iv W hn hi)
 obtain ⟨d, hd⟩ : ∃ d, d = heads k name iv := ⟨_, rfl⟩
 rw [← hd] at HP HR
 clear hd hT hn hi _hk
 obtain ⟨a, b, c⟩ := d
 simp only at HP HR
 go_enter Tryd.func7, Tryd.ntmps7
 go_wp2_with fail
 refine HP.out.mono ?_
 rintro e w1 ⟨rfl, hs⟩
 have HS := Px.hid hs
 clear hs
 go_wp2_with fail
 refine (HR.out _).mono ?_
 rintro e w2 ⟨rfl, hs⟩
 replace HS := Px.hid (HS.out.trans hs)
 clear hs
 go_wp2_with fail
 refine (wakes_any _ (HT.out.same HS.out)).mono ?_
 rintro e w3 ⟨rfl, hs⟩
 replace HS := Px.hid (HS.out.trans hs)
 clear hs
 go_wp2
 go_ret
 exact ⟨by simp, HS.out.toBelow _ (fun _ h => h.elim) (Nat.le_refl _)⟩
end Go.Proofs.YtddiabaagpmkgaaDoor
