/-
 Several texts in one: The walk over the statement CoseReads (layer 25).
-/
import Derived.Test.YtddiabaagpmkgaaDoorCL
import Derived.Test.YtddiabaagpmkgaaDoorCX
import Derived.Test.YtddiabaagpmkgaaDoorCP
/-! The walk over the statement CoseReads (layer 25). -/
namespace Go.Proofs.YtddiabaagpmkgaaDoor
open Go.RowKit Go.Px Go.Px.E7 Go.Px.Co
set_option maxRecDepth 100000 in
set_option maxHeartbeats 8000000 in
theorem law_CoseReads (s : Bytes) (lim : Lim) (w : World) (hs0 : s.length ≤ 140737488351232) (hT : Tabs w) :
  Calls Tryd.prog 3 #[S s, limV lim] w fun e w' => e = .returned (.bool true) ∧ Below w.heap.size w w' := by
 have HL := Px.hid (show s.length ≤ 140737488355327 by omega)
 have HO := Px.hid (On.boxed lim hT)
 clear hs0 hT
 unfold limV
 go_enter Tryd.func3, Tryd.ntmps3
 go_wp2_with fail
 refine (wakes_any _ HO.out.tabs).mono ?_
 rintro e w1 ⟨rfl, hs⟩
 replace HO := Px.hid (HO.out.sm hs)
 clear hs
 obtain ⟨c0, c1, c2, c3⟩ := HO.out.lim.cells
 have HR := Px.hid (creadAll_any s lim w1 HL.out HO.out.tabs)
 have HRR := Px.hid (fun W => rreadAll_any s lim W HL.out)
 unfold limV at HR HRR
 go_wp2_with fail
 refine HR.out.mono ?_
 rintro e w2 ⟨vy, rfl, hyo, hs, _, ya, yc, rfl⟩
 have hto := read_to s lim
 obtain ⟨d, hd⟩ : ∃ d, d = Co.read s lim := ⟨_, rfl⟩
 rw [← hd] at hyo hto HRR ⊢
 clear hd
 obtain ⟨y, ye⟩ := d
 simp only at hyo hto HRR ⊢
 have HY := Px.hid hyo
 have HTO := Px.hid hto
 replace HO := Px.hid (HO.out.sm hs)
 clear hs hyo c0 c1 c2 c3 HR hto
 rw [show envC y (.slice ya y.to.length yc) = #[.int .i64 y.fmt, .int .i64 y.alg, .slice ya y.to.length yc, S y.header, S y.loose, S y.aad, S y.iv, S y.cipher, S y.tag] from rfl]
 obtain ⟨c0, c1, c2, c3⟩ := HO.out.lim.cells
 have hwl0 : w.heap.size < w2.heap.size := ltOf HO.out.lim.2
 go_wp2_with fail
 refine (HRR.out _).mono ?_
 rintro e w3 ⟨vz, rfl, hzo, hs, _, za', zc, rfl⟩
 have HX := Px.hid (show Blk w3 w2.heap.size #[.int .i64 y.fmt, .int .i64 y.alg, .slice ya y.to.length yc, S y.header, S y.loose, S y.aad, S y.iv, S y.cipher, S y.tag] 27 from Blk.fr (blk_new w2 _ _) hs (fun x => x))
 have HS23 := Px.hid (Same.trans (Fr.alloc (Fr.refl _ w2) _) hs)
 have HZ := Px.hid hzo
 replace HO := Px.hid (HO.out.sm HS23.out)
 clear hs hzo c0 c1 c2 c3
 simp only
 rw [show envC y (.slice za' y.to.length zc) = #[.int .i64 y.fmt, .int .i64 y.alg, .slice za' y.to.length zc, S y.header, S y.loose, S y.aad, S y.iv, S y.cipher, S y.tag] from rfl]
 obtain ⟨c0, c1, c2, c3, c4, c5, c6, c7, c8, _⟩ := blk9 HX.out
 have hwl := HX.out.lt
 have HSM := Px.hid (show ∀ W, Same w3 W → Calls Tryd.prog 12 #[.agg (envC y (.slice ya y.to.length yc)), .agg (envC y (.slice za' y.to.length zc))] W fun e w' => e = .returned (.bool (decide (y = y))) ∧ Same W w' from fun W hW => rsame_any y y _ _ W (Lies.same (HY.out.lies cRec_len) (HS23.out.trans hW)) (Lies.same (HZ.out.lies cRec_len) hW) (by have := HTO.out; omega))
 rw [show decide (y = y) = true from decide_eq_true rfl] at HSM
 unfold envC at HSM
 go_wp2_with fail
 refine (HSM.out _ (Fr.alloc (Fr.refl _ w3) _)).mono ?_
 rintro e w4 ⟨rfl, hs⟩
 replace HO := Px.hid (HO.out.sm (Same.trans (Fr.alloc (Fr.refl _ w3) _) hs))
 clear hs
 go_wp2
 go_ret
 exact ⟨by simp, HO.out.lim.1.toBelow _ (fun _ h => h.elim) (Nat.le_refl _)⟩
end Go.Proofs.YtddiabaagpmkgaaDoor
