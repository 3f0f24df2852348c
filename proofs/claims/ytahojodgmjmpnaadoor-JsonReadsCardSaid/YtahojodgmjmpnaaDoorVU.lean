/-
  Several texts in one: The walks over the reference's Decode and the statement JsonReads.
-/
import Derived.Test.YtahojodgmjmpnaaDoorVP
import Derived.Test.YtahojodgmjmpnaaDoorVJ
/-! The walks over the reference's Decode and the statement JsonReads. -/
namespace Go.Proofs.YtahojodgmjmpnaaDoor
open Go.RowKit Go.Px

set_option maxRecDepth 100000 in
set_option maxHeartbeats 2000000 in
theorem refdecode16_any (s : Bytes) (lim : Lim) (hs : s.length ≤ 140737488355327) (w : World) :
    Calls Tryd.prog 11 #[S s, limV lim] w (Gives w (R6.decode s lim)) := by
  have HS := Px.hid hs
  clear hs
  unfold limV
  go_enter Tryd.func11, Tryd.ntmps11
  go_upto_region 1 with fail
  obtain ⟨WX, hWX⟩ : ∃ WX, WX = w.alloc (.cells #[.int .i64 lim.d, .int .i64 lim.i, .int .i64 lim.b, .int .i64 lim.r] 23 (0, 0)) := ⟨_, rfl⟩
  rw [← hWX]
  have HX := Px.hid (show LimIn w WX w.heap.size lim from by rw [hWX]; exact boxed16 w lim)
  clear hWX
  obtain ⟨a0, a1, a2, a3⟩ := HX.out.cells
  go_wp2_with fail
  refine (refMay_any lim _).mono ?_
  rintro e w1 ⟨rfl, hsm⟩
  have HL := Px.hid (HX.out.same hsm)
  clear hsm a0 a1 a2 a3
  obtain ⟨a0, a1, a2, a3⟩ := HL.out.cells
  cases hm : lim.may
  · have HR := Px.hid (dec_no (s := s) hm)
    clear hm
    go_wp2
    go_ret3
    rw [HR.out]
    exact gives_nil rfl HL.out.1
  · have HR := Px.hid (show R6.decode s lim = ((R6.read s lim).1, (R6.read s lim).2.place, (R6.read s lim).2.err) by unfold R6.decode; rw [if_pos hm])
    have HC := Px.hid (show Ctx s lim from ⟨HS.out, hm⟩)
    clear hm
    go_wp2_with fail
    refine (read16_any s lim _ HC.out).mono ?_
    rintro e w2 ⟨v, rfl, hv, hsm, hvf⟩
    have HV := Px.hid (And.intro hv (And.intro (HL.out.1.trans hsm) (fun g hg => Nat.le_trans HL.out.1.size (hvf g hg))))
    obtain ⟨D, hD⟩ : ∃ D, D = (R6.read s lim).1 := ⟨_, rfl⟩
    obtain ⟨x, hx⟩ : ∃ x, x = (R6.read s lim).2 := ⟨_, rfl⟩
    rw [← hx] at HR ⊢
    rw [← hD] at HR HV
    clear hx hD hv hsm hvf a0 a1 a2 a3
    unfold rdV
    go_wp2_with fail
    go_quiet (fail)
    go_wp2
    go_ret3
    rw [HR.out]
    exact ⟨v, rfl, (HV.out.1.alloc _).drewN nq, (HV.out.2.1.alloc _).drewN nq, HV.out.2.2⟩
set_option maxRecDepth 100000 in
set_option maxHeartbeats 2000000 in
theorem law_JsonReads (s : Bytes) (lim : Lim) (w : World) (hs0 : s.length ≤ 140737488351232) (hT : Tabs w) :
    Calls Tryd.prog 3 #[S s, limV lim] w fun e w' => e = .returned (.bool true) ∧ Below w.heap.size w w' := by
  have hs : s.length ≤ 140737488355327 := by omega
  clear hs0
  have HS := Px.hid (And.intro hs True.intro)
  have HO := Px.hid (On.boxed lim hT)
  clear hs hT
  unfold limV
  go_enter Tryd.func3, Tryd.ntmps3
  go_wp2_with fail
  refine (wakes16_any _ HO.out.tabs).mono ?_
  rintro e w1 ⟨rfl, hs⟩
  have HO := Px.hid (HO.out.sm hs)
  clear hs
  obtain ⟨c0, c1, c2, c3⟩ := HO.out.lim.cells
  go_wp2_with fail
  refine (jdecode_any s lim (by have := HS.out.1; omega) _).mono ?_
  intro e w2 hg
  obtain ⟨a, c, rfl, ho, hs⟩ := hg.len
  have HO := Px.hid (HO.out.sm hs)
  have HA := Px.hid ho
  clear hs hg ho c0 c1 c2 c3
  obtain ⟨c0, c1, c2, c3⟩ := HO.out.lim.cells
  obtain ⟨d, hd⟩ : ∃ d, d = R6.decode s lim := ⟨_, rfl⟩
  have HR := Px.hid (refdecode16_any s lim HS.out.1)
  rw [← hd] at HA HR ⊢
  clear hd
  go_wp2_with fail
  refine (HR.out _).mono ?_
  intro e w3 hg
  obtain ⟨a2, c2, rfl, ho, hs⟩ := hg.len
  have HO := Px.hid (HO.out.sm hs)
  have HA := Px.hid (And.intro (Owns.same HA.out hs) ho)
  clear hs hg ho c0 c1 c3
  go_wp2_with fail
  refine (same_lies _ _ _ _ (HA.out.1.lies cVal_len) (HA.out.2.lies cVal_len)).mono ?_
  rintro e w4 ⟨rfl, hs⟩
  have HO := Px.hid (HO.out.sm hs)
  clear hs
  go_wp2
  go_ret
  exact ⟨rfl, HO.out.lim.1.below⟩
end Go.Proofs.YtahojodgmjmpnaaDoor
