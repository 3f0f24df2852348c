/-
  Several texts in one: The walk over derived (layer 23). The walk over the innermost closure of password: the lock (layer 23). The walks over two closures of password (layer 23).
-/
import Derived.Test.YtpfhollohodcjaaGreatDoorYC
import Derived.Laws.EntriesVeiled
import Derived.IntWalk
import Derived.BigRegion
/-! The walk over derived (layer 23). -/
namespace Go.Proofs.YtpfhollohodcjaaGreatDoor
open Go.RowKit Go.Px Go.Px.Co Go.Px.Cm
/-- Two boxes more. -/
theorem boxes {w w3 : World} {b br : Nat} {va : Value} {L : List Px.Node} {lim : Lim} {k : Cu} {F : Nat → Prop} {r : Co.Rec} (h : CuAt w b va L lim k F) (hx : RecP br r F w)
    (e : w3 = (w.alloc (.cells #[.pointer (some ⟨b, 0, none⟩)] 50)).alloc (.cells #[.pointer (some ⟨br, 0, none⟩)] 167)) : RecW w3 F w.heap.size (w.heap.size + 1) b br r ∧ Same w w3 := by
  have hs2 : Same w w3 := by rw [e]; exact ((Fr.refl _ _).alloc _).alloc _
  have b0 := (blk_new w #[.pointer (some ⟨b, 0, none⟩)] 50).alloc (.cells #[.pointer (some ⟨br, 0, none⟩)] 167)
  have b1 := blk_new (w.alloc (.cells #[.pointer (some ⟨b, 0, none⟩)] 50)) #[.pointer (some ⟨br, 0, none⟩)] 167
  rw [show (w.alloc (.cells #[.pointer (some ⟨b, 0, none⟩)] 50)).heap.size = w.heap.size + 1 by simp] at b1
  rw [← e] at b0 b1
  have hbl := hx.2.lt
  refine ⟨⟨b0.cell 0 rfl, b1.cell 0 rfl, hx.2.fr hs2 (fun x => x), fun x => ?_, fun x => ?_, hx.1, by omega, by omega⟩, hs2⟩
  · have := h.lt _ x; omega
  · have := h.lt _ x; omega
set_option maxRecDepth 100000 in
set_option maxHeartbeats 8000000 in
theorem derived_any (b br : Nat) (va : Value) (L : List Px.Node) (lim : Lim) (k : Cu) (F : Nat → Prop) (r : Co.Rec) (w : World) (h : CuAt w b va L lim k F) (hf : Fits L k) (hd : k.left.length ≤ 97) (hr : ∀ a ∈ L, E5.right a = true) (hl : 0 ≤ lim.r ∧ lim.r ≤ 4096) (hx : RecP br r F w) (hv : ∀ q, va.ownBlock = some q → q ≠ br) :
    Calls Tryz.prog 141 #[.pointer (some ⟨b, 0, none⟩), .pointer (some ⟨br, 0, none⟩)] w (RunsE w b va L lim F (fun q => q = br) (fun d => RecP br { r with salt := d.1, rounds := (d.2.1 : Nat), kind := 256 + 128 * (d.2.2 : Nat) }) (derived L lim k)) := by
  obtain ⟨R, hR⟩ : ∃ R, R = derived L lim k := ⟨_, rfl⟩
  rw [← hR]
  have HR := Px.hid hR
  have H := Px.hid (And.intro h (And.intro hf (And.intro hd (And.intro hr (And.intro hl hv)))))
  obtain ⟨w3, hw3⟩ : ∃ w3, w3 = ((w.alloc (.cells #[.pointer (some ⟨b, 0, none⟩)] 50)).alloc (.cells #[.pointer (some ⟨br, 0, none⟩)] 167)) := ⟨_, rfl⟩
  obtain ⟨hrw3, hs3⟩ := boxes h hx hw3
  have c1 := hrw3.cc
  rw [hw3] at c1
  have hal : Same w3 (w3.alloc (.cells ([derivT].map S).toArray 9)) := Fr.alloc (Fr.refl _ w3) _
  have HK := Px.hid (kind_any b va L lim k F (.slice (some ⟨w3.heap.size, 0, none⟩) 1 1) [derivT] (by decide) (w3.alloc (.cells ([derivT].map S).toArray 9)) ((h.same hs3).same hal) hf (lies_new (blk_new w3 _ _) (by decide)) (fun q hq hF => by simp only [Value.ownBlock, Option.some.injEq] at hq; have := (h.same hs3).lt q hF; omega))
  have H3 := Px.hid (And.intro (hrw3.stable (hal.fr F)) (hs3.trans hal))
  have W3 := Px.hid hw3
  clear hR h hf hd hr hl hx hv hw3 hrw3 hs3 hal
  go_enter Tryz.func141, Tryz.ntmps141
  go_wp2_with fail
  have hsz : w3.heap.size = w.heap.size + 1 + 1 := by rw [W3.out]; simp
  rw [← W3.out, ← hsz]
  refine HK.out.mono ?_
  intro e w4 hT
  obtain ⟨pc, hpc⟩ : ∃ pc, pc = w.heap.size := ⟨_, rfl⟩
  obtain ⟨pr, hpr⟩ : ∃ pr, pr = w.heap.size + 1 := ⟨_, rfl⟩
  clear c1 hsz
  have hrw3 := H3.out.1
  rw [← hpr, ← hpc] at hrw3 ⊢
  clear hpc hpr
  cases hk : kind L [derivT] k with
  | error n =>
    rw [hk] at hT
    have HI := Px.hid (HR.out.trans (bnd_err hk))
    obtain ⟨⟨v, rfl, fb, rfl, hb⟩, hs⟩ := hT
    have HE := Px.hid (And.intro hb ((H3.out.2.fr F).trans hs fun _ _ x => x))
    clear hb hs hk HK hrw3
    go_wp2
    go_ret
    rw [HI.out]
    exact ⟨⟨_, rfl, fb, rfl, HE.out.1⟩, Fr.mono HE.out.2 fun _ x => .inl x⟩
  | ok q =>
    obtain ⟨u, k1⟩ := q
    rw [hk] at hT
    obtain ⟨rfl, hcu, hfr⟩ := hT
    have hR1 : R = inn L 48 (derivP L lim) k1 := HR.out.trans (bnd_ok hk)
    obtain ⟨hf1, hd1⟩ := eats_len (eats_kind H.out.2.2.2.1 [derivT]) hk H.out.2.1
    have hrw := hrw3.stable hfr
    have hin := in_any b va L lim k1 F (fun q => q = br) 0x30 (by decide) (by decide) 159 #[.pointer (some ⟨pc, 0, none⟩), .pointer (some ⟨pr, 0, none⟩)] (derivP L lim) (fun d F' w' => RecW w' F' pc pr b br { r with salt := d.1, rounds := (d.2.1 : Nat), kind := 256 + 128 * (d.2.2 : Nat) }) w4 hcu hf1 (by have := H.out.2.2.1; omega) H.out.2.2.2.1 (fun _ => rfl)
      (eats_true (((eats_octs H.out.2.2.2.1 8 1000 1).bnd fun salt => (eats_rounds H.out.2.2.2.1 H.out.2.2.2.2.1.2).bnd fun n => (((eats_hash H.out.2.2.2.1).inn H.out.2.2.2.1 (t := 0x30) (by decide) (by decide)).bnd fun i => eats_ret (salt, n, i)).bar))) (fun v F w w' h hf => h.stable hf)
      (fun w1 F1 k2 h1 h2 h3 h4 h5 => deriv1_any pc pr b br va L lim k2 F1 r w1 h1 h2 (by have := H.out.2.2.1; omega) H.out.2.2.2.1 H.out.2.2.2.2.1 (hrw.keep h4 h5) H.out.2.2.2.2.2)
    rw [show ((0x30 : UInt8).toNat) = 48 from rfl] at hin
    have HIN := Px.hid hin
    have HR1 := Px.hid hR1
    have H4 := Px.hid (Fr.mono (G := fun q => F q ∨ q = br) ((H3.out.2.fr F).trans hfr fun _ _ x => x) fun _ x => .inl x)
    have c1 := hrw.cc
    clear hcu hfr hR1 hf1 hd1 hrw hrw3 hin hk HK HR
    go_wp2_with fail
    refine HIN.out.mono ?_
    intro e w5 hT
    clear c1
    cases hk : inn L 48 (derivP L lim) k1 with
    | error n =>
      rw [hk] at hT
      have HI := Px.hid (HR1.out.trans hk)
      obtain ⟨⟨v, rfl, fb, rfl, hb⟩, hs⟩ := hT
      have HE := Px.hid (And.intro hb (H4.out.trans hs fun _ _ x => x))
      clear hb hs hk HIN
      go_wp2
      go_ret
      rw [HI.out]
      exact ⟨⟨_, rfl, fb, rfl, HE.out.1⟩, HE.out.2⟩
    | ok q =>
      obtain ⟨d, k3⟩ := q
      rw [hk] at hT
      have HI := Px.hid (HR1.out.trans hk)
      obtain ⟨rfl, ⟨F1, hcu, hfs, hrw⟩, hfr⟩ := hT
      have HE := Px.hid (And.intro hcu (And.intro hrw (And.intro (H4.out.trans hfr fun _ _ x => x) (fresh_chain H4.out (fresh_refl w F) hfs))))
      clear hcu hfs hrw hfr hk HIN
      go_wp2
      go_ret
      rw [HI.out]
      exact ⟨rfl, ⟨F1, HE.out.1, HE.out.2.2.2, HE.out.2.1.nb, HE.out.2.1.rb⟩, HE.out.2.2.1⟩
end Go.Proofs.YtpfhollohodcjaaGreatDoor

/-! The walk over the innermost closure of password: the lock (layer 23). -/
namespace Go.Proofs.YtpfhollohodcjaaGreatDoor
open Go.RowKit Go.Px Go.Px.Co Go.Px.Cm
set_option maxRecDepth 100000 in
set_option maxHeartbeats 8000000 in
theorem lockQ_any (pc pr b br : Nat) (va : Value) (L : List Px.Node) (lim : Lim) (k : Cu) (F : Nat → Prop) (r : Co.Rec) (w : World) (h : CuAt w b va L lim k F) (hf : Fits L k) (hr : ∀ a ∈ L, E5.right a = true) (hw : RecW w F pc pr b br r) (hv : ∀ q, va.ownBlock = some q → q ≠ br) :
    Calls Tryz.prog 143 #[.pointer (some ⟨pc, 0, none⟩), .pointer (some ⟨pr, 0, none⟩)] w (RunsE w b va L lim F (fun q => q = br) (fun d F' w' => RecW w' F' pc pr b br { r with size := 16 + 8 * (d.1 : Nat), iv := d.2 }) (lockQ L k)) := by
  obtain ⟨R, hR⟩ : ∃ R, R = lockQ L k := ⟨_, rfl⟩
  rw [← hR]
  have HR := Px.hid hR
  have H := Px.hid (And.intro h (And.intro hf (And.intro hv hr)))
  have HRW := Px.hid hw
  have c1 := hw.cc
  have HG := Px.hid (fresh_refl w F)
  clear hR h hf hw hv hr
  go_enter Tryz.func143, Tryz.ntmps143
  go_wp2_with fail
  have hal : Same w (w.alloc (.cells (lockTs.map S).toArray 9)) := Fr.alloc (Fr.refl _ w) _
  refine (kind_any b va L lim k F (.slice (some ⟨w.heap.size, 0, none⟩) 3 3) lockTs (by decide) (w.alloc (.cells (lockTs.map S).toArray 9)) (H.out.1.same hal) H.out.2.1 (lies_new (blk_new w _ _) (by decide)) (fun q hq hF => by simp only [Value.ownBlock, Option.some.injEq] at hq; have := H.out.1.lt q hF; omega)).mono ?_
  intro e w1 hT
  have hrw := HRW.out.keep (hal.fr F) (fresh_refl _ F)
  cases hk : kind L lockTs k with
  | error n =>
    rw [hk] at hT
    have HI := Px.hid (HR.out.trans (bnd_err hk))
    obtain ⟨⟨v, rfl, fb2, rfl, hfb⟩, hs⟩ := hT
    have HE := Px.hid (And.intro hfb ((hal.fr F).trans hs fun _ _ x => x))
    clear hal hrw hs hfb c1 hk
    go_wp2
    go_ret
    rw [HI.out]
    exact ⟨⟨_, rfl, fb2, rfl, HE.out.1⟩, Fr.mono HE.out.2 fun _ x => .inl x⟩
  | ok q =>
    obtain ⟨i, k1⟩ := q
    rw [hk] at hT
    obtain ⟨rfl, hc, hs⟩ := hT
    have hi : i < 3 := kind_lt hk
    have hR1 : R = bnd (octs L 16 16 1) (fun iv => ret (i, iv)) k1 := HR.out.trans (bnd_ok hk)
    have hf1 := (eats_len (eats_kind H.out.2.2.2 lockTs) hk H.out.2.1).1
    have hr1 := hrw.keep hs (fresh_refl _ F)
    have c3 := hr1.cr
    have fb := hr1.rb.free 1
    have k0 := hr1.rb.cell 1 rfl
    have hr2 := hr1.set (r' := { r with size := 16 + 8 * (i : Int) }) 1 (.int .i64 (16 + 8 * (i : Int))) (by simp [cRec])
    have hc2 : CuAt (w1.setCell ⟨br, 1, none⟩ (.int .i64 (16 + 8 * (i : Int)))) b va L lim k1 F := hc.fr (G := fun q => q = br) (Fr.setCell (F := fun q => q = br) (Fr.refl _ _) (p := ⟨br, 1, none⟩) (.inl rfl) _) (fun q hq e => hr1.nb (by rw [← e]; exact hq)) H.out.2.2.1
    have HE := Px.hid (Fr.setCell (F := fun q => F q ∨ q = br) (Fr.mono ((hal.fr F).trans hs fun _ _ x => x) fun _ x => .inl x) (p := ⟨br, 1, none⟩) (.inl (.inr rfl)) (.int .i64 (16 + 8 * (i : Int))))
    have hiz : (i : Int) < 3 := by omega
    obtain ⟨R1, hR2⟩ : ∃ R1, R1 = octs L 16 16 1 k1 := ⟨_, rfl⟩
    have hvv := H.out.2.2.1
    replace HR := Px.hid (And.intro hR1 hR2)
    replace HRW := Px.hid hr2
    replace H := Px.hid (And.intro hc2 (And.intro hf1 (And.intro hvv True.intro)))
    clear hal hrw hs hr1 hc hi hk hR1 hR2 hf1 hr2 hc2 c1 hvv
    go_upto_region 5 with fail
    clear fb k0 c3 hiz
    obtain ⟨w2, hw2⟩ : ∃ w2, w2 = w1.setCell ⟨br, 1, none⟩ (.int .i64 (16 + 8 * (i : Int))) := ⟨_, rfl⟩
    rw [← hw2] at HRW H HE ⊢
    clear hw2
    have c1 := HRW.out.cc
    have c2 := HRW.out.cr
    go_cut [4] (fun t4 wx => MidB (fun s => { r with size := 16 + 8 * (i : Int), iv := s }) w2 b pc pr br va L lim F R1 t4 wx)
    case first =>
      obtain ⟨SS, hSS⟩ : ∃ SS : World → Prop, SS = (fun W : World => W.cell? ⟨pc, 0, none⟩ = some (.pointer (some ⟨b, 0, none⟩)) ∧ W.cell? ⟨pr, 0, none⟩ = some (.pointer (some ⟨br, 0, none⟩))) := ⟨_, rfl⟩
      have hS0 : SS w2.drew := by rw [hSS]; exact ⟨c1, c2⟩
      refine wp_region_held_drew (S := SS) (by kernel_rfl) hS0 (fun hHeld => ?_)
      refine wpAnyH_take (i := 0) (v := ?_) rfl (by kernel_rfl) (by kernel_rfl) (by kernel_rfl) (fun _ _ _ h => h) (Or.inl ⟨by rfl, ?_⟩) (by assumption) ?_
      rotate_left
      · intro w hw
        rw [hSS] at hw
        obtain ⟨q1, q2⟩ := hw
        go_simp
        try (with_reducible rfl)
      change wpAnyH _ _ _ _ _ _ _ (Act.put _ (some 21) _) _
      simp only [Act.put, List.setIfInBounds_toArray, List.set_cons_zero, List.set_cons_succ]
      refine wpAnyH_take (i := 1) (v := ?_) rfl (by kernel_rfl) (by kernel_rfl) (by kernel_rfl) (fun _ _ _ h => h) (Or.inl ⟨by rfl, ?_⟩) (by assumption) ?_
      rotate_left
      · intro w hw
        rw [hSS] at hw
        obtain ⟨q1, q2⟩ := hw
        go_simp
        try (with_reducible rfl)
      change wpAnyH _ _ _ _ _ _ _ (Act.put _ (some 22) _) _
      simp only [Act.put, List.setIfInBounds_toArray, List.set_cons_zero, List.set_cons_succ]
      refine wpAnyH_ready (rs := [2]) (by kernel_rfl) (by simp) ?_
      refine AllReadyH.cons rfl (fun K hK => ?_) AllReadyH.nil
      go_simp
      refine (between_any 16 16 1 _).mono ?_
      rintro e wa ⟨rfl, hba, hbc, hbm, hsa⟩
      refine Shut.out hK _ _ ?_ (fun hHeld => ?_)
      · rw [hSS]
        have hrw := (HRW.out.keep (Fr.drew (Fr.refl _ w2)) (fresh_refl _ F)).keep (hsa.fr F) (fresh_refl _ F)
        exact ⟨hrw.cc, hrw.cr⟩
      clear hK K
      refine wpAnyH_ready (rs := [3]) (by kernel_rfl) (by simp) ?_
      refine AllReadyH.cons rfl (fun K hK => ?_) AllReadyH.nil
      go_simp
      have hro := HRW.out.keep (Fr.drew (Fr.refl _ w2)) (fresh_refl _ F)
      have hrw := hro.keep (hsa.fr F) (fresh_refl _ F)
      have hcu := (H.out.1.same (Fr.drew (Same.refl w2))).same hsa
      refine (octs_any b va L lim k1 F _ 16 16 1 (by omega) (by omega) wa hcu H.out.2.1 (may_of H.out.1.lt hba hbc hbm)).mono ?_
      intro e wb hT
      rw [← HR.out.2] at hT
      obtain ⟨s, t, rfl, hfb, hmid⟩ := mid_of (i := 7) (set := (fun s => { r with size := 16 + 8 * (i : Int), iv := s })) (fun s => by simp [cRec]) hT hrw H.out.2.2.1
      refine Shut.out hK _ _ ?_ (fun hHeld => ?_)
      · rw [hSS]
        have hrx := hrw.keep hfb (fresh_refl _ F)
        exact ⟨hrx.cc, hrx.cr⟩
      clear hK K
      refine wpAnyH_take (i := 4) (v := ?_) rfl (by kernel_rfl) (by kernel_rfl) (by kernel_rfl) (fun _ _ _ h => h) (Or.inl ⟨by rfl, ?_⟩) (by assumption) ?_
      rotate_left
      · intro w hw
        rw [hSS] at hw
        obtain ⟨q1, q2⟩ := hw
        go_simp
        try (with_reducible rfl)
      change wpAnyH _ _ _ _ _ _ _ (Act.put _ (some 20) _) _
      simp only [Act.put, List.setIfInBounds_toArray, List.set_cons_zero, List.set_cons_succ]
      refine wpAnyH_take (i := 5) (v := ?_) rfl (by kernel_rfl) (by kernel_rfl) (by kernel_rfl) (fun _ _ _ h => h) (Or.inl ⟨by rfl, ?_⟩) (by assumption) ?_
      rotate_left
      · intro w hw
        rw [hSS] at hw
        obtain ⟨q1, q2⟩ := hw
        go_simp
        try (with_reducible rfl)
      change wpAnyH _ _ _ _ _ _ _ (Act.put _ (some 25) _) _
      simp only [Act.put, List.setIfInBounds_toArray, List.set_cons_zero, List.set_cons_succ]
      refine wpAnyH_take (i := 6) (v := ?_) rfl (by kernel_rfl) (by kernel_rfl) (by kernel_rfl) (fun _ _ _ h => h) (Or.inl ⟨by rfl, ?_⟩) (by assumption) ?_
      rotate_left
      · intro w hw
        rw [hSS] at hw
        obtain ⟨q1, q2⟩ := hw
        go_simp
        try (with_reducible rfl)
      change wpAnyH _ _ _ _ _ _ _ (Act.put _ (some 26) _) _
      simp only [Act.put, List.setIfInBounds_toArray, List.set_cons_zero, List.set_cons_succ]
      refine wpAnyH_take (i := 7) (v := ?_) rfl (by kernel_rfl) (by kernel_rfl) (by kernel_rfl) (fun _ _ _ h => h) (Or.inl ⟨by rfl, ?_⟩) (by assumption) ?_
      rotate_left
      · intro w hw
        rw [hSS] at hw
        obtain ⟨q1, q2⟩ := hw
        go_simp
        try (with_reducible rfl)
      change wpAnyH _ _ _ _ _ _ _ (Act.put _ (some 27) _) _
      simp only [Act.put, List.setIfInBounds_toArray, List.set_cons_zero, List.set_cons_succ]
      refine wpAnyH_take (i := 8) (v := ?_) rfl (by kernel_rfl) (by kernel_rfl) (by kernel_rfl) (fun _ _ _ h => h) (Or.inl ⟨by rfl, ?_⟩) (by assumption) ?_
      rotate_left
      · intro w hw
        rw [hSS] at hw
        obtain ⟨q1, q2⟩ := hw
        go_simp
        try (with_reducible rfl)
      change wpAnyH _ _ _ _ _ _ _ (Act.put _ (some 28) _) _
      simp only [Act.put, List.setIfInBounds_toArray, List.set_cons_zero, List.set_cons_succ]
      have fb := (hrw.keep hfb (fresh_refl _ F)).rb.free 7
      have k0 := (hrw.keep hfb (fresh_refl _ F)).rb.cell 7 rfl
      refine wpAnyH_ready (rs := [9]) (by kernel_rfl) (by simp) ?_
      refine AllReadyH.cons rfl (fun K hK => ?_) AllReadyH.nil
      go_simp
      refine Shut.out hK _ _ ?_ (fun hHeld => ?_)
      · rw [hSS]
        have hrx := (hrw.keep hfb (fresh_refl _ F)).set (r' := (fun s => { r with size := 16 + 8 * (i : Int), iv := s }) s) 7 (S s) (by simp [cRec])
        exact ⟨hrx.cc, hrx.cr⟩
      clear hK K
      refine wpAnyH_take (i := 10) (v := ?_) rfl (by kernel_rfl) (by kernel_rfl) (by kernel_rfl) (fun _ _ _ h => h) (Or.inl ⟨by rfl, ?_⟩) (by assumption) ?_
      rotate_left
      · intro w hw
        rw [hSS] at hw
        obtain ⟨q1, q2⟩ := hw
        go_simp
        try (with_reducible rfl)
      change wpAnyH _ _ _ _ _ _ _ (Act.put _ (some 4) _) _
      simp only [Act.put, List.setIfInBounds_toArray, List.set_cons_zero, List.set_cons_succ]
      refine wpAnyH_done (by kernel_rfl) ?_ _
      go_wp2_with fail
      go_meet
      exact hmid.base (Same.trans (Fr.drew (Fr.refl _ w2)) hsa)
    case rest =>
      clear c1 c2
      cases R1 with
      | error n =>
        have HI := Px.hid (HR.out.1.trans (bnd_err HR.out.2.symm))
        obtain ⟨⟨fb, rfl, hb⟩, hs⟩ := hcut
        have HE2 := Px.hid (And.intro hb (HE.out.trans hs fun _ _ x => x))
        clear hb hs HR
        go_wp2
        go_ret
        rw [HI.out]
        exact ⟨⟨_, rfl, fb, rfl, HE2.out.1⟩, HE2.out.2⟩
      | ok q =>
        obtain ⟨s, k2⟩ := q
        have HI := Px.hid (HR.out.1.trans (bnd_ok HR.out.2.symm))
        obtain ⟨rfl, hc, hw, hs⟩ := hcut
        have HE2 := Px.hid (And.intro hc (And.intro hw (HE.out.trans hs fun _ _ x => x)))
        clear hc hw hs HR
        go_wp2
        go_ret
        rw [HI.out]
        exact ⟨rfl, ⟨F, HE2.out.1, HG.out, HE2.out.2.1⟩, HE2.out.2.2⟩
end Go.Proofs.YtpfhollohodcjaaGreatDoor

/-! The walks over two closures of password (layer 23). -/
namespace Go.Proofs.YtpfhollohodcjaaGreatDoor
open Go.RowKit Go.Px Go.Px.Co Go.Px.Cm
theorem RecW.back {w w' : World} {F F' : Nat → Prop} {pc pr b br : Nat} {r x : Co.Rec} (h : RecW w F pc pr b br r) (hf : Fr (fun q => F q ∨ q = br) w w') (hs : Fresh w F F') (hp : RecP br x F' w') : RecW w' F' pc pr b br x := by
  have l1 := World.block_lt_of_cell? _ _ h.cc
  have l2 := World.block_lt_of_cell? _ _ h.cr
  refine ⟨(hf.cell (p := ⟨pc, 0, none⟩) l1 (by rintro (e | e); exact h.nc e; exact h.ec e)).trans h.cc, (hf.cell (p := ⟨pr, 0, none⟩) l2 (by rintro (e | e); exact h.nr e; exact h.er e)).trans h.cr, hp.2, fun x => ?_, fun x => ?_, hp.1, h.ec, h.er⟩
  · rcases hs _ x with y | y
    · exact h.nc y
    · exact absurd l1 (by simp only at l1 ⊢; omega)
  · rcases hs _ x with y | y
    · exact h.nr y
    · exact absurd l2 (by simp only at l2 ⊢; omega)
set_option maxRecDepth 100000 in
set_option maxHeartbeats 8000000 in
theorem pass1_any (pc pr b br : Nat) (va : Value) (L : List Px.Node) (lim : Lim) (k : Cu) (F : Nat → Prop) (r : Co.Rec) (w : World) (h : CuAt w b va L lim k F) (hf : Fits L k) (hd : k.left.length ≤ 97) (hr : ∀ a ∈ L, E5.right a = true) (hl : 0 ≤ lim.r ∧ lim.r ≤ 4096) (hw : RecW w F pc pr b br r) (hv : ∀ q, va.ownBlock = some q → q ≠ br) :
    Calls Tryz.prog 140 #[.pointer (some ⟨pc, 0, none⟩), .pointer (some ⟨pr, 0, none⟩)] w (RunsE w b va L lim F (fun q => q = br) (fun d F' w' => RecW w' F' pc pr b br { r with salt := d.1, rounds := (d.2.1 : Nat), kind := 256 + 128 * (d.2.2 : Nat) }) (derived L lim k)) := by
  have HD := Px.hid (derived_any b br va L lim k F r w h hf hd hr hl ⟨hw.nb, hw.rb⟩ hv)
  obtain ⟨R, hR⟩ : ∃ R, R = derived L lim k := ⟨_, rfl⟩
  rw [← hR] at HD ⊢
  have HW := Px.hid hw
  have c1 := hw.cc
  have c2 := hw.cr
  clear hR h hf hd hr hl hw hv
  go_enter Tryz.func140, Tryz.ntmps140
  go_wp2_with fail
  refine HD.out.mono ?_
  intro e w1 hT
  cases R with
  | error n =>
    obtain ⟨⟨v, rfl, fb, rfl, hb⟩, hs⟩ := hT
    have HE := Px.hid (And.intro hb hs)
    clear hb hs HD
    go_wp2
    go_ret
    exact ⟨⟨_, rfl, fb, rfl, HE.out.1⟩, HE.out.2⟩
  | ok q =>
    obtain ⟨d, k1⟩ := q
    obtain ⟨rfl, ⟨F1, hcu, hfs, hp⟩, hfr⟩ := hT
    have HE := Px.hid (And.intro hcu (And.intro hfs (And.intro (HW.out.back hfr hfs hp) hfr)))
    clear hcu hfs hp hfr HD
    go_wp2
    go_ret
    exact ⟨rfl, ⟨F1, HE.out.1, HE.out.2.1, HE.out.2.2.1⟩, HE.out.2.2.2⟩
set_option maxRecDepth 100000 in
set_option maxHeartbeats 8000000 in
theorem pass2_any (pc pr b br : Nat) (va : Value) (L : List Px.Node) (lim : Lim) (k : Cu) (F : Nat → Prop) (r : Co.Rec) (w : World) (h : CuAt w b va L lim k F) (hf : Fits L k) (hd : k.left.length ≤ 98) (hr : ∀ a ∈ L, E5.right a = true) (hw : RecW w F pc pr b br r) (hv : ∀ q, va.ownBlock = some q → q ≠ br) :
    Calls Tryz.prog 142 #[.pointer (some ⟨pc, 0, none⟩), .pointer (some ⟨pr, 0, none⟩)] w (RunsE w b va L lim F (fun q => q = br) (fun d F' w' => RecW w' F' pc pr b br { r with size := 16 + 8 * (d.1 : Nat), iv := d.2 }) (lockP L k)) := by
  obtain ⟨R, hR⟩ : ∃ R, R = lockP L k := ⟨_, rfl⟩
  rw [← hR]
  have HR := Px.hid hR
  have H := Px.hid (And.intro h (And.intro hf (And.intro hd (And.intro hr hv))))
  have HRW := Px.hid hw
  have c1 := hw.cc
  clear hR h hf hw hv hr hd
  go_enter Tryz.func142, Tryz.ntmps142
  go_wp2_with fail
  have hal : Same w (w.alloc (.cells ([lockT].map S).toArray 9)) := Fr.alloc (Fr.refl _ w) _
  refine (kind_any b va L lim k F (.slice (some ⟨w.heap.size, 0, none⟩) 1 1) [lockT] (by decide) (w.alloc (.cells ([lockT].map S).toArray 9)) (H.out.1.same hal) H.out.2.1 (lies_new (blk_new w _ _) (by decide)) (fun q hq hF => by simp only [Value.ownBlock, Option.some.injEq] at hq; have := H.out.1.lt q hF; omega)).mono ?_
  intro e w1 hT
  cases hk : kind L [lockT] k with
  | error n =>
    rw [hk] at hT
    have HI := Px.hid (HR.out.trans (bnd_err hk))
    obtain ⟨⟨v, rfl, fb2, rfl, hfb⟩, hs⟩ := hT
    have HE := Px.hid (And.intro hfb ((hal.fr F).trans hs fun _ _ x => x))
    clear hal hs hfb c1 hk
    go_wp2
    go_ret
    rw [HI.out]
    exact ⟨⟨_, rfl, fb2, rfl, HE.out.1⟩, Fr.mono HE.out.2 fun _ x => .inl x⟩
  | ok q =>
    obtain ⟨u, k1⟩ := q
    rw [hk] at hT
    obtain ⟨rfl, hcu, hfr⟩ := hT
    have hR1 : R = inn L 48 (lockQ L) k1 := HR.out.trans (bnd_ok hk)
    obtain ⟨hf1, hd1⟩ := eats_len (eats_kind H.out.2.2.2.1 [lockT]) hk H.out.2.1
    have hrw := (HRW.out.stable (hal.fr F)).stable hfr
    have hin := in_any b va L lim k1 F (fun q => q = br) 0x30 (by decide) (by decide) 143 #[.pointer (some ⟨pc, 0, none⟩), .pointer (some ⟨pr, 0, none⟩)] (lockQ L) (fun d F' w' => RecW w' F' pc pr b br { r with size := 16 + 8 * (d.1 : Nat), iv := d.2 }) w1 hcu hf1 (by have := H.out.2.2.1; omega) H.out.2.2.2.1 (fun _ => rfl)
      (eats_true ((eats_kind H.out.2.2.2.1 lockTs).bnd fun j => (eats_octs H.out.2.2.2.1 16 16 1).bnd fun iv => eats_ret (j, iv))) (fun v F w w' h hf => h.stable hf)
      (fun w1 F1 k2 h1 h2 _ h4 h5 => lockQ_any pc pr b br va L lim k2 F1 r w1 h1 h2 H.out.2.2.2.1 (hrw.keep h4 h5) H.out.2.2.2.2)
    rw [show ((0x30 : UInt8).toNat) = 48 from rfl] at hin
    have HIN := Px.hid hin
    have HR1 := Px.hid hR1
    have H4 := Px.hid (Fr.mono (G := fun q => F q ∨ q = br) ((hal.fr F).trans hfr fun _ _ x => x) fun _ x => .inl x)
    replace c1 := hrw.cc
    clear hcu hfr hR1 hf1 hd1 hrw hin hk HR hal
    go_wp2_with fail
    refine HIN.out.mono ?_
    intro e w5 hT
    clear c1
    cases hk : inn L 48 (lockQ L) k1 with
    | error n =>
      rw [hk] at hT
      have HI := Px.hid (HR1.out.trans hk)
      obtain ⟨⟨v, rfl, fb, rfl, hb⟩, hs⟩ := hT
      have HE := Px.hid (And.intro hb (H4.out.trans hs fun _ _ x => x))
      clear hb hs hk HIN
      go_wp2
      go_ret
      rw [HI.out]
      exact ⟨⟨_, rfl, fb, rfl, HE.out.1⟩, HE.out.2⟩
    | ok q =>
      obtain ⟨d, k3⟩ := q
      rw [hk] at hT
      have HI := Px.hid (HR1.out.trans hk)
      obtain ⟨rfl, ⟨F1, hcu, hfs, hrw⟩, hfr⟩ := hT
      have HE := Px.hid (And.intro hcu (And.intro hrw (And.intro (H4.out.trans hfr fun _ _ x => x) (fresh_chain H4.out (fresh_refl w F) hfs))))
      clear hcu hfs hrw hfr hk HIN
      go_wp2
      go_ret
      rw [HI.out]
      exact ⟨rfl, ⟨F1, HE.out.1, HE.out.2.2.2, HE.out.2.1⟩, HE.out.2.2.1⟩
end Go.Proofs.YtpfhollohodcjaaGreatDoor
