/-
  Several texts in one: The walk over the innermost closure of derived: the digest (layer 23). The walk over the closure of derived: salt, rounds, digest (layer 23).
-/
import Derived.Test.YtpfhollohodcjaaGreatDoorYB
import Derived.Laws.EntriesVeiled
import Derived.IntWalk
import Derived.BigRegion
/-! The walk over the innermost closure of derived: the digest (layer 23). -/
namespace Go.Proofs.YtpfhollohodcjaaGreatDoor
open Go.RowKit Go.Px Go.Px.Co Go.Px.Cm
set_option maxRecDepth 100000 in
set_option maxHeartbeats 8000000 in
theorem hash_any (pc pr b br : Nat) (va : Value) (L : List Px.Node) (lim : Lim) (k : Cu) (F : Nat → Prop) (r : Co.Rec) (w : World) (h : CuAt w b va L lim k F) (hf : Fits L k) (hr : ∀ a ∈ L, E5.right a = true) (hw : RecW w F pc pr b br r) (hv : ∀ q, va.ownBlock = some q → q ≠ br) :
    Calls Tryz.prog 161 #[.pointer (some ⟨pc, 0, none⟩), .pointer (some ⟨pr, 0, none⟩)] w (RunsE w b va L lim F (fun q => q = br) (fun i F' w' => RecW w' F' pc pr b br { r with kind := 256 + 128 * (i : Nat) }) (hashP L k)) := by
  obtain ⟨R, hR⟩ : ∃ R, R = hashP L k := ⟨_, rfl⟩
  rw [← hR]
  have HR := Px.hid hR
  have H := Px.hid (And.intro h (And.intro hf (And.intro hv hr)))
  have HRW := Px.hid hw
  have c1 := hw.cc
  have HG := Px.hid (fresh_refl w F)
  clear hR h hf hw hv hr
  go_enter Tryz.func161, Tryz.ntmps161
  go_wp2_with fail
  have hal : Same w (w.alloc (.cells (hashT.map S).toArray 9)) := Fr.alloc (Fr.refl _ w) _
  refine (kind_any b va L lim k F (.slice (some ⟨w.heap.size, 0, none⟩) 3 3) hashT (by decide) (w.alloc (.cells (hashT.map S).toArray 9)) (H.out.1.same hal) H.out.2.1 (lies_new (blk_new w _ _) (by decide)) (fun q hq hF => by simp only [Value.ownBlock, Option.some.injEq] at hq; have := H.out.1.lt q hF; omega)).mono ?_
  intro e w1 hT
  have hrw := HRW.out.keep (hal.fr F) (fresh_refl _ F)
  cases hk : kind L hashT k with
  | error n =>
    rw [hk] at hT
    have HI := Px.hid (HR.out.trans (bnd_err hk))
    obtain ⟨⟨v, rfl, fb2, rfl, hfb⟩, hs⟩ := hT
    have HE := Px.hid (And.intro hfb ((hal.fr F).trans hs fun _ _ x => x))
    clear hal hrw hs hfb c1 hk
    go_wp2
    go_ret
    rw [HI.out]
    exact ⟨⟨_, rfl, fb2, rfl, HE.out.1⟩, Fr.mono HE.out.2 fun _ x => .inl x⟩
  | ok q =>
    obtain ⟨i, k1⟩ := q
    rw [hk] at hT
    obtain ⟨rfl, hc, hs⟩ := hT
    have hi : i < 3 := kind_lt hk
    have hR1 : R = bnd (Cm.take L 5) (fun _ => ret i) k1 := HR.out.trans (bnd_ok hk)
    have hf1 := (eats_len (eats_kind H.out.2.2.2 hashT) hk H.out.2.1).1
    have hr1 := hrw.keep hs (fresh_refl _ F)
    have c3 := hr1.cr
    have c4 := hr1.cc
    have fb := hr1.rb.free 2
    have k0 := hr1.rb.cell 2 rfl
    have hr2 := hr1.set (r' := { r with kind := 256 + 128 * (i : Int) }) 2 (.int .i64 (256 + 128 * (i : Int))) (by simp [cRec])
    have hc2 : CuAt (w1.setCell ⟨br, 2, none⟩ (.int .i64 (256 + 128 * (i : Int)))) b va L lim k1 F := hc.fr (G := fun q => q = br) (Fr.setCell (F := fun q => q = br) (Fr.refl _ _) (p := ⟨br, 2, none⟩) (.inl rfl) _) (fun q hq e => hr1.nb (by rw [← e]; exact hq)) H.out.2.2.1
    have HT := Px.hid (ctake_any b va L lim k1 F 5 (by decide) _ hc2 hf1)
    have HE := Px.hid (And.intro hr2 (Fr.setCell (F := fun q => F q ∨ q = br) (Fr.mono ((hal.fr F).trans hs fun _ _ x => x) fun _ x => .inl x) (p := ⟨br, 2, none⟩) (.inl (.inr rfl)) (.int .i64 (256 + 128 * (i : Int)))))
    have HR1 := Px.hid hR1
    have hiz : (i : Int) < 3 := by omega
    have hpcb := hr1.ec
    clear hal hrw hs hr1 hc hi hk hR1 hf1 hr2 hc2 c1
    go_wp2_with fail
    refine HT.out.mono ?_
    intro e w3 hT
    cases hk : Cm.take L 5 k1 with
    | error n =>
      rw [hk] at hT
      have HI := Px.hid (HR1.out.trans (bnd_err hk))
      obtain ⟨⟨v, rfl, fb2, rfl, hfb⟩, hs⟩ := hT
      have HE2 := Px.hid (And.intro hfb (HE.out.2.trans (hs.fr _) fun _ _ x => x))
      clear hs hfb hk
      go_wp2
      go_ret
      rw [HI.out]
      exact ⟨⟨_, rfl, fb2, rfl, HE2.out.1⟩, HE2.out.2⟩
    | ok q =>
      obtain ⟨s, k2⟩ := q
      rw [hk] at hT
      have HI := Px.hid (HR1.out.trans (bnd_ok hk))
      obtain ⟨rfl, hc3, hs⟩ := hT
      have HE2 := Px.hid (And.intro hc3 (And.intro (HE.out.1.stable hs) (HE.out.2.trans hs fun _ _ x => .inl x)))
      clear hs hc3 hk
      go_wp2
      go_ret
      rw [HI.out]
      exact ⟨rfl, ⟨F, HE2.out.1, HG.out, HE2.out.2.1⟩, HE2.out.2.2⟩
end Go.Proofs.YtpfhollohodcjaaGreatDoor

/-! The walk over the closure of derived: salt, rounds, digest (layer 23). -/
namespace Go.Proofs.YtpfhollohodcjaaGreatDoor
open Go.RowKit Go.Px Go.Px.Co Go.Px.Cm
def MidN (set : Nat → Co.Rec) (w : World) (b pc pr br : Nat) (va : Value) (L : List Px.Node) (lim : Lim) (F : Nat → Prop) (R : Except Int (Nat × Cu)) (t : Value) (wx : World) : Prop := match R with
  | .ok (s, k1) => t = .nilIface ∧ CuAt wx b va L lim k1 F ∧ RecW wx F pc pr b br (set s) ∧ Fr (fun q => F q ∨ q = br) w wx
  | .error n => ErrV wx t n ∧ Fr (fun q => F q ∨ q = br) w wx
theorem midN_of {set : Nat → Co.Rec} {w w2 : World} {b pc pr br i : Nat} {va : Value} {L : List Px.Node} {lim : Lim} {F : Nat → Prop} {r : Co.Rec} {R : Except Int (Nat × Cu)} {e : Ending}
    (hset : ∀ s : Nat, (cRec r).toArray.setIfInBounds i (.int .i64 (s : Nat)) = (cRec (set s)).toArray) (h : TkP (fun n : Nat => .int .i64 (n : Nat)) (.int .i64 0) w b va L lim F R e w2) (hr : RecW w F pc pr b br r) (hv : ∀ q, va.ownBlock = some q → q ≠ br) :
    ∃ (s : Nat) (t : Value), e = .returned (.tuple #[.int .i64 (s : Nat), t]) ∧ Fr F w w2 ∧ MidN set w b pc pr br va L lim F R t (w2.setCell ⟨br, i, none⟩ (.int .i64 (s : Nat))) := by
  cases R with
  | ok q =>
    obtain ⟨s, k1⟩ := q
    obtain ⟨e1, h1, h2⟩ := h
    refine ⟨s, .nilIface, e1, h2, rfl, ?_, ?_, ?_⟩
    · exact h1.fr (G := fun q => q = br) (Fr.setCell (F := fun q => q = br) (Fr.refl _ w2) (p := ⟨br, i, none⟩) (.inl rfl) _) (fun q hq e => hr.nb (by rw [← e]; exact hq)) hv
    · exact (hr.keep h2 (fresh_refl w F)).set i _ (hset s)
    · exact Fr.setCell (Fr.mono h2 fun _ x => .inl x) (p := ⟨br, i, none⟩) (.inl (.inr rfl)) _
  | error n =>
    obtain ⟨⟨v, e1, h1⟩, h2⟩ := h
    refine ⟨0, v, e1, h2, ?_, ?_⟩
    · exact h1.set (hr.rb.fr h2 hr.nb)
    · exact Fr.setCell (Fr.mono h2 fun _ x => .inl x) (p := ⟨br, i, none⟩) (.inl (.inr rfl)) _
theorem MidN.base {set : Nat → Co.Rec} {w w0 wx : World} {b pc pr br : Nat} {va : Value} {L : List Px.Node} {lim : Lim} {F : Nat → Prop} {R : Except Int (Nat × Cu)} {t : Value} (h : MidN set w0 b pc pr br va L lim F R t wx) (hs : Same w w0) : MidN set w b pc pr br va L lim F R t wx := by
  cases R with
  | ok q =>
    obtain ⟨h1, h2, h3, h4⟩ := h
    exact ⟨h1, h2, h3, (hs.fr _).trans h4 fun _ _ x => x⟩
  | error n =>
    obtain ⟨h1, h2⟩ := h
    exact ⟨h1, (hs.fr _).trans h2 fun _ _ x => x⟩
def dv3 (L : List Px.Node) (salt : Bytes) (n : Nat) : P (Bytes × Nat × Nat) := bnd (inn L 48 (hashP L)) fun i => ret (salt, n, i)
def dv2 (L : List Px.Node) (salt : Bytes) (n : Nat) : P (Bytes × Nat × Nat) := bar (fun c => peek L c == 0 || peek L c == 2) 11 (dv3 L salt n)
def dv1 (L : List Px.Node) (lim : Lim) (salt : Bytes) : P (Bytes × Nat × Nat) := bnd (rounds L lim) fun n => dv2 L salt n
set_option maxRecDepth 100000 in
set_option maxHeartbeats 8000000 in
theorem deriv1_any (pc pr b br : Nat) (va : Value) (L : List Px.Node) (lim : Lim) (k : Cu) (F : Nat → Prop) (r : Co.Rec) (w : World) (h : CuAt w b va L lim k F) (hf : Fits L k) (hd : k.left.length ≤ 98) (hr : ∀ a ∈ L, E5.right a = true) (hl : 0 ≤ lim.r ∧ lim.r ≤ 4096) (hw : RecW w F pc pr b br r) (hv : ∀ q, va.ownBlock = some q → q ≠ br) :
    Calls Tryz.prog 159 #[.pointer (some ⟨pc, 0, none⟩), .pointer (some ⟨pr, 0, none⟩)] w (RunsE w b va L lim F (fun q => q = br) (fun d F' w' => RecW w' F' pc pr b br { r with salt := d.1, rounds := (d.2.1 : Nat), kind := 256 + 128 * (d.2.2 : Nat) }) (derivP L lim k)) := by
  obtain ⟨R, hR⟩ : ∃ R, R = derivP L lim k := ⟨_, rfl⟩
  obtain ⟨R1, hR1⟩ : ∃ R1, R1 = octs L 8 1000 1 k := ⟨_, rfl⟩
  rw [← hR]
  have HR := Px.hid (And.intro hR hR1)
  have H := Px.hid (And.intro h (And.intro hf (And.intro hv True.intro)))
  have HH := Px.hid (And.intro hd (And.intro hf (And.intro hr hl)))
  have HRW := Px.hid hw
  have c1 := hw.cc
  have c2 := hw.cr
  clear hR hR1 h hf hw hv hr hl hd
  go_enter Tryz.func159, Tryz.ntmps159
  go_upto_region 1 with fail
  go_cut [2] (fun t2 wx => MidB (fun s => { r with salt := s }) w b pc pr br va L lim F R1 t2 wx)
  case first =>
    obtain ⟨SS, hSS⟩ : ∃ SS : World → Prop, SS = (fun W : World => W.cell? ⟨pc, 0, none⟩ = some (.pointer (some ⟨b, 0, none⟩)) ∧ W.cell? ⟨pr, 0, none⟩ = some (.pointer (some ⟨br, 0, none⟩))) := ⟨_, rfl⟩
    have hS0 : SS w.drew := by rw [hSS]; exact ⟨c1, c2⟩
    refine wp_region_held_drew (S := SS) (by kernel_rfl) hS0 (fun hHeld => ?_)
    refine wpAnyH_take (i := 0) (v := ?_) rfl (by kernel_rfl) (by kernel_rfl) (by kernel_rfl) (fun _ _ _ h => h) (Or.inl ⟨by rfl, ?_⟩) (by assumption) ?_
    rotate_left
    · intro w hw
      rw [hSS] at hw
      obtain ⟨q1, q2⟩ := hw
      go_simp
      try (with_reducible rfl)
    change wpAnyH _ _ _ _ _ _ _ (Act.put _ (some 4) _) _
    simp only [Act.put, List.setIfInBounds_toArray, List.set_cons_zero, List.set_cons_succ]
    refine wpAnyH_take (i := 1) (v := ?_) rfl (by kernel_rfl) (by kernel_rfl) (by kernel_rfl) (fun _ _ _ h => h) (Or.inl ⟨by rfl, ?_⟩) (by assumption) ?_
    rotate_left
    · intro w hw
      rw [hSS] at hw
      obtain ⟨q1, q2⟩ := hw
      go_simp
      try (with_reducible rfl)
    change wpAnyH _ _ _ _ _ _ _ (Act.put _ (some 5) _) _
    simp only [Act.put, List.setIfInBounds_toArray, List.set_cons_zero, List.set_cons_succ]
    refine wpAnyH_ready (rs := [2]) (by kernel_rfl) (by simp) ?_
    refine AllReadyH.cons rfl (fun K hK => ?_) AllReadyH.nil
    go_simp
    refine (between_any 8 1000 1 _).mono ?_
    rintro e wa ⟨rfl, hba, hbc, hbm, hsa⟩
    refine Shut.out hK _ _ ?_ (fun hHeld => ?_)
    · rw [hSS]
      have hrw := (HRW.out.keep (Fr.drew (Fr.refl _ w)) (fresh_refl _ F)).keep (hsa.fr F) (fresh_refl _ F)
      exact ⟨hrw.cc, hrw.cr⟩
    clear hK K
    refine wpAnyH_ready (rs := [3]) (by kernel_rfl) (by simp) ?_
    refine AllReadyH.cons rfl (fun K hK => ?_) AllReadyH.nil
    go_simp
    have hro := HRW.out.keep (Fr.drew (Fr.refl _ w)) (fresh_refl _ F)
    have hrw := hro.keep (hsa.fr F) (fresh_refl _ F)
    have hcu := (H.out.1.same (Fr.drew (Same.refl w))).same hsa
    refine (octs_any b va L lim k F _ 8 1000 1 (by omega) (by omega) wa hcu H.out.2.1 (may_of H.out.1.lt hba hbc hbm)).mono ?_
    intro e wb hT
    rw [← HR.out.2] at hT
    obtain ⟨s, t, rfl, hfb, hmid⟩ := mid_of (i := 5) (set := (fun s => { r with salt := s })) (fun s => by simp [cRec]) hT hrw H.out.2.2.1
    refine Shut.out hK _ _ ?_ (fun hHeld => ?_)
    · rw [hSS]
      have hrx := hrw.keep hfb (fresh_refl _ F)
      exact ⟨hrx.cc, hrx.cr⟩
    clear hK K
    refine wpAnyH_take (i := 4) (v := ?_) rfl (by kernel_rfl) (by kernel_rfl) (by kernel_rfl) (fun _ _ _ h => h) (Or.inl ⟨by rfl, ?_⟩) (by assumption) ?_
    rotate_left
    · intro w hw
      rw [hSS] at hw
      obtain ⟨q1, q2⟩ := hw
      go_simp
      try (with_reducible rfl)
    change wpAnyH _ _ _ _ _ _ _ (Act.put _ (some 3) _) _
    simp only [Act.put, List.setIfInBounds_toArray, List.set_cons_zero, List.set_cons_succ]
    refine wpAnyH_take (i := 5) (v := ?_) rfl (by kernel_rfl) (by kernel_rfl) (by kernel_rfl) (fun _ _ _ h => h) (Or.inl ⟨by rfl, ?_⟩) (by assumption) ?_
    rotate_left
    · intro w hw
      rw [hSS] at hw
      obtain ⟨q1, q2⟩ := hw
      go_simp
      try (with_reducible rfl)
    change wpAnyH _ _ _ _ _ _ _ (Act.put _ (some 8) _) _
    simp only [Act.put, List.setIfInBounds_toArray, List.set_cons_zero, List.set_cons_succ]
    refine wpAnyH_take (i := 6) (v := ?_) rfl (by kernel_rfl) (by kernel_rfl) (by kernel_rfl) (fun _ _ _ h => h) (Or.inl ⟨by rfl, ?_⟩) (by assumption) ?_
    rotate_left
    · intro w hw
      rw [hSS] at hw
      obtain ⟨q1, q2⟩ := hw
      go_simp
      try (with_reducible rfl)
    change wpAnyH _ _ _ _ _ _ _ (Act.put _ (some 9) _) _
    simp only [Act.put, List.setIfInBounds_toArray, List.set_cons_zero, List.set_cons_succ]
    refine wpAnyH_take (i := 7) (v := ?_) rfl (by kernel_rfl) (by kernel_rfl) (by kernel_rfl) (fun _ _ _ h => h) (Or.inl ⟨by rfl, ?_⟩) (by assumption) ?_
    rotate_left
    · intro w hw
      rw [hSS] at hw
      obtain ⟨q1, q2⟩ := hw
      go_simp
      try (with_reducible rfl)
    change wpAnyH _ _ _ _ _ _ _ (Act.put _ (some 10) _) _
    simp only [Act.put, List.setIfInBounds_toArray, List.set_cons_zero, List.set_cons_succ]
    refine wpAnyH_take (i := 8) (v := ?_) rfl (by kernel_rfl) (by kernel_rfl) (by kernel_rfl) (fun _ _ _ h => h) (Or.inl ⟨by rfl, ?_⟩) (by assumption) ?_
    rotate_left
    · intro w hw
      rw [hSS] at hw
      obtain ⟨q1, q2⟩ := hw
      go_simp
      try (with_reducible rfl)
    change wpAnyH _ _ _ _ _ _ _ (Act.put _ (some 11) _) _
    simp only [Act.put, List.setIfInBounds_toArray, List.set_cons_zero, List.set_cons_succ]
    have fb := (hrw.keep hfb (fresh_refl _ F)).rb.free 5
    have k0 := (hrw.keep hfb (fresh_refl _ F)).rb.cell 5 rfl
    refine wpAnyH_ready (rs := [9]) (by kernel_rfl) (by simp) ?_
    refine AllReadyH.cons rfl (fun K hK => ?_) AllReadyH.nil
    go_simp
    refine Shut.out hK _ _ ?_ (fun hHeld => ?_)
    · rw [hSS]
      have hrx := (hrw.keep hfb (fresh_refl _ F)).set (r' := (fun s => { r with salt := s }) s) 5 (S s) (by simp [cRec])
      exact ⟨hrx.cc, hrx.cr⟩
    clear hK K
    refine wpAnyH_take (i := 10) (v := ?_) rfl (by kernel_rfl) (by kernel_rfl) (by kernel_rfl) (fun _ _ _ h => h) (Or.inl ⟨by rfl, ?_⟩) (by assumption) ?_
    rotate_left
    · intro w hw
      rw [hSS] at hw
      obtain ⟨q1, q2⟩ := hw
      go_simp
      try (with_reducible rfl)
    change wpAnyH _ _ _ _ _ _ _ (Act.put _ (some 2) _) _
    simp only [Act.put, List.setIfInBounds_toArray, List.set_cons_zero, List.set_cons_succ]
    refine wpAnyH_done (by kernel_rfl) ?_ _
    go_wp2_with fail
    go_meet
    exact hmid.base (Same.trans (Fr.drew (Fr.refl _ w)) hsa)
  case rest =>
    clear c1 c2
    cases R1 with
    | error n =>
      have HI := Px.hid (HR.out.1.trans (bnd_err HR.out.2.symm))
      obtain ⟨⟨fb, rfl, hb⟩, hs⟩ := hcut
      have HE := Px.hid (And.intro hb hs)
      clear hb hs HR
      go_wp2
      go_ret
      rw [HI.out]
      exact ⟨⟨_, rfl, fb, rfl, HE.out.1⟩, HE.out.2⟩
    | ok q =>
      obtain ⟨salt, k1⟩ := q
      have hRx : R = dv1 L lim salt k1 := HR.out.1.trans (bnd_ok HR.out.2.symm)
      obtain ⟨rfl, hc, hw, hs⟩ := hcut
      have hel := eats_len (eats_octs HH.out.2.2.1 8 1000 1) HR.out.2.symm H.out.2.1
      obtain ⟨R2, hR2⟩ : ∃ R2, R2 = rounds L lim k1 := ⟨_, rfl⟩
      have hvv := H.out.2.2.1
      replace HR := Px.hid (And.intro hRx hR2)
      replace HH := Px.hid (And.intro (show k1.left.length ≤ 98 by rw [hel.2]; exact HH.out.1) (And.intro hel.1 HH.out.2.2))
      replace H := Px.hid (And.intro hc (And.intro hel.1 (And.intro hvv True.intro)))
      replace HRW := Px.hid hw
      have HS := Px.hid hs
      have c1 := hw.cc
      have c2 := hw.cr
      clear hc hw hs hel hRx hR2 hvv
      go_upto_region 4 with fail
      go_cut [2] (fun t2 wx => MidN (fun n : Nat => { r with salt := salt, rounds := n }) wc b pc pr br va L lim F R2 t2 wx)
      case first =>
        obtain ⟨SS, hSS⟩ : ∃ SS : World → Prop, SS = (fun W : World => W.cell? ⟨pc, 0, none⟩ = some (.pointer (some ⟨b, 0, none⟩)) ∧ W.cell? ⟨pr, 0, none⟩ = some (.pointer (some ⟨br, 0, none⟩))) := ⟨_, rfl⟩
        have hS0 : SS wc.drew := by rw [hSS]; exact ⟨c1, c2⟩
        refine wp_region_held_drew (S := SS) (by kernel_rfl) hS0 (fun hHeld => ?_)
        refine wpAnyH_take (i := 0) (v := ?_) rfl (by kernel_rfl) (by kernel_rfl) (by kernel_rfl) (fun _ _ _ h => h) (Or.inl ⟨by rfl, ?_⟩) (by assumption) ?_
        rotate_left
        · intro w hw
          rw [hSS] at hw
          obtain ⟨q1, q2⟩ := hw
          go_simp
          try (with_reducible rfl)
        change wpAnyH _ _ _ _ _ _ _ (Act.put _ (some 16) _) _
        simp only [Act.put, List.setIfInBounds_toArray, List.set_cons_zero, List.set_cons_succ]
        refine wpAnyH_take (i := 1) (v := ?_) rfl (by kernel_rfl) (by kernel_rfl) (by kernel_rfl) (fun _ _ _ h => h) (Or.inl ⟨by rfl, ?_⟩) (by assumption) ?_
        rotate_left
        · intro w hw
          rw [hSS] at hw
          obtain ⟨q1, q2⟩ := hw
          go_simp
          try (with_reducible rfl)
        change wpAnyH _ _ _ _ _ _ _ (Act.put _ (some 17) _) _
        simp only [Act.put, List.setIfInBounds_toArray, List.set_cons_zero, List.set_cons_succ]
        refine wpAnyH_ready (rs := [2]) (by kernel_rfl) (by simp) ?_
        refine AllReadyH.cons rfl (fun K hK => ?_) AllReadyH.nil
        go_simp
        have hrw := HRW.out.keep (Fr.drew (Fr.refl _ wc)) (fresh_refl _ F)
        refine (rounds_any b va L lim k1 F _ (H.out.1.same (Fr.drew (Same.refl wc))) H.out.2.1 HH.out.2.2.1 HH.out.2.2.2).mono ?_
        intro e wb hT
        rw [← HR.out.2] at hT
        obtain ⟨s, t, rfl, hfb, hmid⟩ := midN_of (i := 6) (set := (fun n : Nat => { r with salt := salt, rounds := n })) (fun s => by simp [cRec]) hT hrw H.out.2.2.1
        refine Shut.out hK _ _ ?_ (fun hHeld => ?_)
        · rw [hSS]
          have hrx := hrw.keep hfb (fresh_refl _ F)
          exact ⟨hrx.cc, hrx.cr⟩
        clear hK K
        refine wpAnyH_take (i := 3) (v := ?_) rfl (by kernel_rfl) (by kernel_rfl) (by kernel_rfl) (fun _ _ _ h => h) (Or.inl ⟨by rfl, ?_⟩) (by assumption) ?_
        rotate_left
        · intro w hw
          rw [hSS] at hw
          obtain ⟨q1, q2⟩ := hw
          go_simp
          try (with_reducible rfl)
        change wpAnyH _ _ _ _ _ _ _ (Act.put _ (some 15) _) _
        simp only [Act.put, List.setIfInBounds_toArray, List.set_cons_zero, List.set_cons_succ]
        refine wpAnyH_take (i := 4) (v := ?_) rfl (by kernel_rfl) (by kernel_rfl) (by kernel_rfl) (fun _ _ _ h => h) (Or.inl ⟨by rfl, ?_⟩) (by assumption) ?_
        rotate_left
        · intro w hw
          rw [hSS] at hw
          obtain ⟨q1, q2⟩ := hw
          go_simp
          try (with_reducible rfl)
        change wpAnyH _ _ _ _ _ _ _ (Act.put _ (some 19) _) _
        simp only [Act.put, List.setIfInBounds_toArray, List.set_cons_zero, List.set_cons_succ]
        refine wpAnyH_take (i := 5) (v := ?_) rfl (by kernel_rfl) (by kernel_rfl) (by kernel_rfl) (fun _ _ _ h => h) (Or.inl ⟨by rfl, ?_⟩) (by assumption) ?_
        rotate_left
        · intro w hw
          rw [hSS] at hw
          obtain ⟨q1, q2⟩ := hw
          go_simp
          try (with_reducible rfl)
        change wpAnyH _ _ _ _ _ _ _ (Act.put _ (some 20) _) _
        simp only [Act.put, List.setIfInBounds_toArray, List.set_cons_zero, List.set_cons_succ]
        refine wpAnyH_take (i := 6) (v := ?_) rfl (by kernel_rfl) (by kernel_rfl) (by kernel_rfl) (fun _ _ _ h => h) (Or.inl ⟨by rfl, ?_⟩) (by assumption) ?_
        rotate_left
        · intro w hw
          rw [hSS] at hw
          obtain ⟨q1, q2⟩ := hw
          go_simp
          try (with_reducible rfl)
        change wpAnyH _ _ _ _ _ _ _ (Act.put _ (some 21) _) _
        simp only [Act.put, List.setIfInBounds_toArray, List.set_cons_zero, List.set_cons_succ]
        refine wpAnyH_take (i := 7) (v := ?_) rfl (by kernel_rfl) (by kernel_rfl) (by kernel_rfl) (fun _ _ _ h => h) (Or.inl ⟨by rfl, ?_⟩) (by assumption) ?_
        rotate_left
        · intro w hw
          rw [hSS] at hw
          obtain ⟨q1, q2⟩ := hw
          go_simp
          try (with_reducible rfl)
        change wpAnyH _ _ _ _ _ _ _ (Act.put _ (some 22) _) _
        simp only [Act.put, List.setIfInBounds_toArray, List.set_cons_zero, List.set_cons_succ]
        have fb := (hrw.keep hfb (fresh_refl _ F)).rb.free 6
        have k0 := (hrw.keep hfb (fresh_refl _ F)).rb.cell 6 rfl
        refine wpAnyH_ready (rs := [8]) (by kernel_rfl) (by simp) ?_
        refine AllReadyH.cons rfl (fun K hK => ?_) AllReadyH.nil
        go_simp
        refine Shut.out hK _ _ ?_ (fun hHeld => ?_)
        · rw [hSS]
          have hrx := (hrw.keep hfb (fresh_refl _ F)).set (r' := (fun n : Nat => { r with salt := salt, rounds := n }) s) 6 (.int .i64 (s : Nat)) (by simp [cRec])
          exact ⟨hrx.cc, hrx.cr⟩
        clear hK K
        refine wpAnyH_take (i := 9) (v := ?_) rfl (by kernel_rfl) (by kernel_rfl) (by kernel_rfl) (fun _ _ _ h => h) (Or.inl ⟨by rfl, ?_⟩) (by assumption) ?_
        rotate_left
        · intro w hw
          rw [hSS] at hw
          obtain ⟨q1, q2⟩ := hw
          go_simp
          try (with_reducible rfl)
        change wpAnyH _ _ _ _ _ _ _ (Act.put _ (some 2) _) _
        simp only [Act.put, List.setIfInBounds_toArray, List.set_cons_zero, List.set_cons_succ]
        refine wpAnyH_done (by kernel_rfl) ?_ _
        go_wp2_with fail
        go_meet
        exact hmid.base (Fr.drew (Same.refl wc))
      case rest =>
        clear c1 c2
        cases R2 with
        | error n =>
          have HI := Px.hid (HR.out.1.trans (bnd_err HR.out.2.symm))
          obtain ⟨⟨fb, rfl, hb⟩, hs⟩ := hcut
          have HE := Px.hid (And.intro hb (HS.out.trans hs fun _ _ x => x))
          clear hb hs HR
          go_wp2
          go_ret
          rw [HI.out]
          exact ⟨⟨_, rfl, fb, rfl, HE.out.1⟩, HE.out.2⟩
        | ok q =>
          obtain ⟨n, k2⟩ := q
          have hRx : R = dv2 L salt n k2 := HR.out.1.trans (bnd_ok HR.out.2.symm)
          obtain ⟨rfl, hc, hw, hs⟩ := hcut
          have hel := eats_len (eats_rounds HH.out.2.2.1 HH.out.2.2.2.2) HR.out.2.symm H.out.2.1
          have HX := Px.hid (And.intro hc (And.intro hw (And.intro (HS.out.trans hs fun _ _ x => x) (And.intro hel.1 (show k2.left.length ≤ 98 by rw [hel.2]; exact HH.out.1)))))
          have HT := Px.hid (ctag_any b va L lim k2 F wc hc hel.1)
          have HR3 := Px.hid hRx
          have c1 := hw.cc
          clear hc hw hs hel hRx HR HS
          go_wp2_with fail
          refine HT.out.mono ?_
          rintro e w3 ⟨rfl, hs3⟩
          have HS3 := Px.hid hs3
          have hw3 := HX.out.2.1.stable (hs3.fr F)
          have c3 := hw3.cc
          have HW3 := Px.hid hw3
          have HT3 := Px.hid (ctag_any b va L lim k2 F w3 (HX.out.1.same hs3) HX.out.2.2.2.1)
          clear hs3 hw3 HT c1
          obtain ⟨pk, hpk⟩ : ∃ pk, pk = peek L k2 := ⟨_, rfl⟩
          have HPK := Px.hid hpk
          rw [← hpk] at HT3 ⊢
          clear hpk
          by_cases hp0 : pk = 0
          · have HI := Px.hid (HR3.out.trans (show dv2 L salt n k2 = .error 11 by
              unfold dv2 bar
              simp [← HPK.out, hp0]))
            subst hp0
            clear HR3 HT3
            go_wp2_with fail
            refine (wrong_any 11 _).mono ?_
            rintro e w4 ⟨v, rfl, he, hs4⟩
            have HE := Px.hid (And.intro he (HX.out.2.2.1.trans ((HS3.out.trans hs4).fr _) fun _ _ x => x))
            clear he hs4
            go_wp2
            go_ret
            rw [HI.out]
            exact ⟨⟨v, rfl, HE.out.1⟩, HE.out.2⟩
          · have hz0 : (((pk : Nat) : Int) == 0) = false := beq_eq_false_iff_ne.2 (by omega)
            by_cases hp2 : pk = 2
            · have HI := Px.hid (HR3.out.trans (show dv2 L salt n k2 = .error 11 by
                unfold dv2 bar
                simp [← HPK.out, hp2]))
              have hz2 : (((pk : Nat) : Int) == 2) = true := by rw [hp2]; rfl
              clear HR3 hp0 hp2
              go_wp2_with fail
              refine HT3.out.mono ?_
              rintro e w5 ⟨rfl, hs5⟩
              have HS5 := Px.hid (HS3.out.trans hs5)
              clear hs5
              go_wp2_with fail
              refine (wrong_any 11 _).mono ?_
              rintro e w4 ⟨v, rfl, he, hs4⟩
              have HE := Px.hid (And.intro he (HX.out.2.2.1.trans ((HS5.out.trans hs4).fr _) fun _ _ x => x))
              clear he hs4
              go_wp2
              go_ret
              rw [HI.out]
              exact ⟨⟨v, rfl, HE.out.1⟩, HE.out.2⟩
            · have HR4 := Px.hid (HR3.out.trans (show dv2 L salt n k2 = dv3 L salt n k2 by
                unfold dv2 bar
                simp [← HPK.out, hp0, hp2]))
              have hz2 : (((pk : Nat) : Int) == 2) = false := beq_eq_false_iff_ne.2 (by omega)
              clear HR3 hp0 hp2
              go_wp2_with fail
              refine HT3.out.mono ?_
              rintro e w5 ⟨rfl, hs5⟩
              have hw5 := HW3.out.stable (hs5.fr F)
              have c5 := hw5.cc
              have hin := in_any b va L lim k2 F (fun q => q = br) 0x30 (by decide) (by decide) 161 #[.pointer (some ⟨pc, 0, none⟩), .pointer (some ⟨pr, 0, none⟩)] (hashP L) (fun i F' w' => RecW w' F' pc pr b br { r with salt := salt, rounds := (n : Nat), kind := 256 + 128 * (i : Nat) }) w5 (HX.out.1.same (HS3.out.trans hs5)) HX.out.2.2.2.1 (by have := HX.out.2.2.2.2; omega) HH.out.2.2.1 (fun _ => rfl) (eats_true (eats_hash HH.out.2.2.1)) (fun v F w w' h hf => h.stable hf)
                (fun w1 F1 k3 h1 h2 _ h4 h5 => hash_any pc pr b br va L lim k3 F1 { r with salt := salt, rounds := (n : Nat) } w1 h1 h2 HH.out.2.2.1 (hw5.keep h4 h5) H.out.2.2.1)
              rw [show ((0x30 : UInt8).toNat) = 48 from rfl] at hin
              have HIN := Px.hid hin
              have HS5 := Px.hid (HX.out.2.2.1.trans ((HS3.out.trans hs5).fr _) fun _ _ x => x)
              clear hs5 hw5 hin c3
              go_wp2_with fail
              refine HIN.out.mono ?_
              intro e w6 hT
              cases hk : inn L 48 (hashP L) k2 with
              | error n =>
                rw [hk] at hT
                have HI := Px.hid (HR4.out.trans (bnd_err hk))
                obtain ⟨⟨v, rfl, fb, rfl, hb⟩, hs⟩ := hT
                have HE := Px.hid (And.intro hb (HS5.out.trans hs fun _ _ x => x))
                clear hb hs hk HIN
                go_wp2
                go_ret
                rw [HI.out]
                exact ⟨⟨_, rfl, fb, rfl, HE.out.1⟩, HE.out.2⟩
              | ok q =>
                obtain ⟨i, k3⟩ := q
                rw [hk] at hT
                have HI := Px.hid (HR4.out.trans (bnd_ok hk))
                obtain ⟨rfl, ⟨F1, hcu, hfs, hrw⟩, hfr⟩ := hT
                have HE := Px.hid (And.intro hcu (And.intro hrw (And.intro (HS5.out.trans hfr fun _ _ x => x) (fresh_chain HS5.out (fresh_refl w F) hfs))))
                clear hcu hfs hrw hfr hk HIN
                go_wp2
                go_ret
                rw [HI.out]
                exact ⟨rfl, ⟨F1, HE.out.1, HE.out.2.2.2, HE.out.2.1⟩, HE.out.2.2.1⟩
end Go.Proofs.YtpfhollohodcjaaGreatDoor
