/-
  Several texts in one: The walk over wrapped (layer 23). The walk over octet.Get (layer 23). The walk over the cursor's rounds (layer 23).
-/
import Derived.Test.YtpfhollohodcjaaGreatDoorYA
import Derived.Laws.EntriesVeiled
import Derived.IntWalk
import Derived.BigRegion
/-! The walk over wrapped (layer 23). -/
namespace Go.Proofs.YtpfhollohodcjaaGreatDoor
open Go.RowKit Go.Px Go.Px.Co Go.Px.Cm
theorem eats_len {α : Type} {L : List Px.Node} {p : P α} {R : α → List (List Px.Node) → Prop} {k k1 : Cu} {v : α} (h : Eats L p R) (e : p k = .ok (v, k1)) (hf : Fits L k) : Fits L k1 ∧ k1.left.length = k.left.length := by
  obtain ⟨h1, ts, n, r, _, h2, h3, _⟩ := h k v k1 e hf
  exact ⟨h1, by rw [h2, h3]; rfl⟩
def wr3 (L : List Px.Node) (nm : Bytes) (i : Nat) : P Co.Rec := bnd (octs L 24 1032 8) fun s => ret ⟨2, 16 + 8 * i, 0, nm, s, [], 0, [], []⟩
def wr2 (L : List Px.Node) (nm : Bytes) : P Co.Rec := bnd (inn L 48 (kind L wrapT)) fun i => wr3 L nm i
def wr1 (L : List Px.Node) : P Co.Rec := bnd (inn L 48 (nameP L)) fun nm => wr2 L nm
theorem bnd_err {α β : Type} {p : P α} {f : α → P β} {c : Cu} {n : Int} (h : p c = .error n) : bnd p f c = .error n := by
  unfold bnd
  rw [h]
theorem bnd_ok {α β : Type} {p : P α} {f : α → P β} {c c' : Cu} {a : α} (h : p c = .ok (a, c')) : bnd p f c = f a c' := by
  unfold bnd
  rw [h]
def zeroR : Co.Rec := ⟨0, 0, 0, [], [], [], 0, [], []⟩
/-- What a recipient's reading leaves. -/
def RecP (br : Nat) (x : Co.Rec) (F : Nat → Prop) (w : World) : Prop := ¬ F br ∧ Blk w br (cRec x).toArray 78
theorem eats_true {α : Type} {L : List Px.Node} {p : P α} {R : α → List (List Px.Node) → Prop} (h : Eats L p R) : Eats L p (fun _ _ => True) := h.mono fun _ _ _ => trivial
theorem RecW.stable {w w' : World} {F : Nat → Prop} {pc pr b br : Nat} {r : Co.Rec} (h : RecW w F pc pr b br r) (hf : Fr F w w') : RecW w' F pc pr b br r := h.keep hf (fresh_refl w F)
theorem fr_chain {F F1 G : Nat → Prop} {w w1 w2 : World} (h : Fr (fun q => F q ∨ G q) w w1) (hs : Fresh w F F1) (k : Fr (fun q => F1 q ∨ G q) w1 w2) : Fr (fun q => F q ∨ G q) w w2 :=
  Fr.trans h k fun b hb x => by
    rcases x with x | x
    · rcases hs b x with y | y
      · exact .inl y
      · omega
    · exact .inr x
theorem fresh_chain {F F1 F2 G : Nat → Prop} {w w1 : World} (h : Fr G w w1) (hs : Fresh w F F1) (k : Fresh w1 F1 F2) : Fresh w F F2 := fun q x => by
  rcases k q x with y | y
  · exact hs q y
  · have := h.size
    exact .inr (by omega)
set_option maxRecDepth 100000 in
set_option maxHeartbeats 8000000 in
theorem wrapped_any (b br : Nat) (va : Value) (L : List Px.Node) (lim : Lim) (k : Cu) (F : Nat → Prop) (w : World) (h : CuAt w b va L lim k F) (hf : Fits L k) (hd : k.left.length ≤ 99) (hr : ∀ a ∈ L, E5.right a = true) (hx : RecP br zeroR F w) (hv : ∀ q, va.ownBlock = some q → q ≠ br) :
    Calls Tryz.prog 104 #[.pointer (some ⟨b, 0, none⟩), .pointer (some ⟨br, 0, none⟩)] w (RunsE w b va L lim F (fun q => q = br) (RecP br) (wrapped L k)) := by
  obtain ⟨R, hR⟩ : ∃ R, R = wrapped L k := ⟨_, rfl⟩
  rw [← hR]
  have HR := Px.hid hR
  have H := Px.hid (And.intro h (And.intro hf (And.intro hd (And.intro hr hv))))
  have hbl := hx.2.lt
  have k0 := hx.2.cell 0 rfl
  have fb := hx.2.free 0
  obtain ⟨w3, hw3⟩ : ∃ w3, w3 = (((w.setCell ⟨br, 0, none⟩ (.int .i64 2)).alloc (.cells #[.pointer (some ⟨b, 0, none⟩)] 50)).alloc (.cells #[.pointer (some ⟨br, 0, none⟩)] 167)) := ⟨_, rfl⟩
  have hsz : (w.setCell ⟨br, 0, none⟩ (.int .i64 2)).heap.size = w.heap.size := by simp [World.setCell]
  have hs2 : Same (w.setCell ⟨br, 0, none⟩ (.int .i64 2)) w3 := by rw [hw3]; exact ((Fr.refl _ _).alloc _).alloc _
  have hf2 : Fr (fun q => q = br) w (w.setCell ⟨br, 0, none⟩ (.int .i64 2)) := Fr.setCell (F := fun q => q = br) (Fr.refl _ w) (p := ⟨br, 0, none⟩) (.inl rfl) _
  have hbx : Blk (w.setCell ⟨br, 0, none⟩ (.int .i64 2)) br (cRec { zeroR with way := 2 }).toArray 78 := hx.2.set 0 (.int .i64 2)
  have hrw3 : RecW w3 F w.heap.size (w.heap.size + 1) b br { zeroR with way := 2 } := by
    have b0 := (blk_new (w.setCell ⟨br, 0, none⟩ (.int .i64 2)) #[.pointer (some ⟨b, 0, none⟩)] 50).alloc (.cells #[.pointer (some ⟨br, 0, none⟩)] 167)
    have b1 := blk_new ((w.setCell ⟨br, 0, none⟩ (.int .i64 2)).alloc (.cells #[.pointer (some ⟨b, 0, none⟩)] 50)) #[.pointer (some ⟨br, 0, none⟩)] 167
    rw [show ((w.setCell ⟨br, 0, none⟩ (.int .i64 2)).alloc (.cells #[.pointer (some ⟨b, 0, none⟩)] 50)).heap.size = w.heap.size + 1 by simp [World.setCell]] at b1
    rw [← hw3] at b0 b1
    rw [hsz] at b0
    refine ⟨b0.cell 0 rfl, b1.cell 0 rfl, hbx.fr hs2 (fun x => x), fun x => ?_, fun x => ?_, hx.1, by omega, by omega⟩
    · have := h.lt _ x; omega
    · have := h.lt _ x; omega
  have hcu3 : CuAt w3 b va L lim k F := (h.fr (G := fun q => q = br) hf2 (fun q hq e => hx.1 (by rw [← e]; exact hq)) hv).same hs2
  have hfr3 : Fr (fun q => F q ∨ q = br) w w3 := (Fr.mono hf2 fun _ x => .inr x).trans (hs2.fr _) fun _ _ x => x
  have c1 := hrw3.cc
  have c2 := hrw3.cr
  have W3 := Px.hid hw3
  have HV := Px.hid (version_any b va L lim k F [4] w3 hcu3 hf)
  have H3 := Px.hid (And.intro hrw3 hfr3)
  have hHG := Px.hid (fresh_refl w F)
  rw [hw3] at c1 c2
  clear hR h hf hd hr hv hx hs2 hf2 hsz hbx hrw3 hcu3 hfr3 hw3
  go_enter Tryz.func104, Tryz.ntmps104
  go_wp2_with fail
  rw [← W3.out]
  refine HV.out.mono ?_
  intro e w4 hT
  obtain ⟨pc, hpc⟩ : ∃ pc, pc = w.heap.size := ⟨_, rfl⟩
  obtain ⟨pr, hpr⟩ : ∃ pr, pr = w.heap.size + 1 := ⟨_, rfl⟩
  clear c1 c2
  rw [← hpr, ← hpc]
  have hrw3 := H3.out.1
  rw [← hpr, ← hpc] at hrw3
  have HRW := Px.hid hrw3
  clear hrw3 hpc hpr
  cases hk : version L [4] k with
  | error n =>
    rw [hk] at hT
    have HI := Px.hid (HR.out.trans (bnd_err hk))
    obtain ⟨⟨v, rfl, fb, rfl, hb⟩, hs⟩ := hT
    have HE := Px.hid (And.intro hb (fr_chain H3.out.2 hHG.out (Fr.mono hs fun _ x => .inl x)))
    clear hb hs hk HV
    go_wp2
    go_ret
    rw [HI.out]
    exact ⟨⟨_, rfl, fb, rfl, HE.out.1⟩, HE.out.2⟩
  | ok q =>
    obtain ⟨u, k1⟩ := q
    rw [hk] at hT
    obtain ⟨rfl, hcu, hfr⟩ := hT
    have hR1 : R = wr1 L k1 := HR.out.trans (bnd_ok hk)
    obtain ⟨hf1, hd1⟩ := eats_len (eats_version H.out.2.2.2.1 [4]) hk H.out.2.1
    have hrw := HRW.out.stable hfr
    have hin := in_any b va L lim k1 F (fun q => q = br) 0x30 (by decide) (by decide) 138 #[.pointer (some ⟨pc, 0, none⟩), .pointer (some ⟨pr, 0, none⟩)] (nameP L) (fun nm F' w' => RecW w' F' pc pr b br { way := 2, size := 0, kind := 0, name := nm, key := [], salt := [], rounds := 0, iv := [], loose := [] }) w4 hcu hf1 (by have := H.out.2.2.1; omega) H.out.2.2.2.1 (fun _ => rfl) (eats_true (eats_name H.out.2.2.2.1)) (fun v F w w' h hf => h.stable hf)
      (fun w1 F1 k2 h1 h2 _ h4 h5 => wrap1_any pc pr b br va L lim k2 F1 { zeroR with way := 2 } w1 h1 h2 (hrw.keep h4 h5) H.out.2.2.2.2 (eats_true (eats_octs H.out.2.2.2.1 1 128 1)))
    rw [show ((0x30 : UInt8).toNat) = 48 from rfl] at hin
    have HIN := Px.hid hin
    have HR1 := Px.hid hR1
    have H4 := Px.hid (And.intro hd1 (And.intro hf1 (fr_chain H3.out.2 hHG.out (Fr.mono hfr fun _ x => .inl x))))
    have c1 := hrw.cc
    have c2 := hrw.cr
    clear hcu hfr hR1 hf1 hd1 hrw hin hk HV HR H3
    go_wp2_with fail
    refine HIN.out.mono ?_
    intro e w5 hT
    clear c1 c2
    cases hk : inn L 48 (nameP L) k1 with
    | error n =>
      rw [hk] at hT
      have HI := Px.hid (HR1.out.trans (bnd_err hk))
      obtain ⟨⟨v, rfl, fb, rfl, hb⟩, hs⟩ := hT
      have HE := Px.hid (And.intro hb (fr_chain H4.out.2.2 (fresh_chain H4.out.2.2 hHG.out (fresh_refl _ F)) hs))
      clear hb hs hk HIN
      go_wp2
      go_ret
      rw [HI.out]
      exact ⟨⟨_, rfl, fb, rfl, HE.out.1⟩, HE.out.2⟩
    | ok q =>
      obtain ⟨nm, k2⟩ := q
      rw [hk] at hT
      obtain ⟨rfl, ⟨F1, hcu, hfs, hrw⟩, hfr⟩ := hT
      have hR2 : R = wr2 L nm k2 := HR1.out.trans (bnd_ok hk)
      have hei := eats_len (Eats.inn (t := 0x30) H.out.2.2.2.1 (eats_name H.out.2.2.2.1) (by decide) (by decide)) hk H4.out.2.1
      obtain ⟨hf2, hd2⟩ := hei
      have hin := in_any b va L lim k2 F1 (fun q => q = br) 0x30 (by decide) (by decide) 139 #[.pointer (some ⟨pc, 0, none⟩), .pointer (some ⟨pr, 0, none⟩)] (kind L wrapT) (fun i F' w' => RecW w' F' pc pr b br { way := 2, size := 16 + 8 * (i : Nat), kind := 0, name := nm, key := [], salt := [], rounds := 0, iv := [], loose := [] }) w5 hcu hf2 (by have := H.out.2.2.1; have := H4.out.1; omega) H.out.2.2.2.1 (fun _ => rfl) (eats_true (eats_kind H.out.2.2.2.1 wrapT)) (fun v F w w' h hf => h.stable hf)
        (fun w1 F2 k3 h1 h2 _ h4 h5 => wrap2_any pc pr b br va L lim k3 F2 _ w1 h1 h2 (hrw.keep h4 h5) H.out.2.2.2.2)
      rw [show ((0x30 : UInt8).toNat) = 48 from rfl] at hin
      have HIN2 := Px.hid hin
      have HR2 := Px.hid hR2
      have hfr5 := fr_chain H4.out.2.2 (fresh_refl w F) hfr
      have hfs5 := fresh_chain H4.out.2.2 (fresh_refl w F) hfs
      have H5 := Px.hid (And.intro hf2 (And.intro hfr5 hfs5))
      have c1 := hrw.cc
      have c2 := hrw.cr
      clear hcu hfr hR2 hf2 hd2 hrw hin hk HIN HR1 hfs H4 hfr5 hfs5
      go_wp2_with fail
      refine HIN2.out.mono ?_
      intro e w6 hT
      clear c1 c2
      cases hk : inn L 48 (kind L wrapT) k2 with
      | error n =>
        rw [hk] at hT
        have HI := Px.hid (HR2.out.trans (bnd_err hk))
        obtain ⟨⟨v, rfl, fb, rfl, hb⟩, hs⟩ := hT
        have HE := Px.hid (And.intro hb (fr_chain H5.out.2.1 H5.out.2.2 hs))
        clear hb hs hk HIN2
        go_wp2
        go_ret
        rw [HI.out]
        exact ⟨⟨_, rfl, fb, rfl, HE.out.1⟩, HE.out.2⟩
      | ok q =>
        obtain ⟨i, k3⟩ := q
        rw [hk] at hT
        obtain ⟨rfl, ⟨F2, hcu, hfs, hrw⟩, hfr⟩ := hT
        have hR3 : R = wr3 L nm i k3 := HR2.out.trans (bnd_ok hk)
        have hei := eats_len (Eats.inn (t := 0x30) H.out.2.2.2.1 (eats_kind H.out.2.2.2.1 wrapT) (by decide) (by decide)) hk H5.out.1
        obtain ⟨hf3, _⟩ := hei
        obtain ⟨R1, hR1⟩ : ∃ R1, R1 = octs L 24 1032 8 k3 := ⟨_, rfl⟩
        replace HR := Px.hid (And.intro hR3 hR1)
        replace HRW := Px.hid hrw
        have hvv := H.out.2.2.2.2
        replace H := Px.hid (And.intro hcu (And.intro hf3 (And.intro hvv True.intro)))
        have H6 := Px.hid (And.intro (fr_chain H5.out.2.1 H5.out.2.2 hfr) (fresh_chain H5.out.2.1 H5.out.2.2 hfs))
        have c1 := hrw.cc
        have c2 := hrw.cr
        clear hcu hfr hR3 hf3 hrw hk HIN2 HR2 hfs H5 hR1 hvv
        go_upto_region 11 with fail
        go_cut [6] (fun t6 wx => MidB (fun s => { way := 2, size := 16 + 8 * (i : Nat), kind := 0, name := nm, key := s, salt := [], rounds := 0, iv := [], loose := [] }) w6 b pc pr br va L lim F2 R1 t6 wx)
        case first =>
          obtain ⟨SS, hSS⟩ : ∃ SS : World → Prop, SS = (fun W : World => W.cell? ⟨pc, 0, none⟩ = some (.pointer (some ⟨b, 0, none⟩)) ∧ W.cell? ⟨pr, 0, none⟩ = some (.pointer (some ⟨br, 0, none⟩))) := ⟨_, rfl⟩
          have hS0 : SS w6.drew := by rw [hSS]; exact ⟨c1, c2⟩
          refine wp_region_held_drew (S := SS) (by kernel_rfl) hS0 (fun hHeld => ?_)
          refine wpAnyH_take (i := 0) (v := ?_) rfl (by kernel_rfl) (by kernel_rfl) (by kernel_rfl) (fun _ _ _ h => h) (Or.inl ⟨by rfl, ?_⟩) (by assumption) ?_
          rotate_left
          · intro w hw
            rw [hSS] at hw
            obtain ⟨q1, q2⟩ := hw
            go_simp
            try (with_reducible rfl)
          change wpAnyH _ _ _ _ _ _ _ (Act.put _ (some 28) _) _
          simp only [Act.put, List.setIfInBounds_toArray, List.set_cons_zero, List.set_cons_succ]
          refine wpAnyH_take (i := 1) (v := ?_) rfl (by kernel_rfl) (by kernel_rfl) (by kernel_rfl) (fun _ _ _ h => h) (Or.inl ⟨by rfl, ?_⟩) (by assumption) ?_
          rotate_left
          · intro w hw
            rw [hSS] at hw
            obtain ⟨q1, q2⟩ := hw
            go_simp
            try (with_reducible rfl)
          change wpAnyH _ _ _ _ _ _ _ (Act.put _ (some 29) _) _
          simp only [Act.put, List.setIfInBounds_toArray, List.set_cons_zero, List.set_cons_succ]
          refine wpAnyH_ready (rs := [2]) (by kernel_rfl) (by simp) ?_
          refine AllReadyH.cons rfl (fun K hK => ?_) AllReadyH.nil
          go_simp
          refine (between_any 24 1032 8 _).mono ?_
          rintro e wa ⟨rfl, hba, hbc, hbm, hsa⟩
          refine Shut.out hK _ _ ?_ (fun hHeld => ?_)
          · rw [hSS]
            have hrw := (HRW.out.keep (Fr.drew (Fr.refl _ w6)) (fresh_refl _ F2)).keep (hsa.fr F2) (fresh_refl _ F2)
            exact ⟨hrw.cc, hrw.cr⟩
          clear hK K
          refine wpAnyH_ready (rs := [3]) (by kernel_rfl) (by simp) ?_
          refine AllReadyH.cons rfl (fun K hK => ?_) AllReadyH.nil
          go_simp
          have hro := HRW.out.keep (Fr.drew (Fr.refl _ w6)) (fresh_refl _ F2)
          have hrw := hro.keep (hsa.fr F2) (fresh_refl _ F2)
          have hcu := (H.out.1.same (Fr.drew (Same.refl w6))).same hsa
          refine (octs_any b va L lim k3 F2 _ 24 1032 8 (by omega) (by omega) wa hcu H.out.2.1 (may_of H.out.1.lt hba hbc hbm)).mono ?_
          intro e wb hT
          rw [← HR.out.2] at hT
          obtain ⟨s, t, rfl, hfb, hmid⟩ := mid_of (i := 4) (set := (fun s => { way := 2, size := 16 + 8 * (i : Nat), kind := 0, name := nm, key := s, salt := [], rounds := 0, iv := [], loose := [] })) (fun s => by simp [cRec]) hT hrw H.out.2.2.1
          refine Shut.out hK _ _ ?_ (fun hHeld => ?_)
          · rw [hSS]
            have hrx := hrw.keep hfb (fresh_refl _ F2)
            exact ⟨hrx.cc, hrx.cr⟩
          clear hK K
          refine wpAnyH_take (i := 4) (v := ?_) rfl (by kernel_rfl) (by kernel_rfl) (by kernel_rfl) (fun _ _ _ h => h) (Or.inl ⟨by rfl, ?_⟩) (by assumption) ?_
          rotate_left
          · intro w hw
            rw [hSS] at hw
            obtain ⟨q1, q2⟩ := hw
            go_simp
            try (with_reducible rfl)
          change wpAnyH _ _ _ _ _ _ _ (Act.put _ (some 27) _) _
          simp only [Act.put, List.setIfInBounds_toArray, List.set_cons_zero, List.set_cons_succ]
          refine wpAnyH_take (i := 5) (v := ?_) rfl (by kernel_rfl) (by kernel_rfl) (by kernel_rfl) (fun _ _ _ h => h) (Or.inl ⟨by rfl, ?_⟩) (by assumption) ?_
          rotate_left
          · intro w hw
            rw [hSS] at hw
            obtain ⟨q1, q2⟩ := hw
            go_simp
            try (with_reducible rfl)
          change wpAnyH _ _ _ _ _ _ _ (Act.put _ (some 32) _) _
          simp only [Act.put, List.setIfInBounds_toArray, List.set_cons_zero, List.set_cons_succ]
          refine wpAnyH_take (i := 6) (v := ?_) rfl (by kernel_rfl) (by kernel_rfl) (by kernel_rfl) (fun _ _ _ h => h) (Or.inl ⟨by rfl, ?_⟩) (by assumption) ?_
          rotate_left
          · intro w hw
            rw [hSS] at hw
            obtain ⟨q1, q2⟩ := hw
            go_simp
            try (with_reducible rfl)
          change wpAnyH _ _ _ _ _ _ _ (Act.put _ (some 33) _) _
          simp only [Act.put, List.setIfInBounds_toArray, List.set_cons_zero, List.set_cons_succ]
          refine wpAnyH_take (i := 7) (v := ?_) rfl (by kernel_rfl) (by kernel_rfl) (by kernel_rfl) (fun _ _ _ h => h) (Or.inl ⟨by rfl, ?_⟩) (by assumption) ?_
          rotate_left
          · intro w hw
            rw [hSS] at hw
            obtain ⟨q1, q2⟩ := hw
            go_simp
            try (with_reducible rfl)
          change wpAnyH _ _ _ _ _ _ _ (Act.put _ (some 34) _) _
          simp only [Act.put, List.setIfInBounds_toArray, List.set_cons_zero, List.set_cons_succ]
          refine wpAnyH_take (i := 8) (v := ?_) rfl (by kernel_rfl) (by kernel_rfl) (by kernel_rfl) (fun _ _ _ h => h) (Or.inl ⟨by rfl, ?_⟩) (by assumption) ?_
          rotate_left
          · intro w hw
            rw [hSS] at hw
            obtain ⟨q1, q2⟩ := hw
            go_simp
            try (with_reducible rfl)
          change wpAnyH _ _ _ _ _ _ _ (Act.put _ (some 35) _) _
          simp only [Act.put, List.setIfInBounds_toArray, List.set_cons_zero, List.set_cons_succ]
          have fb := (hrw.keep hfb (fresh_refl _ F2)).rb.free 4
          have k0 := (hrw.keep hfb (fresh_refl _ F2)).rb.cell 4 rfl
          refine wpAnyH_ready (rs := [9]) (by kernel_rfl) (by simp) ?_
          refine AllReadyH.cons rfl (fun K hK => ?_) AllReadyH.nil
          go_simp
          refine Shut.out hK _ _ ?_ (fun hHeld => ?_)
          · rw [hSS]
            have hrx := (hrw.keep hfb (fresh_refl _ F2)).set (r' := (fun s => { way := 2, size := 16 + 8 * (i : Nat), kind := 0, name := nm, key := s, salt := [], rounds := 0, iv := [], loose := [] }) s) 4 (S s) (by simp [cRec])
            exact ⟨hrx.cc, hrx.cr⟩
          clear hK K
          refine wpAnyH_take (i := 10) (v := ?_) rfl (by kernel_rfl) (by kernel_rfl) (by kernel_rfl) (fun _ _ _ h => h) (Or.inl ⟨by rfl, ?_⟩) (by assumption) ?_
          rotate_left
          · intro w hw
            rw [hSS] at hw
            obtain ⟨q1, q2⟩ := hw
            go_simp
            try (with_reducible rfl)
          change wpAnyH _ _ _ _ _ _ _ (Act.put _ (some 6) _) _
          simp only [Act.put, List.setIfInBounds_toArray, List.set_cons_zero, List.set_cons_succ]
          refine wpAnyH_done (by kernel_rfl) ?_ _
          go_wp2_with fail
          go_meet
          exact hmid.base (Same.trans (Fr.drew (Fr.refl _ w6)) hsa)
        case rest =>
          clear c1 c2
          cases R1 with
          | error n =>
            have HI := Px.hid (HR.out.1.trans (bnd_err HR.out.2.symm))
            obtain ⟨⟨fb, rfl, hb⟩, hs⟩ := hcut
            have HE := Px.hid (And.intro hb (fr_chain H6.out.1 H6.out.2 hs))
            clear hb hs HR
            go_wp2
            go_ret
            rw [HI.out]
            exact ⟨⟨_, rfl, fb, rfl, HE.out.1⟩, HE.out.2⟩
          | ok q =>
            obtain ⟨s, k4⟩ := q
            have HI := Px.hid (HR.out.1.trans (bnd_ok HR.out.2.symm))
            obtain ⟨rfl, hc, hw, hs⟩ := hcut
            have HE := Px.hid (And.intro hc (And.intro hw (fr_chain H6.out.1 H6.out.2 hs)))
            clear hc hw hs HR
            go_wp2
            go_ret
            rw [HI.out]
            exact ⟨rfl, ⟨F2, HE.out.1, H6.out.2, HE.out.2.1.nb, HE.out.2.1.rb⟩, HE.out.2.2⟩
end Go.Proofs.YtpfhollohodcjaaGreatDoor

/-! The walk over octet.Get (layer 23). -/
namespace Go.Proofs.YtpfhollohodcjaaGreatDoor
open Go.RowKit Go.Px Go.Px.Co Go.Px.Cm
theorem num_snoc (s : Bytes) (x : UInt8) : num (s ++ [x]) = num s * 256 + x.toNat := by
  unfold num
  rw [List.foldl_append]
  rfl
theorem num_small : ∀ (n : Nat) (s : Bytes), s.length = n → num s < 256 ^ n
  | 0, s, h => by
    cases s with
    | nil => decide
    | cons _ _ => cases h
  | n + 1, s, h => by
    have hs : s = s.dropLast ++ [s.getLast (by intro e; rw [e] at h; cases h)] := (List.dropLast_concat_getLast _).symm
    rw [hs, num_snoc]
    have h2 := num_small n s.dropLast (by rw [List.length_dropLast, h]; rfl)
    have h3 := (s.getLast (by intro e; rw [e] at h; cases h)).toNat_lt
    rw [Nat.pow_succ]
    omega
theorem num_take {s : Bytes} {k : Nat} {x : UInt8} (hx : s[k]? = some x) : num (s.take (k + 1)) = num (s.take k) * 256 + x.toNat := by
  rw [List.take_add_one, hx]
  exact num_snoc _ _
theorem or_byte (n : Nat) (x : UInt8) : (n * 256) ||| x.toNat = n * 256 + x.toNat := by
  have := Nat.shiftLeft_add_eq_or_of_lt (i := 8) (b := x.toNat) x.toNat_lt n
  rw [Nat.shiftLeft_eq] at this
  exact this.symm
set_option maxRecDepth 100000 in
set_option maxHeartbeats 8000000 in
theorem get_any (s : Bytes) (h0 : s ≠ []) (h8 : s.length ≤ 8) (w : World) : Calls Tryz.prog 169 #[S s] w fun e w' => e = .returned (.tuple #[.int .u64 (num s : Nat), .int .i64 0]) ∧ w = w' := by
  have hne : (s == []) = false := beq_eq_false_iff_ne.2 h0
  have h8z : ¬ (8 : Int) < (s.length : Int) := by omega
  have H := Px.hid (And.intro h0 h8)
  clear h0 h8
  go_enter Tryz.func169, Tryz.ntmps169
  go_wp2
  go_loopw [4, 15] (fun n i wr => ∃ k, k ≤ s.length ∧ i = .int .i64 (k : Nat) ∧ n = .int .u64 (num (s.take k) : Nat) ∧ w = wr) (fun _ i _ => s.length - (intOf i).toNat)
  case atStart => exact ⟨0, Nat.zero_le _, rfl, rfl, rfl⟩
  case round =>
    obtain ⟨k, hk, rfl, rfl, rfl⟩ := hrel
    by_cases hlt : k < s.length
    · have hltz : (k : Int) < (s.length : Int) := by omega
      obtain ⟨x, hx⟩ : ∃ x, s[k]? = some x := ⟨_, List.getElem?_eq_getElem hlt⟩
      have HX := Px.hid (And.intro hx hlt)
      go_wp2
      go_roundw
      case rel =>
        refine ⟨k + 1, HX.out.2, by go_num, ?_, trivial⟩
        have hg : ({ data := s.toArray } : ByteArray)[k]'(by show k < s.toArray.size; simpa using HX.out.2) = x := by
          obtain ⟨_, e⟩ := List.getElem?_eq_some_iff.1 HX.out.1
          exact e
        have hn : num (s.take k) < 72057594037927936 := by
          have h1 := num_small k (s.take k) (by rw [List.length_take]; omega)
          have h2 : 256 ^ k ≤ 256 ^ 7 := Nat.pow_le_pow_right (by decide) (by have := H.out.2; omega)
          have h3 : 256 ^ 7 = 72057594037927936 := by decide
          omega
        have hxl := x.toNat_lt
        rw [hg, num_take HX.out.1, IntWalk.u64_in _ ⟨by omega, by omega⟩, IntWalk.u64_in _ ⟨by omega, by omega⟩]
        have h4 := u64_or_nat (num (s.take k) * 256) x.toNat (by omega) (by omega)
        rw [or_byte] at h4
        rw [show ((num (s.take k) : Nat) : Int) * 256 = ((num (s.take k) * 256 : Nat) : Int) by omega, h4]
      case measure => have := HX.out.2; simp [intOf]; omega
    · have hltz : ¬ (k : Int) < (s.length : Int) := by omega
      have HE := Px.hid (show s.take k = s from List.take_of_length_le (by omega))
      go_wp2
      go_ret2
      rw [HE.out]
      exact ⟨rfl, rfl⟩
end Go.Proofs.YtpfhollohodcjaaGreatDoor

/-! The walk over the cursor's rounds (layer 23). -/
namespace Go.Proofs.YtpfhollohodcjaaGreatDoor
open Go.RowKit Go.Px Go.Px.Co Go.Px.Cm
/-- What a number's bytes come to. -/
def rndR (lim : Lim) (k1 : Cu) (s : Bytes) : Except Int (Nat × Cu) :=
  if 128 ≤ (s.getD 0 0).toNat ∨ s = [0] then .error 9 else if 8 < s.length ∨ lim.r < num s then .error 10 else .ok (num s, k1)
set_option maxRecDepth 100000 in
set_option maxHeartbeats 8000000 in
theorem rounds_any (b : Nat) (va : Value) (L : List Px.Node) (lim : Lim) (k : Cu) (F : Nat → Prop) (w : World) (h : CuAt w b va L lim k F) (hf : Fits L k) (hr : ∀ a ∈ L, E5.right a = true) (hl : 0 ≤ lim.r ∧ lim.r ≤ 4096) :
    Calls Tryz.prog 160 #[.pointer (some ⟨b, 0, none⟩)] w (TkP (fun n : Nat => .int .i64 (n : Nat)) (.int .i64 0) w b va L lim F (rounds L lim k)) := by
  have HT := Px.hid (ctake_any b va L lim k F 2 (by decide) w h hf)
  have HN := Px.hid (fun (s : Bytes) (k1 : Cu) (e : Cm.take L 2 k = .ok (s, k1)) => show s ≠ [] from by
    obtain ⟨_, ts, n, r, ⟨_, hb⟩, _⟩ := eats_take hr (t := 2) (by decide) (by decide) k s k1 e hf
    intro e
    rw [e] at hb
    revert hb
    decide)
  have HL := Px.hid hl
  obtain ⟨R, hR⟩ : ∃ R, R = rounds L lim k := ⟨_, rfl⟩
  rw [← hR]
  have HR := Px.hid hR
  clear hR h hf hr hl
  go_enter Tryz.func160, Tryz.ntmps160
  go_wp2_with fail
  refine HT.out.mono ?_
  intro e w1 hT
  cases hk : Cm.take L 2 k with
  | error n =>
    rw [hk] at hT
    have HI := Px.hid (HR.out.trans (bnd_err hk))
    obtain ⟨⟨v, rfl, fb, rfl, hb⟩, hs⟩ := hT
    have HE := Px.hid (And.intro hb hs)
    clear hb hs hk HT
    go_wp2
    go_ret2
    rw [HI.out]
    exact ⟨⟨_, rfl, fb, rfl, HE.out.1⟩, HE.out.2.fr _⟩
  | ok q =>
    obtain ⟨s, k1⟩ := q
    rw [hk] at hT
    obtain ⟨rfl, hc, hfr⟩ := hT
    have hne := HN.out s k1 hk
    have hI : R = rndR lim k1 s := by
      rw [HR.out]
      unfold rounds
      rw [bnd_ok hk]
      unfold rndR
      split
      · rfl
      · split <;> rfl
    obtain ⟨vl, hrep, hFF⟩ := hc
    have c6 := hrep.blk.cell 6 (v := .int .i64 lim.r) rfl
    have HC := Px.hid (And.intro (⟨vl, hrep, hFF⟩ : CuAt w1 b va L lim k1 F) hfr)
    have HI := Px.hid hI
    clear hrep hFF hfr hk hI HT HR HN
    have hpos : 0 < s.length := List.length_pos_iff.2 hne
    have hsz : 0 < ({ data := s.toArray } : ByteArray).size := by show 0 < s.toArray.size; simpa using hpos
    have hsx : s.getD 0 0 = ({ data := s.toArray } : ByteArray)[0]'hsz := by
      have h1 : s.getD 0 0 = s[0] := by simp [List.getD, hpos]
      rw [h1]
      rfl
    have hx0 : (0 : Int) < (s.length : Int) := by omega
    have HS := Px.hid hne
    clear hne hpos
    by_cases h1 : 128 ≤ (s.getD 0 0).toNat
    · have HI2 := Px.hid (HI.out.trans (show rndR lim k1 s = .error 9 by unfold rndR; rw [if_pos (.inl h1)]))
      rw [hsx] at h1
      have h1z : (128 : Int) ≤ (((({ data := s.toArray } : ByteArray)[0]'hsz).toNat : Nat) : Int) := by omega
      clear h1 HI hsx
      go_wp2_with fail
      refine (wrong_any 9 _).mono ?_
      rintro e w2 ⟨v, rfl, he, hs⟩
      have HE := Px.hid (And.intro he (HC.out.2.trans (hs.fr F) (fun _ _ x => x)))
      clear he hs
      go_wp2
      go_ret2
      rw [HI2.out]
      exact ⟨⟨v, rfl, HE.out.1⟩, HE.out.2⟩
    · have h1y := h1
      rw [hsx] at h1y
      have h1z : ¬ (128 : Int) ≤ (((({ data := s.toArray } : ByteArray)[0]'hsz).toNat : Nat) : Int) := by omega
      clear h1y hsx
      by_cases h2 : s = [0]
      · have HI2 := Px.hid (HI.out.trans (show rndR lim k1 s = .error 9 by unfold rndR; rw [if_pos (.inr h2)]))
        have h2z : (s == [0]) = true := by rw [beq_iff_eq]; exact h2
        clear h1 h2 HI
        go_wp2_with fail
        refine (wrong_any 9 _).mono ?_
        rintro e w2 ⟨v, rfl, he, hs⟩
        have HE := Px.hid (And.intro he (HC.out.2.trans (hs.fr F) (fun _ _ x => x)))
        clear he hs
        go_wp2
        go_ret2
        rw [HI2.out]
        exact ⟨⟨v, rfl, HE.out.1⟩, HE.out.2⟩
      · have HI3 := Px.hid (HI.out.trans (show rndR lim k1 s = if 8 < s.length ∨ lim.r < num s then .error 10 else .ok (num s, k1) by unfold rndR; rw [if_neg (by rintro (e | e); exact h1 e; exact h2 e)]))
        have h2z : (s == [0]) = false := by rw [beq_eq_false_iff_ne]; exact h2
        clear h1 h2 HI
        by_cases h3 : 8 < s.length
        · have HI2 := Px.hid (HI3.out.trans (if_pos (.inl h3)))
          have h3z : (8 : Int) < (s.length : Int) := by omega
          clear h3 HI3
          go_wp2_with fail
          refine (wrong_any 10 _).mono ?_
          rintro e w2 ⟨v, rfl, he, hs⟩
          have HE := Px.hid (And.intro he (HC.out.2.trans (hs.fr F) (fun _ _ x => x)))
          clear he hs
          go_wp2
          go_ret2
          rw [HI2.out]
          exact ⟨⟨v, rfl, HE.out.1⟩, HE.out.2⟩
        · have h3z : ¬ (8 : Int) < (s.length : Int) := by omega
          have HG := Px.hid (get_any s HS.out (by omega) w1)
          obtain ⟨lr, hlr⟩ : ∃ lr : Nat, lim.r = (lr : Int) := ⟨lim.r.toNat, by have := HL.out.1; omega⟩
          rw [hlr] at c6
          have hlr2 : lr ≤ 4096 := by have := HL.out.2; omega
          have hwr : IntKind.u64.wrap (lr : Int) = (lr : Int) := IntWalk.u64_in _ ⟨by omega, by omega⟩
          by_cases h4 : lr < num s
          · have HI2 := Px.hid (HI3.out.trans (if_pos (.inr (by omega))))
            have h4z : (lr : Int) < ((num s : Nat) : Int) := by omega
            clear h3 h4 HI3 hlr
            go_wp2_with fail
            refine HG.out.mono ?_
            rintro e w2 ⟨rfl, rfl⟩
            go_wp2_with fail
            refine (wrong_any 10 _).mono ?_
            rintro e w2 ⟨v, rfl, he, hs⟩
            have HE := Px.hid (And.intro he (HC.out.2.trans (hs.fr F) (fun _ _ x => x)))
            clear he hs
            go_wp2
            go_ret2
            rw [HI2.out]
            exact ⟨⟨v, rfl, HE.out.1⟩, HE.out.2⟩
          · have HI2 := Px.hid (HI3.out.trans (if_neg (by rintro (e | e) <;> omega)))
            have h4z : ¬ (lr : Int) < ((num s : Nat) : Int) := by omega
            have hnz : ((num s : Nat) : Int) ≤ 4096 := by omega
            have hwn : IntKind.i64.wrap ((num s : Nat) : Int) = ((num s : Nat) : Int) := IntWalk.i64_in _ ⟨by omega, by omega⟩
            clear h3 h4 HI3 hlr
            go_wp2_with fail
            refine HG.out.mono ?_
            rintro e w2 ⟨rfl, rfl⟩
            go_wp2
            go_ret2
            rw [HI2.out]
            exact ⟨rfl, HC.out.1, HC.out.2⟩
end Go.Proofs.YtpfhollohodcjaaGreatDoor
