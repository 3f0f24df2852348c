/-
  Several texts in one: The walk over recipients (layer 23). A draft.
-/
import Derived.Test.YtpfhollohodcjaaGreatDoorYE
import Derived.Laws.EntriesVeiled
import Derived.IntWalk
import Derived.BigRegion
import Derived.BigQuiet
/-! The walk over recipients (layer 23). A draft. -/
namespace Go.Proofs.YtpfhollohodcjaaGreatDoor
open Go.RowKit Go.Px Go.Px.Co Go.Px.Cm
theorem Tryz.infoRec : (Tryz.prog.info? 78).map (fun i => (i.zero, i.size, i.bytes)) = some (some (.agg (cRec zeroR).toArray), 9, 112) := by kernel_rfl
/-- Some were read already. -/
def ahead (done : List Co.Rec) (r : Except Int (List Co.Rec × Cu)) : Except Int (List Co.Rec × Cu) := match r with
  | .ok (rs, c) => .ok (done ++ rs, c)
  | .error e => .error e
theorem ahead_nil (r : Except Int (List Co.Rec × Cu)) : ahead [] r = r := by
  cases r <;> rfl
theorem ahead_step {L : List Px.Node} {lim : Lim} {m : Nat} {k k1 : Cu} {x : Co.Rec} {done : List Co.Rec} (h : recip L lim k = .ok (x, k1)) : ahead done (recipN L lim (m + 1) k) = ahead (done ++ [x]) (recipN L lim m k1) := by
  show ahead done (bnd (recip L lim) (fun r => bnd (recipN L lim m) fun rs => ret (r :: rs)) k) = _
  rw [bnd_ok h]
  cases e : recipN L lim m k1 with
  | error n =>
    rw [bnd_err e]
    rfl
  | ok q =>
    obtain ⟨rs, c⟩ := q
    rw [bnd_ok e]
    simp [ahead, ret]
theorem ahead_err {L : List Px.Node} {lim : Lim} {m : Nat} {k : Cu} {n : Int} {done : List Co.Rec} (h : recip L lim k = .error n) : ahead done (recipN L lim (m + 1) k) = .error n := by
  show ahead done (bnd (recip L lim) (fun r => bnd (recipN L lim m) fun rs => ret (r :: rs)) k) = _
  rw [bnd_err h]
  rfl
theorem far_end {F F' E : Nat → Prop} {w wr w1 w2 : World} {br : Nat} (h : Fr (fun q => F q ∨ E q) w wr) (hs : Fresh w F F') (h1 : Same wr w1) (hb : w.heap.size ≤ br) (k : Fr (fun q => F' q ∨ q = br) w1 w2) : Fr (fun q => F q ∨ E q) w w2 := Fr.trans h ((h1.fr _).trans k fun _ _ x => x) fun q hq x => by
  rcases x with x | x
  · rcases hs q x with y | y
    · exact .inl y
    · omega
  · omega
set_option maxRecDepth 100000 in
set_option maxHeartbeats 8000000 in
theorem recips_any (b be : Nat) (va vto : Value) (L : List Px.Node) (lim : Lim) (k : Cu) (F : Nat → Prop) (x : Co.Env) (w : World) (h : CuAt w b va L lim k F) (hf : Fits L k) (hd : k.left.length ≤ 90) (hr : ∀ a ∈ L, E5.right a = true) (hl : 0 ≤ lim.r ∧ lim.r ≤ 4096) (hx : EnvW w F be x vto) (hx0 : x.to = []) (hv : ∀ q, va.ownBlock = some q → ¬ envFoot be vto q) :
    Calls Tryz.prog 67 #[.pointer (some ⟨b, 0, none⟩), .pointer (some ⟨be, 0, none⟩)] w (RunsE w b va L lim F (envFoot be vto) (fun rs F' w' => ∃ vto', EnvW w' F' be { x with «to» := rs } vto' ∧ Fresh w (envFoot be vto) (envFoot be vto')) (recips L lim k)) := by
  obtain ⟨R, hR⟩ : ∃ R, R = recips L lim k := ⟨_, rfl⟩
  rw [← hR]
  have HR := Px.hid hR
  have H := Px.hid (And.intro h (And.intro hf (And.intro hd (And.intro hr (And.intro hl (And.intro hx (And.intro hx0 hv)))))))
  obtain ⟨vl, hrep, hFF⟩ := h
  obtain ⟨n, r, g, cap, hk, rfl, hc1, hc2, t0, tf, hg⟩ := hrep.top
  obtain ⟨c0, c1, c2⟩ := hrep.cells
  have hbl := hrep.lt
  have hnl := fits_le hf hk
  have hL := hrep.wf.1
  unfold maxLen at hc2
  have hne : ¬ w.heap.size = b := by omega
  have hgw : ¬ w.heap.size = g := by omega
  have HK := Px.hid hk
  clear hR hf hd hr hl hx hx0 hv hrep hFF hk
  by_cases h0 : n = 0
  · subst h0
    have HI := Px.hid (HR.out.trans (show recips L lim k = .error 9 by unfold recips; rw [HK.out]; rfl))
    clear HR
    go_enter Tryz.func67, Tryz.ntmps67
    go_wp2_with fail
    go_quiet (fail)
    go_wp2_with fail
    refine (wrong_any 9 _).mono ?_
    rintro e w1 ⟨v, rfl, he, hs⟩
    have HE := Px.hid (And.intro he (Same.trans ((Fr.refl (fun _ => False) w).alloc _ |>.drewN _) hs))
    clear he hs
    go_wp2
    go_ret
    rw [HI.out]
    exact ⟨⟨v, rfl, HE.out.1⟩, HE.out.2.fr _⟩
  · have hz0 : (((n : Nat) : Int) == 0) = false := beq_eq_false_iff_ne.2 (by omega)
    by_cases h8 : 8 < n
    · have HI := Px.hid (HR.out.trans (show recips L lim k = .error 10 by unfold recips; rw [HK.out]; show (if n = 0 then _ else if 8 < n then _ else _) = _; rw [if_neg h0, if_pos h8]))
      have h8z : (8 : Int) < ((n : Nat) : Int) := by omega
      clear HR h0 h8
      go_enter Tryz.func67, Tryz.ntmps67
      go_wp2_with fail
      go_quiet (fail)
      go_wp2_with fail
      refine (wrong_any 10 _).mono ?_
      rintro e w1 ⟨v, rfl, he, hs⟩
      have HE := Px.hid (And.intro he (Same.trans ((Fr.refl (fun _ => False) w).alloc _ |>.drewN _) hs))
      clear he hs
      go_wp2
      go_ret
      rw [HI.out]
      exact ⟨⟨v, rfl, HE.out.1⟩, HE.out.2.fr _⟩
    · have HI := Px.hid (HR.out.trans (show recips L lim k = recipN L lim n k by unfold recips; rw [HK.out]; show (if n = 0 then _ else if 8 < n then _ else _) = _; rw [if_neg h0, if_neg h8]; rfl))
      have h8z : ¬ (8 : Int) < ((n : Nat) : Int) := by omega
      clear HR
      go_enter Tryz.func67, Tryz.ntmps67
      go_wp2_with fail
      go_quiet (fail)
      go_wp2_with fail
      obtain ⟨w0, hw0⟩ : ∃ w0, w0 = ((w.alloc (.cells #[.pointer (some ⟨b, 0, none⟩)] 50)).drewN nq) := ⟨_, rfl⟩
      obtain ⟨pc, hpc⟩ : ∃ pc, pc = w.heap.size := ⟨_, rfl⟩
      rw [← hw0, ← hpc]
      go_loopw [28] (fun i wr => ∃ m done k' F' vto', done.length + m = n ∧ i = .int .i64 (done.length : Nat) ∧ CuAt wr b va L lim k' F' ∧ Fits L k' ∧ k'.left.length = k.left.length ∧ EnvW wr F' be { x with «to» := done } vto' ∧ wr.cell? ⟨pc, 0, none⟩ = some (.pointer (some ⟨b, 0, none⟩)) ∧ ¬ F' pc ∧ ¬ envFoot be vto' pc ∧ Fr (fun q => F q ∨ envFoot be vto q) w wr ∧ Fresh w F F' ∧ Fresh w (envFoot be vto) (envFoot be vto') ∧ R = ahead done (recipN L lim m k')) (fun i _ => n - (intOf i).toNat)
      case atStart =>
        have hs : Same w w0 := by rw [hw0]; exact (Fr.refl (fun _ => False) w).alloc _ |>.drewN _
        have hbk : w0.cell? ⟨pc, 0, none⟩ = some (.pointer (some ⟨b, 0, none⟩)) := by
          rw [hw0, hpc]
          exact (blk_new w #[.pointer (some ⟨b, 0, none⟩)] 50).cell 0 rfl
        have hxe : ({ x with «to» := [] } : Co.Env) = x := by
          have := H.out.2.2.2.2.2.2.1
          cases x
          simp only at this
          rw [this]
        refine ⟨n, [], k, F, vto, by simp, rfl, H.out.1.same hs, H.out.2.1, rfl, ?_, hbk, fun e => ?_, fun e => ?_, hs.fr _, fresh_refl _ _, fresh_refl _ _, by rw [ahead_nil]; exact HI.out⟩
        · rw [hxe]
          exact H.out.2.2.2.2.2.1.keep (hs.fr F) (fresh_refl _ _)
        · have := H.out.1.lt _ e; omega
        · have := H.out.2.2.2.2.2.1.lt _ e; omega
      case round =>
        obtain ⟨m, done, k', F', vto', hdm, rfl, hcu, hfi, hlen, hev, hbk, hnf, hne2, hfr, hfs, hfs2, hRm⟩ := hrel
        by_cases hlt : done.length < n
        · have hltz : ((done.length : Nat) : Int) < ((n : Nat) : Int) := by omega
          obtain ⟨m, rfl⟩ : ∃ m', m = m' + 1 := ⟨m - 1, by omega⟩
          obtain ⟨br, hbr⟩ : ∃ br, br = wr.heap.size := ⟨_, rfl⟩
          obtain ⟨wa, hwa⟩ : ∃ wa, wa = wr.alloc (.cells (cRec zeroR).toArray 78) := ⟨_, rfl⟩
          have hsA : Same wr wa := by rw [hwa]; exact Fr.alloc (Fr.refl _ wr) _
          have hblk : Blk wa br (cRec zeroR).toArray 78 := by rw [hwa, hbr]; exact blk_new wr _ _
          have hnbF : ¬ F' br := fun x => by have := hcu.lt _ x; omega
          have hva' : ∀ q, va.ownBlock = some q → q ≠ br := fun q e => by have := hcu.va q e; omega
          have HA0 := Px.hid (And.intro hbr (And.intro hwa (And.intro hnbF (And.intro hva' (And.intro hblk (show Same wr wa from hsA))))))
          have HTG := Px.hid (ctag_any b va L lim k' F' (wr.alloc (.cells (cRec zeroR).toArray 78)) (hcu.same (by rw [← hwa]; exact hsA)) hfi)
          have HB := Px.hid (And.intro hdm (And.intro hcu (And.intro hfi (And.intro hlen (And.intro hev (And.intro hbk (And.intro hnf (And.intro hne2 (And.intro hfr (And.intro hfs (And.intro hfs2 hsA)))))))))))
          have HRM := Px.hid hRm
          have hpcl := World.block_lt_of_cell? _ _ hbk
          simp only at hpcl
          have HWA := Px.hid hwa
          have HP0 := Px.hid hpcl
          clear hw0 hpc hbr hwa
          clear hdm hcu hfi hlen hev hnf hne2 hfr hfs hfs2 hRm hsA hblk hnbF hva'
          go_wp2_with fail
          refine HTG.out.mono ?_
          rintro e w1 ⟨rfl, hs1⟩
          replace hs1 : Same wa w1 := by rw [HWA.out]; exact hs1
          rw [← HA0.out.1]
          have hcell1 : w1.cell? ⟨pc, 0, none⟩ = some (.pointer (some ⟨b, 0, none⟩)) := ((HA0.out.2.2.2.2.2.trans hs1).cell (p := ⟨pc, 0, none⟩) hpcl (fun x => x)).trans hbk
          have HA := Px.hid (And.intro ((HB.out.2.1.same HB.out.2.2.2.2.2.2.2.2.2.2.2).same hs1) (And.intro HB.out.2.2.1 (And.intro HB.out.2.2.2.1 (And.intro (show RecP br zeroR F' w1 from ⟨HA0.out.2.2.1, HA0.out.2.2.2.2.1.fr hs1 (fun x => x)⟩) (And.intro HA0.out.2.2.2.1 (And.intro (show pc < w1.heap.size from World.block_lt_of_cell? _ _ hcell1) (And.intro HB.out.2.2.2.2.2.2.1 hcell1)))))))
          have HS1 := Px.hid (HB.out.2.2.2.2.2.2.2.2.2.2.2.trans hs1)
          obtain ⟨pk, hpk⟩ : ∃ pk, pk = peek L k' := ⟨_, rfl⟩
          rw [← hpk]
          clear hs1 hbk hpcl HTG
          have c1 := hcell1
          clear hcell1
          by_cases hp : pk = 162
          · subst hp
            have hin := in_any b va L lim k' F' (fun q => q = br) 0xa2 (by decide) (by decide) 103 #[.pointer (some ⟨pc, 0, none⟩), .pointer (some ⟨br, 0, none⟩)] (wrapped L) (RecP br) w1 HA.out.1 HA.out.2.1 (by have := HA.out.2.2.1; have := H.out.2.2.1; omega) H.out.2.2.2.1 (fun _ => rfl)
              (eats_true (eats_wrapped H.out.2.2.2.1 4096)) (fun v F w w' h hf => ⟨h.1, h.2.fr hf h.1⟩)
              (fun w2 F1 k2 h1 h2 h3 h4 h5 => rec1_any pc b br va L lim k2 F1 w2 h1 h2 (by have := HA.out.2.2.1; have := H.out.2.2.1; omega) H.out.2.2.2.1 ⟨fun x => (h5 _ x).elim HA.out.2.2.2.1.1 (fun y => absurd HA.out.2.2.2.1.2.lt (by omega)), HA.out.2.2.2.1.2.fr h4 HA.out.2.2.2.1.1⟩ HA.out.2.2.2.2.1 ((h4.cell (p := ⟨pc, 0, none⟩) HA.out.2.2.2.2.2.1 HA.out.2.2.2.2.2.2.1).trans HA.out.2.2.2.2.2.2.2))
            rw [show ((0xa2 : UInt8).toNat) = 162 from rfl] at hin
            have HIN := Px.hid hin
            have hrec : recip L lim k' = inn L 162 (wrapped L) k' := by
              unfold recip
              rw [if_pos hpk.symm]
            have HRC := Px.hid hrec
            clear hin hrec hpk
            go_wp2_with fail
            refine HIN.out.mono ?_
            intro e w2 hT
            rw [← HRC.out] at hT
            cases hk : recip L lim k' with
            | error en =>
              rw [hk] at hT
              have HI2 := Px.hid (HRM.out.trans (ahead_err hk))
              obtain ⟨⟨v, rfl, fb, rfl, hb⟩, hs⟩ := hT
              have HE := Px.hid (And.intro hb hs)
              clear hb hs hk HIN
              go_wp2
              go_ret
              rw [HI2.out]
              exact ⟨⟨_, rfl, fb, rfl, HE.out.1⟩, far_end HB.out.2.2.2.2.2.2.2.2.1 HB.out.2.2.2.2.2.2.2.2.2.1 HS1.out (by have := HA0.out.1; have := HB.out.2.2.2.2.2.2.2.2.1.size; omega) HE.out.2⟩
            | ok q =>
              obtain ⟨rr, k1⟩ := q
              rw [hk] at hT
              have HI2 := Px.hid (HRM.out.trans (ahead_step hk))
              obtain ⟨rfl, ⟨F1, hcu2, hfs1, hrp⟩, hfr2⟩ := hT
              have HL := Px.hid (eats_len (eats_recip H.out.2.2.2.1 H.out.2.2.2.2.1.2) hk HA.out.2.1)
              have HC := Px.hid (And.intro hcu2 (And.intro hfs1 (And.intro hrp hfr2)))
              have hew2 : EnvW w2 F1 be { x with «to» := done } vto' := by
                have h1 := HB.out.2.2.2.2.1.keep (HS1.out.fr F') (fresh_refl _ F')
                have hnb : ¬ envFoot be vto' br := fun e => by have := HB.out.2.2.2.2.1.lt br e; have := HA0.out.1; omega
                have hbl : ∀ q, envFoot be vto' q → ¬ (F' q ∨ q = br) := fun q hq e => e.elim (h1.nf q hq) (fun e2 => hnb (by rw [← e2]; exact hq))
                exact ⟨Blk.fr h1.eb HC.out.2.2.2 (hbl be (.inl rfl)), h1.own.fr HC.out.2.2.2 (fun q e => hbl q (.inr e)), fun q hq e => (HC.out.2.1 q e).elim (h1.nf q hq) (fun y => by have := h1.lt q hq; omega), h1.ap⟩
              have k2 := Blk.cell hew2.eb 2 rfl
              have kf := Blk.free hew2.eb 2
              have hbe := Blk.lt hew2.eb
              have hbr2 := hrp.2.lt
              have r0 : w2.cell? ⟨br, 0, none⟩ = some (.int .i64 rr.way) := hrp.2.cell 0 rfl
              have r1 : w2.cell? ⟨br, 1, none⟩ = some (.int .i64 rr.size) := hrp.2.cell 1 rfl
              have r2 : w2.cell? ⟨br, 2, none⟩ = some (.int .i64 rr.kind) := hrp.2.cell 2 rfl
              have r3 : w2.cell? ⟨br, 3, none⟩ = some (S rr.name) := hrp.2.cell 3 rfl
              have r4 : w2.cell? ⟨br, 4, none⟩ = some (S rr.key) := hrp.2.cell 4 rfl
              have r5 : w2.cell? ⟨br, 5, none⟩ = some (S rr.salt) := hrp.2.cell 5 rfl
              have r6 : w2.cell? ⟨br, 6, none⟩ = some (.int .i64 rr.rounds) := hrp.2.cell 6 rfl
              have r7 : w2.cell? ⟨br, 7, none⟩ = some (S rr.iv) := hrp.2.cell 7 rfl
              have r8 : w2.cell? ⟨br, 8, none⟩ = some (S rr.loose) := hrp.2.cell 8 rfl
              have c3 : w2.cell? ⟨pc, 0, none⟩ = some (.pointer (some ⟨b, 0, none⟩)) := (HC.out.2.2.2.cell (p := ⟨pc, 0, none⟩) HA.out.2.2.2.2.2.1 (fun e => e.elim HA.out.2.2.2.2.2.2.1 (fun e2 => by have := HA0.out.1; have := HP0.out; simp only at e2; omega))).trans HA.out.2.2.2.2.2.2.2
              have hvl := hew2.own.len
              obtain ⟨la, lc, hvl1, hlc1, hlc2, _⟩ := hvl
              have HEW := Px.hid hew2
              obtain ⟨i0, hi0, hz0, hz1, hz2⟩ := info_parts Tryz.infoRec
              unfold maxLen at hlc2
              obtain ⟨m9, hm9⟩ : ∃ m9, m9 = done.length := ⟨_, rfl⟩
              have hown : w2.ownsRow 0 78 9 vto' m9 (done.flatMap cRec) := by
                have := hew2.own
                unfold Owns at this
                rw [hm9]
                exact this
              have HO := Px.hid hown
              have hm8 : m9 ≤ 7 := by have := HB.out.1; omega
              have LB := hew2.ap.ne
              have HM9 := Px.hid hm9
              clear hcu2 hfs1 hrp hfr2 hk c1 hew2 HIN hown hvl1 hlc1 hlc2 hm9
              go_upto_region 23 with fail
              go_region_law
                ((refine step_append_lies _ (by rfl) _ _ _ (by rfl) 0 78 i0 _ 9 112 Tryz.underlying25 hi0 hz0 hz1 hz2 rfl (by omega) vto' m9 (done.flatMap cRec) (by rfl) (World.ownsRow.alloc HO.out _)
                      ⟨w2.heap.size, 0, none⟩ 1 1 (cRec rr) (by rfl) (by rfl) (World.news_of_block (cs := (cRec rr).toArray) (t := 78) (fr := (0, 0)) (heap_alloc_new w2 _)) (by simp [cRec, Value.oneCell'])
                      (by omega) (by unfold maxLen; omega) (by omega) (by simp) (w2.heap.size + 1) (by simp) ?_; intro gg cap w3 hown1 hgrow hat hlt; have k4 := grown_cell hgrow k2 LB; have e4 := grown_free hgrow k2 kf LB))
              all_goals
                go_wp2_with fail
                have hm := HM9.out
                subst hm
                obtain ⟨q1, q2, q3⟩ := HEW.out.push (fun q hq => HC.out.1.lt q hq) hown1 hgrow (hat.imp id (fun e => by omega)) rfl
                have l3 := World.block_lt_of_cell? _ _ c3
                simp only at l3
                have hw2 := far_end HB.out.2.2.2.2.2.2.2.2.1 HB.out.2.2.2.2.2.2.2.2.2.1 HS1.out (by have := HA0.out.1; have := HB.out.2.2.2.2.2.2.2.2.1.size; omega) HC.out.2.2.2
                have hsz : w.heap.size ≤ w1.heap.size := Nat.le_trans HB.out.2.2.2.2.2.2.2.2.1.size HS1.out.size
                refine ⟨⟨m, done ++ [rr], k1, F1, _, ?_, ?_, ?_, HL.out.1, HL.out.2.trans HB.out.2.2.2.1, q1, ?_, ?_, ?_, ?_, ?_, fresh_chain hw2 HB.out.2.2.2.2.2.2.2.2.2.2.1 q3, HI2.out⟩, ?_⟩
                · rw [List.length_append, List.length_singleton]
                  have := HB.out.1
                  omega
                · rw [List.length_append]
                  rfl
                · exact HC.out.1.fr q2 (fun q hq e => HEW.out.nf q e hq) (fun q hq e => (HB.out.2.2.2.2.2.2.2.2.2.2.1 q e).elim (H.out.2.2.2.2.2.2.2 q hq) (fun y => by have := H.out.1.va q hq; omega))
                · exact (q2.cell (p := ⟨pc, 0, none⟩) l3 HB.out.2.2.2.2.2.2.2.1).trans c3
                · exact fun e => (HC.out.2.1 pc e).elim HA.out.2.2.2.2.2.2.1 (fun y => by have := HA.out.2.2.2.2.2.1; omega)
                · exact fun e => (q3 pc e).elim HB.out.2.2.2.2.2.2.2.1 (fun y => by omega)
                · exact Fr.trans hw2 q2 fun q hq x => (HB.out.2.2.2.2.2.2.2.2.2.2.1 q x).elim .inr (fun y => by omega)
                · exact fun q hq => (HC.out.2.1 q hq).elim (HB.out.2.2.2.2.2.2.2.2.2.1 q) (fun y => .inr (Nat.le_trans hsz y))
                · show n - (((done.length : Nat) : Int) + 1).toNat < n - ((done.length : Nat) : Int).toNat
                  have := HB.out.1
                  omega
          · by_cases hp2 : pk = 163
            · subst hp2
              have hin := in_any b va L lim k' F' (fun q => q = br) 0xa3 (by decide) (by decide) 105 #[.pointer (some ⟨pc, 0, none⟩), .pointer (some ⟨br, 0, none⟩)] (password L lim) (RecP br) w1 HA.out.1 HA.out.2.1 (by have := HA.out.2.2.1; have := H.out.2.2.1; omega) H.out.2.2.2.1 (fun _ => rfl)
                (eats_true (eats_password H.out.2.2.2.1 H.out.2.2.2.2.1.2)) (fun v F w w' h hf => ⟨h.1, h.2.fr hf h.1⟩)
                (fun w2 F1 k2 h1 h2 h3 h4 h5 => rec2_any pc b br va L lim k2 F1 w2 h1 h2 (by have := HA.out.2.2.1; have := H.out.2.2.1; omega) H.out.2.2.2.1 H.out.2.2.2.2.1 ⟨fun x => (h5 _ x).elim HA.out.2.2.2.1.1 (fun y => absurd HA.out.2.2.2.1.2.lt (by omega)), HA.out.2.2.2.1.2.fr h4 HA.out.2.2.2.1.1⟩ HA.out.2.2.2.2.1 ((h4.cell (p := ⟨pc, 0, none⟩) HA.out.2.2.2.2.2.1 HA.out.2.2.2.2.2.2.1).trans HA.out.2.2.2.2.2.2.2))
              rw [show ((0xa3 : UInt8).toNat) = 163 from rfl] at hin
              have HIN := Px.hid hin
              have hrec : recip L lim k' = inn L 163 (password L lim) k' := by
                unfold recip
                rw [if_neg (fun e => hp (hpk.trans e)), if_pos hpk.symm]
              have HRC := Px.hid hrec
              clear hp hin hrec hpk
              go_wp2_with fail
              refine HIN.out.mono ?_
              intro e w2 hT
              rw [← HRC.out] at hT
              cases hk : recip L lim k' with
              | error en =>
                rw [hk] at hT
                have HI2 := Px.hid (HRM.out.trans (ahead_err hk))
                obtain ⟨⟨v, rfl, fb, rfl, hb⟩, hs⟩ := hT
                have HE := Px.hid (And.intro hb hs)
                clear hb hs hk HIN
                go_wp2
                go_ret
                rw [HI2.out]
                exact ⟨⟨_, rfl, fb, rfl, HE.out.1⟩, far_end HB.out.2.2.2.2.2.2.2.2.1 HB.out.2.2.2.2.2.2.2.2.2.1 HS1.out (by have := HA0.out.1; have := HB.out.2.2.2.2.2.2.2.2.1.size; omega) HE.out.2⟩
              | ok q =>
                obtain ⟨rr, k1⟩ := q
                rw [hk] at hT
                have HI2 := Px.hid (HRM.out.trans (ahead_step hk))
                obtain ⟨rfl, ⟨F1, hcu2, hfs1, hrp⟩, hfr2⟩ := hT
                have HL := Px.hid (eats_len (eats_recip H.out.2.2.2.1 H.out.2.2.2.2.1.2) hk HA.out.2.1)
                have HC := Px.hid (And.intro hcu2 (And.intro hfs1 (And.intro hrp hfr2)))
                have hew2 : EnvW w2 F1 be { x with «to» := done } vto' := by
                  have h1 := HB.out.2.2.2.2.1.keep (HS1.out.fr F') (fresh_refl _ F')
                  have hnb : ¬ envFoot be vto' br := fun e => by have := HB.out.2.2.2.2.1.lt br e; have := HA0.out.1; omega
                  have hbl : ∀ q, envFoot be vto' q → ¬ (F' q ∨ q = br) := fun q hq e => e.elim (h1.nf q hq) (fun e2 => hnb (by rw [← e2]; exact hq))
                  exact ⟨Blk.fr h1.eb HC.out.2.2.2 (hbl be (.inl rfl)), h1.own.fr HC.out.2.2.2 (fun q e => hbl q (.inr e)), fun q hq e => (HC.out.2.1 q e).elim (h1.nf q hq) (fun y => by have := h1.lt q hq; omega), h1.ap⟩
                have k2 := Blk.cell hew2.eb 2 rfl
                have kf := Blk.free hew2.eb 2
                have hbe := Blk.lt hew2.eb
                have hbr2 := hrp.2.lt
                have r0 : w2.cell? ⟨br, 0, none⟩ = some (.int .i64 rr.way) := hrp.2.cell 0 rfl
                have r1 : w2.cell? ⟨br, 1, none⟩ = some (.int .i64 rr.size) := hrp.2.cell 1 rfl
                have r2 : w2.cell? ⟨br, 2, none⟩ = some (.int .i64 rr.kind) := hrp.2.cell 2 rfl
                have r3 : w2.cell? ⟨br, 3, none⟩ = some (S rr.name) := hrp.2.cell 3 rfl
                have r4 : w2.cell? ⟨br, 4, none⟩ = some (S rr.key) := hrp.2.cell 4 rfl
                have r5 : w2.cell? ⟨br, 5, none⟩ = some (S rr.salt) := hrp.2.cell 5 rfl
                have r6 : w2.cell? ⟨br, 6, none⟩ = some (.int .i64 rr.rounds) := hrp.2.cell 6 rfl
                have r7 : w2.cell? ⟨br, 7, none⟩ = some (S rr.iv) := hrp.2.cell 7 rfl
                have r8 : w2.cell? ⟨br, 8, none⟩ = some (S rr.loose) := hrp.2.cell 8 rfl
                have c3 : w2.cell? ⟨pc, 0, none⟩ = some (.pointer (some ⟨b, 0, none⟩)) := (HC.out.2.2.2.cell (p := ⟨pc, 0, none⟩) HA.out.2.2.2.2.2.1 (fun e => e.elim HA.out.2.2.2.2.2.2.1 (fun e2 => by have := HA0.out.1; have := HP0.out; simp only at e2; omega))).trans HA.out.2.2.2.2.2.2.2
                have hvl := hew2.own.len
                obtain ⟨la, lc, hvl1, hlc1, hlc2, _⟩ := hvl
                have HEW := Px.hid hew2
                obtain ⟨i0, hi0, hz0, hz1, hz2⟩ := info_parts Tryz.infoRec
                unfold maxLen at hlc2
                obtain ⟨m9, hm9⟩ : ∃ m9, m9 = done.length := ⟨_, rfl⟩
                have hown : w2.ownsRow 0 78 9 vto' m9 (done.flatMap cRec) := by
                  have := hew2.own
                  unfold Owns at this
                  rw [hm9]
                  exact this
                have HO := Px.hid hown
                have hm8 : m9 ≤ 7 := by have := HB.out.1; omega
                have LB := hew2.ap.ne
                have HM9 := Px.hid hm9
                clear hcu2 hfs1 hrp hfr2 hk c1 hew2 HIN hown hvl1 hlc1 hlc2 hm9
                go_upto_region 23 with fail
                go_region_law
                  ((refine step_append_lies _ (by rfl) _ _ _ (by rfl) 0 78 i0 _ 9 112 Tryz.underlying25 hi0 hz0 hz1 hz2 rfl (by omega) vto' m9 (done.flatMap cRec) (by rfl) (World.ownsRow.alloc HO.out _)
                        ⟨w2.heap.size, 0, none⟩ 1 1 (cRec rr) (by rfl) (by rfl) (World.news_of_block (cs := (cRec rr).toArray) (t := 78) (fr := (0, 0)) (heap_alloc_new w2 _)) (by simp [cRec, Value.oneCell'])
                        (by omega) (by unfold maxLen; omega) (by omega) (by simp) (w2.heap.size + 1) (by simp) ?_; intro gg cap w3 hown1 hgrow hat hlt; have k4 := grown_cell hgrow k2 LB; have e4 := grown_free hgrow k2 kf LB))
                all_goals
                  go_wp2_with fail
                  have hm := HM9.out
                  subst hm
                  obtain ⟨q1, q2, q3⟩ := HEW.out.push (fun q hq => HC.out.1.lt q hq) hown1 hgrow (hat.imp id (fun e => by omega)) rfl
                  have l3 := World.block_lt_of_cell? _ _ c3
                  simp only at l3
                  have hw2 := far_end HB.out.2.2.2.2.2.2.2.2.1 HB.out.2.2.2.2.2.2.2.2.2.1 HS1.out (by have := HA0.out.1; have := HB.out.2.2.2.2.2.2.2.2.1.size; omega) HC.out.2.2.2
                  have hsz : w.heap.size ≤ w1.heap.size := Nat.le_trans HB.out.2.2.2.2.2.2.2.2.1.size HS1.out.size
                  refine ⟨⟨m, done ++ [rr], k1, F1, _, ?_, ?_, ?_, HL.out.1, HL.out.2.trans HB.out.2.2.2.1, q1, ?_, ?_, ?_, ?_, ?_, fresh_chain hw2 HB.out.2.2.2.2.2.2.2.2.2.2.1 q3, HI2.out⟩, ?_⟩
                  · rw [List.length_append, List.length_singleton]
                    have := HB.out.1
                    omega
                  · rw [List.length_append]
                    rfl
                  · exact HC.out.1.fr q2 (fun q hq e => HEW.out.nf q e hq) (fun q hq e => (HB.out.2.2.2.2.2.2.2.2.2.2.1 q e).elim (H.out.2.2.2.2.2.2.2 q hq) (fun y => by have := H.out.1.va q hq; omega))
                  · exact (q2.cell (p := ⟨pc, 0, none⟩) l3 HB.out.2.2.2.2.2.2.2.1).trans c3
                  · exact fun e => (HC.out.2.1 pc e).elim HA.out.2.2.2.2.2.2.1 (fun y => by have := HA.out.2.2.2.2.2.1; omega)
                  · exact fun e => (q3 pc e).elim HB.out.2.2.2.2.2.2.2.1 (fun y => by omega)
                  · exact Fr.trans hw2 q2 fun q hq x => (HB.out.2.2.2.2.2.2.2.2.2.2.1 q x).elim .inr (fun y => by omega)
                  · exact fun q hq => (HC.out.2.1 q hq).elim (HB.out.2.2.2.2.2.2.2.2.2.1 q) (fun y => .inr (Nat.le_trans hsz y))
                  · show n - (((done.length : Nat) : Int) + 1).toNat < n - ((done.length : Nat) : Int).toNat
                    have := HB.out.1
                    omega
            · by_cases hp3 : pk = 48 ∨ pk = 161 ∨ pk = 164
              · rcases hp3 with hp3 | hp3 | hp3
                · have t162 : (((pk : Nat) : Int) == 162) = false := beq_eq_false_iff_ne.2 (by omega)
                  have t163 : (((pk : Nat) : Int) == 163) = false := beq_eq_false_iff_ne.2 (by omega)
                  have t48 : (((pk : Nat) : Int) == 48) = true := by rw [beq_iff_eq]; omega
                  have hrec : recip L lim k' = .error 11 := by
                    unfold recip
                    rw [if_neg (fun e => hp (hpk.trans e)), if_neg (fun e => hp2 (hpk.trans e)), if_pos (by rw [← hpk]; omega)]
                  have HI2 := Px.hid (HRM.out.trans (ahead_err hrec))
                  clear hrec hp hpk
                  go_wp2_with fail
                  refine (wrong_any 11 _).mono ?_
                  rintro e w2 ⟨v, rfl, ⟨fb, rfl, he⟩, hs⟩
                  have HE := Px.hid (And.intro he hs)
                  clear he hs
                  go_wp2
                  go_ret
                  rw [HI2.out]
                  exact ⟨⟨_, rfl, fb, rfl, HE.out.1⟩, far_end HB.out.2.2.2.2.2.2.2.2.1 HB.out.2.2.2.2.2.2.2.2.2.1 HS1.out (by have := HA0.out.1; have := HB.out.2.2.2.2.2.2.2.2.1.size; omega) (HE.out.2.fr _)⟩
                · have t162 : (((pk : Nat) : Int) == 162) = false := beq_eq_false_iff_ne.2 (by omega)
                  have t163 : (((pk : Nat) : Int) == 163) = false := beq_eq_false_iff_ne.2 (by omega)
                  have t48 : (((pk : Nat) : Int) == 48) = false := beq_eq_false_iff_ne.2 (by omega)
                  have t161 : (((pk : Nat) : Int) == 161) = true := by rw [beq_iff_eq]; omega
                  have hrec : recip L lim k' = .error 11 := by
                    unfold recip
                    rw [if_neg (fun e => hp (hpk.trans e)), if_neg (fun e => hp2 (hpk.trans e)), if_pos (by rw [← hpk]; omega)]
                  have HI2 := Px.hid (HRM.out.trans (ahead_err hrec))
                  clear hrec hp hpk
                  go_wp2_with fail
                  refine (wrong_any 11 _).mono ?_
                  rintro e w2 ⟨v, rfl, ⟨fb, rfl, he⟩, hs⟩
                  have HE := Px.hid (And.intro he hs)
                  clear he hs
                  go_wp2
                  go_ret
                  rw [HI2.out]
                  exact ⟨⟨_, rfl, fb, rfl, HE.out.1⟩, far_end HB.out.2.2.2.2.2.2.2.2.1 HB.out.2.2.2.2.2.2.2.2.2.1 HS1.out (by have := HA0.out.1; have := HB.out.2.2.2.2.2.2.2.2.1.size; omega) (HE.out.2.fr _)⟩
                · have t162 : (((pk : Nat) : Int) == 162) = false := beq_eq_false_iff_ne.2 (by omega)
                  have t163 : (((pk : Nat) : Int) == 163) = false := beq_eq_false_iff_ne.2 (by omega)
                  have t48 : (((pk : Nat) : Int) == 48) = false := beq_eq_false_iff_ne.2 (by omega)
                  have t161 : (((pk : Nat) : Int) == 161) = false := beq_eq_false_iff_ne.2 (by omega)
                  have t164 : (((pk : Nat) : Int) == 164) = true := by rw [beq_iff_eq]; omega
                  have hrec : recip L lim k' = .error 11 := by
                    unfold recip
                    rw [if_neg (fun e => hp (hpk.trans e)), if_neg (fun e => hp2 (hpk.trans e)), if_pos (by rw [← hpk]; omega)]
                  have HI2 := Px.hid (HRM.out.trans (ahead_err hrec))
                  clear hrec hp hpk
                  go_wp2_with fail
                  refine (wrong_any 11 _).mono ?_
                  rintro e w2 ⟨v, rfl, ⟨fb, rfl, he⟩, hs⟩
                  have HE := Px.hid (And.intro he hs)
                  clear he hs
                  go_wp2
                  go_ret
                  rw [HI2.out]
                  exact ⟨⟨_, rfl, fb, rfl, HE.out.1⟩, far_end HB.out.2.2.2.2.2.2.2.2.1 HB.out.2.2.2.2.2.2.2.2.2.1 HS1.out (by have := HA0.out.1; have := HB.out.2.2.2.2.2.2.2.2.1.size; omega) (HE.out.2.fr _)⟩
              · have t162 : (((pk : Nat) : Int) == 162) = false := beq_eq_false_iff_ne.2 (by omega)
                have t163 : (((pk : Nat) : Int) == 163) = false := beq_eq_false_iff_ne.2 (by omega)
                have t48 : (((pk : Nat) : Int) == 48) = false := beq_eq_false_iff_ne.2 (by omega)
                have t161 : (((pk : Nat) : Int) == 161) = false := beq_eq_false_iff_ne.2 (by omega)
                have t164 : (((pk : Nat) : Int) == 164) = false := beq_eq_false_iff_ne.2 (by omega)
                have hrec : recip L lim k' = .error 9 := by
                  unfold recip
                  rw [if_neg (fun e => hp (hpk.trans e)), if_neg (fun e => hp2 (hpk.trans e)), if_neg (by rw [← hpk]; exact hp3)]
                have HI2 := Px.hid (HRM.out.trans (ahead_err hrec))
                clear hrec hp hpk
                go_wp2_with fail
                refine (wrong_any 9 _).mono ?_
                rintro e w2 ⟨v, rfl, ⟨fb, rfl, he⟩, hs⟩
                have HE := Px.hid (And.intro he hs)
                clear he hs
                go_wp2
                go_ret
                rw [HI2.out]
                exact ⟨⟨_, rfl, fb, rfl, HE.out.1⟩, far_end HB.out.2.2.2.2.2.2.2.2.1 HB.out.2.2.2.2.2.2.2.2.2.1 HS1.out (by have := HA0.out.1; have := HB.out.2.2.2.2.2.2.2.2.1.size; omega) (HE.out.2.fr _)⟩
        · have hltz : ¬ ((done.length : Nat) : Int) < ((n : Nat) : Int) := by omega
          have hm0 : m = 0 := by omega
          have HE := Px.hid (And.intro hcu (And.intro hev (And.intro hfr (And.intro hfs (And.intro hfs2 (show R = .ok (done, k') by rw [hRm, hm0]; simp [recipN, ahead, ret]))))))
          clear hcu hfi hlen hev hbk hnf hne2 hfr hfs hfs2 hRm hdm hlt hm0
          go_wp2
          go_ret
          rw [HE.out.2.2.2.2.2]
          exact ⟨rfl, ⟨F', HE.out.1, HE.out.2.2.2.1, vto', HE.out.2.1, HE.out.2.2.2.2.1⟩, HE.out.2.2.1⟩
end Go.Proofs.YtpfhollohodcjaaGreatDoor
