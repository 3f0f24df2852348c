/-
  The walk over the reference's inside; its element, whole (layer 15).
-/
import Derived.Test.YtceffhkgnifmeaaDoorRgV
namespace Go.Proofs.YtceffhkgnifmeaaDoor
open Go.RowKit Go.Px Go.Px.R5

theorem bump_mid (u : List Px.Node) (t : UInt8) (i : Int) (l : List Px.Node) : R5.bump (u ++ ⟨t, i, []⟩ :: l) u.length = u ++ ⟨t, i + 1, []⟩ :: l := by
  have h1 := D5.bump_app (u ++ [⟨t, i, []⟩]) l u.length (by simp)
  rw [List.append_assoc] at h1
  have h2 := E5.bump_last u ⟨t, i, []⟩
  rw [h2, List.append_assoc] at h1
  exact h1
/-- How far the elements of one have come. -/
structure Ins (s : Bytes) (lim : Lim) (d e : Nat) (t : UInt8) (x x1 : St) (at0 : Nat) (b : Nat) (F : Nat → Prop) (w wr : World) (k : Nat) (last : Bytes) (m : Nat) (z : St) (i : Int) (l : List Px.Node) (F1 : Nat → Prop) : Prop where
  at_ : RdAt wr b s lim z F1
  fr : Fr F w wr
  fresh : Fresh w F F1
  ok : D5.Ok s lim z k
  frames : z.frames = x.frames + 1
  out : z.out = x.out ++ ⟨t, i, []⟩ :: l
  i0 : 0 ≤ i
  ik : i ≤ k
  le : k ≤ e
  fuel : e - k ≤ m
  run : R5.insideN s (fun x p => R5.elem s lim d x p (some e)) t.toNat x.out.length e (e - at0) x1 at0 [] = R5.insideN s (fun x p => R5.elem s lim d x p (some e)) t.toNat x.out.length e m z k last
theorem ins_step (s : Bytes) (lim : Lim) (d e me : Nat) (t : Nat) (m : Nat) (z : St) (k : Nat) (last : Bytes) (hk : k < e) (hm : e - k ≤ m) :
    R5.insideN s (fun x p => R5.elem s lim d x p (some e)) t me e m z k last = match R5.elem s lim d z k (some e) with
      | (none, y) => (none, y)
      | (some q, y) => if t == 49 && Op.bytesLess ((s.take q).drop k) last then (none, fault { y with out := bump y.out me } k 9) else R5.insideN s (fun x p => R5.elem s lim d x p (some e)) t me e (m - 1) { y with out := bump y.out me } q ((s.take q).drop k) := by
  obtain ⟨m', rfl⟩ : ∃ m', m = m' + 1 := ⟨m - 1, by omega⟩
  conv => lhs; unfold R5.insideN
  rw [if_pos hk, Nat.add_sub_cancel]
  rfl
theorem ins_end (s : Bytes) (rc : St → Nat → Option Nat × St) (me e t m : Nat) (z : St) (last : Bytes) : R5.insideN s rc t me e m z e last = (some e, z) := by
  cases m with
  | zero => rfl
  | succ m => unfold R5.insideN; rw [if_neg (Nat.lt_irrefl e)]
set_option maxRecDepth 100000 in
set_option maxHeartbeats 8000000 in
theorem inside_any (s : Bytes) (lim : Lim) (hs : s.length ≤ 140737488355327) (hm : lim.may = true) (d : Nat) (hE : ElemC s lim d) : InsideC s lim d := by
  intro b q0 e dp t x F w hat hok hfrm hdl hqe he5 hol
  obtain ⟨vo, h, rfl⟩ := hat
  have hmay := E5.may_of hm
  have hsz : (ByteArray.mk s.toArray).size = s.length := size_S s
  have hxl : x.out.length ≤ 1000000 := by omega
  have hdp : dp ≤ 1000 := by omega
  have hxf : x.frames ≤ 1000 := by omega
  obtain ⟨x1, hx1⟩ : ∃ x1 : St, x1 = { x with out := x.out ++ [⟨t, 0, []⟩], frames := x.frames + 1 } := ⟨_, rfl⟩
  obtain ⟨IN, hIN⟩ : ∃ IN, IN = R5.insideN s (fun x p => R5.elem s lim d x p (some e)) t.toNat x.out.length e (e - q0) x1 q0 [] := ⟨_, rfl⟩
  obtain ⟨RES, hRES⟩ : ∃ RES : Option Nat × St, RES = R5.inside s (fun x p => R5.elem s lim d x p (some e)) x t q0 e := ⟨_, rfl⟩
  have hr1 : ∀ y, IN = (none, y) → RES = (none, y) := fun y hy => by
    rw [hRES]; unfold R5.inside; rw [← hx1, ← hIN, hy]
  have hr2 : ∀ y, IN = (some e, y) → RES = (some e, { y with frames := y.frames - 1 }) := fun y hy => by
    rw [hRES]; unfold R5.inside; rw [← hx1, ← hIN, hy]
  rw [← hRES]
  obtain ⟨oa, oc, hov, _⟩ := h.out.len
  have hb : b < w.heap.size := h.rd.lt
  have c5 := h.cell5
  have f5 := h.rd.free 5
  obtain ⟨i0, hi0, hz0, hz1, hz2⟩ := info_parts Tryd.infoNode
  have HH := Px.hid (And.intro h (And.intro hok (And.intro hE (And.intro hr1 (And.intro hr2 (And.intro hIN (And.intro hx1 (And.intro hov (And.intro hdl (And.intro hfrm (And.intro hol (And.intro hm hs))))))))))))
  clear hRES hr1 hr2 hIN hx1 h hok hE hov hdl hfrm hol hm hs
  have c5b : w.cell? ⟨b, 5, none⟩ = some (.slice oa x.out.length oc) := by rw [← HH.out.2.2.2.2.2.2.2.1]; exact c5
  clear c5
  go_enter Tryd.func56, Tryd.ntmps56
  go_upto_region 2 with fail
  have c5 : w.cell? ⟨b, 5, none⟩ = some vo := HH.out.1.cell5
  clear c5b
  go_cut [] (fun wx => RAfter w wx b s lim x ⟨t, 0, []⟩ vo)
  case first =>
    go_wp2_with (at_builtin; go_must (refine wpList_append_lies _ rfl _ _ _ rfl 0 63 i0 _ 3 32 Tryd.underlying25 hi0 hz0 hz1 hz2 rfl (by omega) vo x.out.length (x.out.flatMap cNode) rfl (HH.out.1.out.alloc _) ⟨w.heap.size, 0, none⟩ 1 1 (cNode ⟨t, 0, []⟩) rfl rfl (World.news_of_block (cs := #[.int .u8 t.toNat, .int .i64 0, .string ⟨#[]⟩]) (t := 63) (fr := (0, 0)) (heap_alloc_new w _)) (by simp [cNode, Value.oneCell']) (by omega) (by unfold maxLen; omega) (by omega) (by omega) (w.heap.size + 1) (by simp) ?_))
    intro gg cap w1x hown1 hgrow hat hlt
    have k5 := grown_cell1 hgrow c5 HH.out.1.ob.ne
    have e5 := grown_free1 hgrow c5 f5 HH.out.1.ob.ne
    go_wp2_with fail
    go_meet
    exact HH.out.1.afterOut hown1 (grown_alloc1 hgrow) (hat.elim .inl (fun e => .inr (by omega)))
  case rest =>
    obtain ⟨vo', hy, hyf, hyn⟩ := hcut
    have HY := Px.hid (And.intro hy (And.intro hyf hyn))
    clear hy hyf hyn c5 f5
    obtain ⟨_, _, _, _, _, _, _, c9, _⟩ := HY.out.1.rd.cells
    have f9 := HY.out.1.rd.free 9
    have hzz := HY.out.1.rd.setFrames (x.frames + 1)
    have en : ((x.frames + 1 : Nat) : Int) = (x.frames : Int) + 1 := by omega
    rw [en] at hzz
    have hzf : Fr (It b) wc (wc.setCell ⟨b, 9, none⟩ (.int .i64 ((x.frames : Int) + 1))) := It.set _
    have HZ := Px.hid (show Ins s lim d e t x x1 q0 b (rfoot b vo) w (wc.setCell ⟨b, 9, none⟩ (.int .i64 ((x.frames : Int) + 1))) q0 [] (e - q0) x1 0 [] (rfoot b vo') from by
      have hx1 := HH.out.2.2.2.2.2.2.1
      have hok := HH.out.2.1
      have hol := HH.out.2.2.2.2.2.2.2.2.2.2.1
      refine ⟨⟨vo', by rw [hx1]; exact HY.out.1.step hzz hzf rfl, rfl⟩, HY.out.2.1.step HY.out.2.2 (It.foot hzf), HY.out.2.2, ?_, by rw [hx1], by rw [hx1], Int.le_refl _, by omega, hqe, Nat.le_refl _, rfl⟩
      rw [hx1]
      exact ⟨hok.ps, hok.pb, hok.taken, by show ((x.out ++ [_]).length : Int) ≤ lim.i; rw [List.length_append]; simp only [List.length_cons, List.length_nil]; omega⟩)
    clear hzz hzf en HY
    go_wp2
    clear c9 f9
    go_loopw [2, 13] (fun aa ll wr => ∃ (k m : Nat) (last : Bytes) (z : St) (i : Int) (l : List Px.Node) (F1 : Nat → Prop), k ≤ e ∧ aa = .int .i64 (k : Nat) ∧ ll = S last ∧ Hid (Ins s lim d e t x x1 q0 b (rfoot b vo) w wr k last m z i l F1)) (fun aa _ _ => e - (intOf aa).toNat)
    case atStart => exact ⟨q0, _, [], x1, 0, [], _, hqe, rfl, rfl, HZ⟩
    case round =>
      clear HZ
      obtain ⟨k, m, last, z, i, l, F1, hke, rfl, rfl, HR⟩ := hrel
      by_cases hlt : k < e
      · have hltz : (k : Int) < (e : Int) := by omega
        have hst := ins_step s lim d e x.out.length t.toNat m z k last hlt HR.out.fuel
        have hcall := HH.out.2.2.1 b k (dp + 1) z (some e) F1 wr HR.out.at_ HR.out.ok (by have := HR.out.frames; have := HH.out.2.2.2.2.2.2.2.2.2.1; omega) (by have := HH.out.2.2.2.2.2.2.2.2.1; omega) (fun v hv => by cases hv; exact he5)
        rw [show ((dp + 1 : Nat) : Int) = (dp : Int) + 1 by omega, show endI (some e) = (e : Int) from rfl] at hcall
        have HC := Px.hid hcall
        clear hcall
        go_wp2_with fail
        refine HC.out.mono ?_
        rintro r w2 ⟨rfl, hd⟩
        cases hr : R5.elem s lim d z k (some e) with
        | mk o z2 =>
          rw [hr] at hd hst
          cases o with
          | none =>
            have HE2 := Px.hid (HH.out.2.2.2.1 z2 (HH.out.2.2.2.2.2.1.trans (HR.out.run.trans hst)))
            have HDD := Px.hid (Did.trans HR.out.fr HR.out.fresh hd)
            clear hr hd hst HC
            unfold itemV
            go_wp2
            go_ret2
            rw [HE2.out]
            exact ⟨rfl, HDD.out⟩
          | some q =>
            obtain ⟨l2, hsn⟩ := E5.elem_sound s lim d z z2 k q (some e) HR.out.ok hr
            have hfr2 := elem_frames s lim d z z2 k q (some e) HR.out.ok hr
            have hout2 : z2.out = x.out ++ ⟨t, i, []⟩ :: (l ++ l2) := by rw [hsn.out, HR.out.out, List.append_assoc, List.cons_append]
            have hqe2 : q ≤ e := hsn.le e rfl
            have hkq : k < q := hsn.lt
            have hqs : q ≤ s.length := hsn.ok.ps
            have hme : z2.out[x.out.length]? = some ⟨t, i, []⟩ := by rw [hout2]; simp
            obtain ⟨F2, ⟨vo2, hrp, rfl⟩, d2, d3⟩ := hd
            obtain ⟨go, capo, hvo2, ho1, ho2, kk, kfo⟩ := hrp.kids hme
            have hml : (x.out.length : Int) < (z2.out.length : Int) := by rw [hout2, List.length_append, List.length_cons]; omega
            have hbz : R5.bump z2.out x.out.length = x.out ++ ⟨t, i + 1, []⟩ :: (l ++ l2) := by rw [hout2]; exact bump_mid _ _ _ _
            have hqb : (q : Int) ≤ lim.b := hsn.ok.pb
            have hik := HR.out.ik
            have hi0' := HR.out.i0
            have hqk : q ≤ 262144 := by omega
            have hwk : IntKind.i64.wrap (i + 1) = i + 1 := IntWalk.i64_in _ ⟨by omega, by omega⟩
            have HX := Px.hid (And.intro hrp (And.intro (HR.out.fr.step HR.out.fresh d2) (And.intro (Fresh.trans HR.out.fresh HR.out.fr.size d3) (And.intro hsn (And.intro hfr2 (And.intro hout2 (And.intro hme (And.intro hvo2 hbz))))))))
            have c5 := hrp.cell5
            rw [hvo2] at c5
            simp only at kk
            clear hr hrp d2 d3 hsn hfr2 hout2 hme hvo2 hbz hqb HC
            unfold itemV
            go_upto_region 11 with fail
            go_region
            obtain ⟨w3, hw3⟩ : ∃ w3, w3 = (w2.setCell ⟨go, x.out.length * 3 + 1, none⟩ (.int .i64 (i + 1))).drew := ⟨_, rfl⟩
            rw [← hw3]
            have HX2 := Px.hid (show RdRep w3 b s lim { z2 with out := R5.bump z2.out x.out.length } vo2 ∧ Fr (rfoot b vo) w w3 from by
              have h1 := HX.out.1
              have h0 := HX.out.2.2.2.2.2.2.2.1
              rw [h0] at h1
              have h2 := (h1.bumpAt HX.out.2.2.2.2.2.2.1).drewN 1
              rw [← h0] at h2
              rw [hw3]
              refine ⟨h2, HX.out.2.1.step HX.out.2.2.1 ?_⟩
              exact ((Fr.refl (rfoot b vo2) w2).setCell (p := ⟨go, x.out.length * 3 + 1, none⟩) (.inl (.inr (by rw [h0]; rfl))) _).drew)
            clear hw3 c5 kk kfo hwk
            have c0 := HX2.out.1.rd.cells.1
            have hslc := fun w => slice_S s k q (Nat.le_of_lt hkq) hqs w
            obtain ⟨key, hkey⟩ : ∃ key, key = (s.take q).drop k := ⟨_, rfl⟩
            rw [← hkey] at hslc hst
            clear hkey
            have hq : ((((t.toNat : Int) == 49) = true ∧ Op.bytesLess key last = true) ∧ (t.toNat == 49 && Op.bytesLess key last) = true) ∨ (((((t.toNat : Int) == 49) = true ∧ Op.bytesLess key last = false) ∨ ((t.toNat : Int) == 49) = false) ∧ ¬ (t.toNat == 49 && Op.bytesLess key last) = true) := by
              by_cases e1 : t.toNat = 49
              · have b1 : ((t.toNat : Int) == 49) = true := beq_iff_eq.2 (by omega)
                cases e2 : Op.bytesLess key last with
                | true => exact .inl ⟨⟨b1, rfl⟩, by rw [beq_iff_eq.2 e1]; rfl⟩
                | false => exact .inr ⟨.inl ⟨b1, rfl⟩, by simp⟩
              · exact .inr ⟨.inr (beq_eq_false_iff_ne.2 (by omega)), by simp [e1]⟩
            rcases hq with ⟨⟨q1, q2⟩, q3⟩ | ⟨q1, q3⟩
            · rw [if_pos q3] at hst
              have HE2 := Px.hid (HH.out.2.2.2.1 _ (HH.out.2.2.2.2.2.1.trans (HR.out.run.trans hst)))
              clear hst q3
              go_wp2_with fail
              refine (rfault_any b _ k 9 s lim _ vo2 [] _ HX2.out.1.rd).mono ?_
              rintro r wf ⟨rfl, hrf, hf⟩
              have HF := Px.hid (And.intro (HX2.out.1.step hrf hf rfl) (HX2.out.2.step HX.out.2.2.1 (It.foot hf)))
              clear hrf hf
              go_wp2
              go_ret2
              rw [HE2.out]
              exact ⟨rfl, _, ⟨vo2, HF.out.1, rfl⟩, HF.out.2, HX.out.2.2.1⟩
            · rw [if_neg q3] at hst
              have HI := Px.hid (show Ins s lim d e t x x1 q0 b (rfoot b vo) w w3 q key (m - 1) { z2 with out := R5.bump z2.out x.out.length } (i + 1) (l ++ l2) (rfoot b vo2) from by
                have hsn := HX.out.2.2.2.1
                refine ⟨⟨vo2, HX2.out.1, rfl⟩, HX2.out.2, HX.out.2.2.1, ⟨hsn.ok.ps, hsn.ok.pb, hsn.ok.taken, ?_⟩, HX.out.2.2.2.2.1.trans HR.out.frames, HX.out.2.2.2.2.2.2.2.2, by omega, by omega, hqe2, by have := HR.out.fuel; omega, HR.out.run.trans hst⟩
                have := hsn.ok.out
                show ((R5.bump z2.out x.out.length).length : Int) ≤ lim.i
                rw [D5.bump_len]; exact this)
              clear hst q3
              rcases q1 with ⟨q1, q2⟩ | q1
              all_goals
                go_wp2
                go_roundw
                case rel => exact ⟨q, m - 1, key, _, _, _, _, hqe2, rfl, rfl, HI⟩
                case measure => simp [intOf]; omega
      · have hltz : ¬ (k : Int) < (e : Int) := by omega
        obtain rfl : k = e := by omega
        have hend := ins_end s (fun x p => R5.elem s lim d x p (some k)) x.out.length k t.toNat m z last
        have HE2 := Px.hid (HH.out.2.2.2.2.1 z (HH.out.2.2.2.2.2.1.trans (HR.out.run.trans hend)))
        obtain ⟨F1, ⟨vo1, hrp, rfl⟩, hfr1, hfs1⟩ : Did w b s lim (rfoot b vo) z wr := ⟨F1, HR.out.at_, HR.out.fr, HR.out.fresh⟩
        obtain ⟨_, _, _, _, _, _, _, c9, _⟩ := hrp.rd.cells
        rw [HR.out.frames] at c9
        have f9 := hrp.rd.free 9
        have en : ((x.frames + 1 : Nat) : Int) = (x.frames : Int) + 1 := by omega
        rw [en] at c9
        have hzz := hrp.rd.setFrames x.frames
        have hzf : Fr (It b) wr (wr.setCell ⟨b, 9, none⟩ (.int .i64 (x.frames : Nat))) := It.set _
        have HF := Px.hid (And.intro (hrp.step hzz hzf rfl) (And.intro (hfr1.step hfs1 (It.foot hzf)) hfs1))
        clear hend hrp hfr1 hfs1 hzz hzf en hlt
        go_wp2
        go_ret2
        rw [HE2.out]
        refine ⟨rfl, _, ⟨vo1, ?_, rfl⟩, HF.out.2.1, HF.out.2.2⟩
        have hf := HR.out.frames
        show RdRep _ b s lim { z with frames := z.frames - 1 } vo1
        rw [hf, Nat.add_sub_cancel]
        exact HF.out.1
end Go.Proofs.YtceffhkgnifmeaaDoor
