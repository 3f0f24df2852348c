/-
  Several texts in one: The walk over der's begin where an element with elements is begun.
-/
import Derived.Test.YtpfhollohodcjaaGreatDoorXL
/-! The walk over der's begin where an element with elements is begun. -/
namespace Go.Proofs.YtpfhollohodcjaaGreatDoor
open Go.RowKit Go.Px

set_option maxRecDepth 100000 in
set_option maxHeartbeats 4000000 in
theorem begin_push_n (s : Bytes) (lim : Lim) (b : Nat) (x : D5.Dx) (vs vo : Value) (w : World) (h : DrRep w b s lim x vs vo) (hx : x.at_ ≤ 262144) (hok : DOk s lim x) (t : UInt8) (hc : D5.want s lim x.at_ = .ok t.toNat) (hi : ¬ (x.out.length : Int) = lim.i) (ht : R5.tagE t.toNat = 0) (hin : R5.inner t.toNat = true) (hd : ¬ (x.stack.length : Int) = lim.d) (n q : Nat) (hl : D5.length s lim (x.at_ + 1) = .ok (n, q)) (hst : x.stack = []) :
    Calls Tryz.prog 101 #[.pointer (some ⟨b, 0, none⟩)] w fun r w' => BegPost w b s lim (dfoot b vs vo) (.ok { at_ := q, stack := ⟨t, x.at_, q + n, x.out.length, []⟩ :: x.stack, out := D5.bumpTop x.out x.stack ++ [⟨t, 0, []⟩] }) r w' := by
  have hqb : q ≤ 262144 ∧ n < 4294967296 := by
    have h1 := length_place hl
    have h2 := hok.may
    simp only [Lim.may, Bool.and_eq_true, decide_eq_true_eq] at h2
    omega
  have hcb := (want_place hc).2.2.1
  have HW := Px.hid (dwant_yes b x.at_ s lim x vs vo w h t.toNat hc)
  have HH := Px.hid h
  have c5 := h.cells.2.2.2.2.1
  obtain ⟨oa, oc, hov, _⟩ := h.out.len
  have HOV := Px.hid hov
  obtain ⟨sa, sc, hsv⟩ := h.stackLen
  have HSV := Px.hid hsv
  have HOK := Px.hid hok
  have hol := hok.ol
  have hsl := hok.sl
  clear h hc hov hsv hok
  have hib : ((x.out.length : Int) == lim.i) = false := beq_eq_false_iff_ne.2 hi
  have HT := Px.hid ht
  have HL := Px.hid hl
  have HST := Px.hid hst
  have hdb : ((x.stack.length : Int) == lim.d) = false := beq_eq_false_iff_ne.2 hd
  clear hd
  have hbt := bit32_t t.toNat hcb hin
  have hq1 := hqb.1
  have hn1 := hqb.2
  clear hi ht hin hl hst hqb
  go_enter Tryz.func101, Tryz.ntmps101
  go_wp2_with fail
  refine HW.out.mono ?_
  rintro r w1 ⟨rfl, hs1⟩
  have HR := Px.hid (And.intro (HH.out.same hs1) (hs1.fr (dfoot b vs vo)))
  clear hs1 c5
  have c2 := HR.out.1.cells.2.2.1
  have c7 := HR.out.1.cells.2.2.2.2.2.2
  rw [HOV.out] at c7
  go_wp2_with fail
  go_quiet (fail)
  obtain ⟨w2, hw2⟩ : ∃ w2, w2 = w1.drewN nq := ⟨_, rfl⟩
  rw [← hw2]
  have HR2 := Px.hid (show DrRep w2 b s lim x vs vo ∧ Fr (dfoot b vs vo) w w2 from by rw [hw2]; exact ⟨HR.out.1.drewN nq, HR.out.2.drewN nq⟩)
  clear hw2 c2 c7 HR
  go_wp2_with fail
  refine (tag_any t.toNat hcb _).mono ?_
  rintro r w2x ⟨rfl, hw2x⟩
  subst hw2x
  rw [HT.out]
  have c1 := HR2.out.1.cells.2.1
  have c6 := HR2.out.1.cells.2.2.2.2.2.1
  rw [HSV.out] at c6
  go_wp2_with fail
  go_region
  obtain ⟨w3, hw3⟩ : ∃ w3, w3 = w2.drew := ⟨_, rfl⟩
  rw [← hw3]
  have HR3 := Px.hid (show DrRep w3 b s lim x vs vo ∧ Fr (dfoot b vs vo) w w3 from by rw [hw3]; exact ⟨HR2.out.1.drewN 1, HR2.out.2.drew⟩)
  clear hw3 c1 c6 HR2
  have c5 := HR3.out.1.cells.2.2.2.2.1
  have f5 := HR3.out.1.free 5
  have ep1 : ((x.at_ + 1 : Nat) : Int) = (x.at_ : Int) + 1 := by omega
  have hmv := HR3.out.1.move (x.at_ + 1)
  rw [ep1] at hmv
  have HMV := Px.hid (And.intro hmv (HR3.out.2.setCell (p := ⟨b, 5, none⟩) (.inl (.inl rfl)) (.int .i64 ((x.at_ : Int) + 1))))
  clear hmv
  go_wp2_with fail
  refine (length_any b s lim _ vs vo _ HMV.out.1 (show x.at_ + 1 ≤ 1000000 by omega)).mono ?_
  intro r w4 hpost
  unfold LenPost at hpost
  rw [show D5.length s lim ({ x with at_ := x.at_ + 1 } : D5.Dx).at_ = .ok (n, q) from HL.out] at hpost
  obtain ⟨rfl, hrep, hf⟩ := hpost
  have HX := Px.hid (show DrRep w4 b s lim { x with at_ := q } vs vo ∧ Fr (dfoot b vs vo) w w4 from ⟨hrep, Fr.trans HMV.out.2 (It.dfoot (vs := vs) (vo := vo) hf) (fun _ _ e => e)⟩)
  clear hrep hf HMV c5 f5
  obtain ⟨sa2, sc2, hsv2⟩ := HX.out.1.stackLen
  have c5 := HX.out.1.cells.2.2.2.2.1
  have c6 := HX.out.1.cells.2.2.2.2.2.1
  simp only at c5
  rw [hsv2, show ({ x with at_ := q } : D5.Dx).stack = [] from HST.out] at c6
  clear hsv2
  go_upto_region 18 with fail
  obtain ⟨w5, hw5⟩ : ∃ w5, w5 = w4 := ⟨_, rfl⟩
  rw [← hw5]
  obtain ⟨O, hO⟩ : ∃ O, O = x.out := ⟨_, rfl⟩
  have hOl : O.length = x.out.length := by rw [hO]
  have hOb : O.length ≤ 1000000 := by rw [hOl]; exact hol
  have HOL := Px.hid hOl
  clear hOl
  have HO := Px.hid (show D5.bumpTop x.out x.stack = O from by rw [HST.out, hO]; rfl)
  have HZ := Px.hid (show DrRep w5 b s lim { x with at_ := q, out := O } vs vo ∧ Fr (dfoot b vs vo) w w5 from by rw [hw5, hO]; exact HX.out)
  clear hw5 HX c5 c6 hO
  obtain ⟨sa3, sc3, hsv3⟩ := HZ.out.1.stackLen
  obtain ⟨oa3, oc3, hov3, _⟩ := HZ.out.1.out.len
  simp only at hov3
  have HVS := Px.hid (And.intro hsv3 hov3)
  have c6 := HZ.out.1.cells.2.2.2.2.2.1
  have c7 := HZ.out.1.cells.2.2.2.2.2.2
  rw [hov3] at c7
  have f6 := HZ.out.1.free 6
  have hbl : b < w5.heap.size := HZ.out.1.lt
  have hxz : (x.at_ : Int) ≤ 262144 := by omega
  have hsum : (q : Int) + n = ((q + n : Nat) : Int) := by omega
  have hwn : IntKind.i64.wrap ((q : Int) + n) = (q : Int) + n := IntWalk.i64_in _ ⟨by omega, by omega⟩
  clear hsv3 hov3
  have HSUM := Px.hid hsum
  clear hsum
  obtain ⟨j0, hj0, hy0, hy1, hy2⟩ := info_parts Tryz.infoFm5
  have HS := Px.hid (show w5.ownsRow 0 165 5 vs x.stack.length (x.stack.reverse.flatMap cFm5) by have := HZ.out.1.stack; unfold Owns at this; rw [List.length_reverse] at this; exact this)
  go_upto_region 19 with fail
  go_cut [] (fun wx => DPush w5 wx b s lim { x with at_ := q, out := O } ⟨t, x.at_, q + n, O.length, []⟩ vs vo)
  case first =>
    go_region_law
      ((refine step_append_lies _ (by rfl) _ _ _ (by rfl) 0 165 j0 _ 5 48 Tryz.underlying106 hj0 hy0 hy1 hy2 rfl (by omega) vs x.stack.length (x.stack.reverse.flatMap cFm5) (by rfl) ((HS.out.alloc _).drew) ⟨w5.heap.size, 0, none⟩ 1 1 (cFm5 ⟨t, x.at_, q + n, O.length, []⟩) (by rfl) (by rfl) (World.news_of_block (cs := #[.int .u8 t.toNat, .int .i64 (x.at_ : Nat), .int .i64 ((q + n : Nat) : Int), .int .i64 (O.length : Nat), .string ⟨#[]⟩]) (t := 165) (fr := (0, 0)) (by rw [← HSUM.out]; exact heap_alloc_new w5 _)) (by simp [cFm5, Value.oneCell']) (by omega) (by unfold maxLen; omega) (by omega) (by simp) (w5.heap.size + 1) (by simp) ?_; intro gg cap w1x hown1 hgrow hat hlt; have k6 := grown_cell hgrow c6 HZ.out.1.sb.ne; have e6 := grown_free hgrow c6 f6 HZ.out.1.sb.ne))
    all_goals (go_wp2_with fail; go_meet; exact HZ.out.1.afterPush hown1 (grown_alloc hgrow) (hat.elim .inl (fun e => .inr (by omega))))
  case rest =>
    obtain ⟨vs', hy, hyf, hyn⟩ := hcut
    have HY := Px.hid (And.intro hy (And.intro hyf hyn))
    clear hy hyf hyn c6 c7 f6 hwn
    have hb2 : b < wc.heap.size := HY.out.1.lt
    have c7 := HY.out.1.cells.2.2.2.2.2.2
    have f7 := HY.out.1.free 7
    obtain ⟨i0, hi0, hz0, hz1, hz2⟩ := info_parts Tryz.infoNode
    have HOW := Px.hid (show wc.ownsRow 0 90 3 vo O.length (O.flatMap cNode) from HY.out.1.out)
    go_upto_region 20 with fail
    go_wp2_with (at_builtin; go_must (refine wpList_append_lies _ rfl _ _ _ rfl 0 90 i0 _ 3 32 Tryz.underlying47 hi0 hz0 hz1 hz2 rfl (by omega) vo O.length (O.flatMap cNode) rfl (HOW.out.alloc _) ⟨wc.heap.size, 0, none⟩ 1 1 (cNode ⟨t, 0, []⟩) rfl rfl (World.news_of_block (cs := #[.int .u8 t.toNat, .int .i64 0, .string ⟨#[]⟩]) (t := 90) (fr := (0, 0)) (heap_alloc_new wc _)) (by simp [cNode, Value.oneCell']) (by omega) (by unfold maxLen; omega) (by omega) (by omega) (wc.heap.size + 1) (by simp) ?_))
    intro gg cap w1x hown1 hgrow hat hlt
    have k7 := grown_cell1 hgrow c7 HY.out.1.ob.ne
    have e7 := grown_free1 hgrow c7 f7 HY.out.1.ob.ne
    go_wp2
    refine bodyPost_ret (results_none rfl _ _ _) rfl ?_
    obtain ⟨vo2, hz, hzf, hzn⟩ := HY.out.1.afterOut (a := ⟨t, 0, []⟩) hown1 (grown_alloc1 hgrow) (hat.elim .inl (fun e => .inr (by omega)))
    rw [HO.out, ← HOL.out]
    have hfA := HZ.out.2.step (Fresh.refl _ _) HY.out.2.1
    have hnA := Fresh.trans (Fresh.refl w (dfoot b vs vo)) HZ.out.2.size HY.out.2.2
    exact ⟨rfl, _, ⟨vs', vo2, hz, rfl⟩, hfA.step hnA hzf, Fresh.trans hnA hfA.size hzn⟩
set_option maxRecDepth 100000 in
set_option maxHeartbeats 4000000 in
theorem begin_push_c (s : Bytes) (lim : Lim) (b : Nat) (x : D5.Dx) (vs vo : Value) (w : World) (h : DrRep w b s lim x vs vo) (hx : x.at_ ≤ 262144) (hok : DOk s lim x) (t : UInt8) (hc : D5.want s lim x.at_ = .ok t.toNat) (hi : ¬ (x.out.length : Int) = lim.i) (ht : R5.tagE t.toNat = 0) (hin : R5.inner t.toNat = true) (hd : ¬ (x.stack.length : Int) = lim.d) (n q : Nat) (hl : D5.length s lim (x.at_ + 1) = .ok (n, q)) (f : D5.Fm) (rest : List D5.Fm) (hst : x.stack = f :: rest) (hv : ¬ f.end_ < q + n) :
    Calls Tryz.prog 101 #[.pointer (some ⟨b, 0, none⟩)] w fun r w' => BegPost w b s lim (dfoot b vs vo) (.ok { at_ := q, stack := ⟨t, x.at_, q + n, x.out.length, []⟩ :: x.stack, out := D5.bumpTop x.out x.stack ++ [⟨t, 0, []⟩] }) r w' := by
  have hqb : q ≤ 262144 ∧ n < 4294967296 := by
    have h1 := length_place hl
    have h2 := hok.may
    simp only [Lim.may, Bool.and_eq_true, decide_eq_true_eq] at h2
    omega
  have hfm := hok.no f (by rw [hst]; exact List.mem_cons_self)
  obtain ⟨a, ha⟩ : ∃ a, x.out[f.no]? = some a := ⟨_, List.getElem?_eq_getElem hfm.1⟩
  have hka := hok.kids a (List.mem_of_getElem? ha)
  have hcb := (want_place hc).2.2.1
  have HW := Px.hid (dwant_yes b x.at_ s lim x vs vo w h t.toNat hc)
  have HH := Px.hid h
  have c5 := h.cells.2.2.2.2.1
  obtain ⟨oa, oc, hov, _⟩ := h.out.len
  have HOV := Px.hid hov
  obtain ⟨sa, sc, hsv⟩ := h.stackLen
  have HSV := Px.hid hsv
  have HOK := Px.hid hok
  have hol := hok.ol
  have hsl := hok.sl
  clear h hc hov hsv hok
  have hib : ((x.out.length : Int) == lim.i) = false := beq_eq_false_iff_ne.2 hi
  have HT := Px.hid ht
  have HL := Px.hid hl
  have HST := Px.hid hst
  have hdb : ((x.stack.length : Int) == lim.d) = false := beq_eq_false_iff_ne.2 hd
  clear hd
  have hbt := bit32_t t.toNat hcb hin
  have hq1 := hqb.1
  have hn1 := hqb.2
  have hvz : ¬ (f.end_ : Int) < (q : Int) + n := by omega
  have HA := Px.hid (And.intro ha hka)
  have hno : (f.no : Int) < (x.out.length : Int) := by omega
  have hk1 := hka.1
  have hk2 := hka.2
  have hwk : IntKind.i64.wrap (a.kids + 1) = a.kids + 1 := IntWalk.i64_in _ ⟨by omega, by omega⟩
  clear ha hka hfm hv
  clear hi ht hin hl hst hqb
  go_enter Tryz.func101, Tryz.ntmps101
  go_wp2_with fail
  refine HW.out.mono ?_
  rintro r w1 ⟨rfl, hs1⟩
  have HR := Px.hid (And.intro (HH.out.same hs1) (hs1.fr (dfoot b vs vo)))
  clear hs1 c5
  have c2 := HR.out.1.cells.2.2.1
  have c7 := HR.out.1.cells.2.2.2.2.2.2
  rw [HOV.out] at c7
  go_wp2_with fail
  go_quiet (fail)
  obtain ⟨w2, hw2⟩ : ∃ w2, w2 = w1.drewN nq := ⟨_, rfl⟩
  rw [← hw2]
  have HR2 := Px.hid (show DrRep w2 b s lim x vs vo ∧ Fr (dfoot b vs vo) w w2 from by rw [hw2]; exact ⟨HR.out.1.drewN nq, HR.out.2.drewN nq⟩)
  clear hw2 c2 c7 HR
  go_wp2_with fail
  refine (tag_any t.toNat hcb _).mono ?_
  rintro r w2x ⟨rfl, hw2x⟩
  subst hw2x
  rw [HT.out]
  have c1 := HR2.out.1.cells.2.1
  have c6 := HR2.out.1.cells.2.2.2.2.2.1
  rw [HSV.out] at c6
  go_wp2_with fail
  go_region
  obtain ⟨w3, hw3⟩ : ∃ w3, w3 = w2.drew := ⟨_, rfl⟩
  rw [← hw3]
  have HR3 := Px.hid (show DrRep w3 b s lim x vs vo ∧ Fr (dfoot b vs vo) w w3 from by rw [hw3]; exact ⟨HR2.out.1.drewN 1, HR2.out.2.drew⟩)
  clear hw3 c1 c6 HR2
  have c5 := HR3.out.1.cells.2.2.2.2.1
  have f5 := HR3.out.1.free 5
  have ep1 : ((x.at_ + 1 : Nat) : Int) = (x.at_ : Int) + 1 := by omega
  have hmv := HR3.out.1.move (x.at_ + 1)
  rw [ep1] at hmv
  have HMV := Px.hid (And.intro hmv (HR3.out.2.setCell (p := ⟨b, 5, none⟩) (.inl (.inl rfl)) (.int .i64 ((x.at_ : Int) + 1))))
  clear hmv
  go_wp2_with fail
  refine (length_any b s lim _ vs vo _ HMV.out.1 (show x.at_ + 1 ≤ 1000000 by omega)).mono ?_
  intro r w4 hpost
  unfold LenPost at hpost
  rw [show D5.length s lim ({ x with at_ := x.at_ + 1 } : D5.Dx).at_ = .ok (n, q) from HL.out] at hpost
  obtain ⟨rfl, hrep, hf⟩ := hpost
  have HX := Px.hid (show DrRep w4 b s lim { x with at_ := q } vs vo ∧ Fr (dfoot b vs vo) w w4 from ⟨hrep, Fr.trans HMV.out.2 (It.dfoot (vs := vs) (vo := vo) hf) (fun _ _ e => e)⟩)
  clear hrep hf HMV c5 f5
  obtain ⟨g, cap', hv', hc1, hc2, k0, k1, k2, k3, k4, kf⟩ := HX.out.1.top HST.out
  obtain ⟨go, capo, hvo', ho1, ho2, kk, kfo⟩ := HX.out.1.kids (j := f.no) HA.out.1
  have c5 := HX.out.1.cells.2.2.2.2.1
  have c6 := HX.out.1.cells.2.2.2.2.2.1
  have c7 := HX.out.1.cells.2.2.2.2.2.2
  simp only at c5
  rw [hv'] at c6
  rw [hvo'] at c7
  unfold maxLen at hc2
  have hrl : rest.length ≤ 900 := by have := congrArg List.length HST.out; simp only [List.length_cons] at this; omega
  have HVV := Px.hid (And.intro hv' hvo')
  have hr1 : IntKind.i64.wrap ((rest.length : Int) + 1 - 1) = (rest.length : Int) := by rw [show (rest.length : Int) + 1 - 1 = rest.length by omega]; exact IntWalk.i64_in _ ⟨by omega, by omega⟩
  have hr2 : IntKind.i64.wrap (rest.length : Int) = (rest.length : Int) := IntWalk.i64_in _ ⟨by omega, by omega⟩
  clear hv' hvo' k0 k1 k4 kf
  go_upto_region 17 with fail
  go_region
  obtain ⟨w5, hw5⟩ : ∃ w5, w5 = (w4.setCell ⟨go, f.no * 3 + 1, none⟩ (.int .i64 (a.kids + 1))).drew := ⟨_, rfl⟩
  rw [← hw5]
  have HZ := Px.hid (show DrRep w5 b s lim { x with at_ := q, out := R5.bump x.out f.no } vs vo ∧ Fr (dfoot b vs vo) w w5 from by
    have h1 := HX.out.1
    rw [HVV.out.2] at h1
    have h2 := (h1.bumpAt (j := f.no) HA.out.1).drewN 1
    rw [← HVV.out.2] at h2
    rw [hw5]
    exact ⟨h2, (HX.out.2.setCell (p := ⟨go, f.no * 3 + 1, none⟩) (.inl (.inr (.inr (by rw [HVV.out.2]; rfl)))) _).drew⟩)
  clear hw5 HX c5 c6 c7 k2 k3 kk kfo hr1 hr2 hwk
  obtain ⟨O, hO⟩ : ∃ O, O = R5.bump x.out f.no := ⟨_, rfl⟩
  have hOl : O.length = x.out.length := by rw [hO]; unfold R5.bump; exact List.length_modify _ _ _
  have hOb : O.length ≤ 1000000 := by rw [hOl]; exact hol
  have HOL := Px.hid hOl
  clear hOl
  have HO := Px.hid (show D5.bumpTop x.out x.stack = O from by rw [HST.out, hO]; rfl)
  rw [← hO] at HZ
  clear hO
  obtain ⟨sa3, sc3, hsv3⟩ := HZ.out.1.stackLen
  obtain ⟨oa3, oc3, hov3, _⟩ := HZ.out.1.out.len
  simp only at hov3
  have HVS := Px.hid (And.intro hsv3 hov3)
  have c6 := HZ.out.1.cells.2.2.2.2.2.1
  have c7 := HZ.out.1.cells.2.2.2.2.2.2
  rw [hov3] at c7
  have f6 := HZ.out.1.free 6
  have hbl : b < w5.heap.size := HZ.out.1.lt
  have hxz : (x.at_ : Int) ≤ 262144 := by omega
  have hsum : (q : Int) + n = ((q + n : Nat) : Int) := by omega
  have hwn : IntKind.i64.wrap ((q : Int) + n) = (q : Int) + n := IntWalk.i64_in _ ⟨by omega, by omega⟩
  clear hsv3 hov3
  have HSUM := Px.hid hsum
  clear hsum
  obtain ⟨j0, hj0, hy0, hy1, hy2⟩ := info_parts Tryz.infoFm5
  have HS := Px.hid (show w5.ownsRow 0 165 5 vs x.stack.length (x.stack.reverse.flatMap cFm5) by have := HZ.out.1.stack; unfold Owns at this; rw [List.length_reverse] at this; exact this)
  go_upto_region 19 with fail
  go_cut [] (fun wx => DPush w5 wx b s lim { x with at_ := q, out := O } ⟨t, x.at_, q + n, O.length, []⟩ vs vo)
  case first =>
    go_region_law
      ((refine step_append_lies _ (by rfl) _ _ _ (by rfl) 0 165 j0 _ 5 48 Tryz.underlying106 hj0 hy0 hy1 hy2 rfl (by omega) vs x.stack.length (x.stack.reverse.flatMap cFm5) (by rfl) ((HS.out.alloc _).drew) ⟨w5.heap.size, 0, none⟩ 1 1 (cFm5 ⟨t, x.at_, q + n, O.length, []⟩) (by rfl) (by rfl) (World.news_of_block (cs := #[.int .u8 t.toNat, .int .i64 (x.at_ : Nat), .int .i64 ((q + n : Nat) : Int), .int .i64 (O.length : Nat), .string ⟨#[]⟩]) (t := 165) (fr := (0, 0)) (by rw [← HSUM.out]; exact heap_alloc_new w5 _)) (by simp [cFm5, Value.oneCell']) (by omega) (by unfold maxLen; omega) (by omega) (by simp) (w5.heap.size + 1) (by simp) ?_; intro gg cap w1x hown1 hgrow hat hlt; have k6 := grown_cell hgrow c6 HZ.out.1.sb.ne; have e6 := grown_free hgrow c6 f6 HZ.out.1.sb.ne))
    all_goals (go_wp2_with fail; go_meet; exact HZ.out.1.afterPush hown1 (grown_alloc hgrow) (hat.elim .inl (fun e => .inr (by omega))))
  case rest =>
    obtain ⟨vs', hy, hyf, hyn⟩ := hcut
    have HY := Px.hid (And.intro hy (And.intro hyf hyn))
    clear hy hyf hyn c6 c7 f6 hwn
    have hb2 : b < wc.heap.size := HY.out.1.lt
    have c7 := HY.out.1.cells.2.2.2.2.2.2
    have f7 := HY.out.1.free 7
    obtain ⟨i0, hi0, hz0, hz1, hz2⟩ := info_parts Tryz.infoNode
    have HOW := Px.hid (show wc.ownsRow 0 90 3 vo O.length (O.flatMap cNode) from HY.out.1.out)
    go_upto_region 20 with fail
    go_wp2_with (at_builtin; go_must (refine wpList_append_lies _ rfl _ _ _ rfl 0 90 i0 _ 3 32 Tryz.underlying47 hi0 hz0 hz1 hz2 rfl (by omega) vo O.length (O.flatMap cNode) rfl (HOW.out.alloc _) ⟨wc.heap.size, 0, none⟩ 1 1 (cNode ⟨t, 0, []⟩) rfl rfl (World.news_of_block (cs := #[.int .u8 t.toNat, .int .i64 0, .string ⟨#[]⟩]) (t := 90) (fr := (0, 0)) (heap_alloc_new wc _)) (by simp [cNode, Value.oneCell']) (by omega) (by unfold maxLen; omega) (by omega) (by omega) (wc.heap.size + 1) (by simp) ?_))
    intro gg cap w1x hown1 hgrow hat hlt
    have k7 := grown_cell1 hgrow c7 HY.out.1.ob.ne
    have e7 := grown_free1 hgrow c7 f7 HY.out.1.ob.ne
    go_wp2
    refine bodyPost_ret (results_none rfl _ _ _) rfl ?_
    obtain ⟨vo2, hz, hzf, hzn⟩ := HY.out.1.afterOut (a := ⟨t, 0, []⟩) hown1 (grown_alloc1 hgrow) (hat.elim .inl (fun e => .inr (by omega)))
    rw [HO.out, ← HOL.out]
    have hfA := HZ.out.2.step (Fresh.refl _ _) HY.out.2.1
    have hnA := Fresh.trans (Fresh.refl w (dfoot b vs vo)) HZ.out.2.size HY.out.2.2
    exact ⟨rfl, _, ⟨vs', vo2, hz, rfl⟩, hfA.step hnA hzf, Fresh.trans hnA hfA.size hzn⟩
end Go.Proofs.YtpfhollohodcjaaGreatDoor
