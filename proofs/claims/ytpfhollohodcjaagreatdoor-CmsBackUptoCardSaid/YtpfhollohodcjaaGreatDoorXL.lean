/-
  Several texts in one: The walk over der's begin where it fails, way by way.
-/
import Derived.Test.YtpfhollohodcjaaGreatDoorXF
/-! The walk over der's begin where it fails, way by way. -/
namespace Go.Proofs.YtpfhollohodcjaaGreatDoor
open Go.RowKit Go.Px

theorem bit32_t (t : Nat) (ht : t < 256) (h : R5.inner t = true) : bits .and .u8 (t : Int) 32 = 32 := by rw [bit32 t ht, h]; rfl
theorem bit32_f (t : Nat) (ht : t < 256) (h : R5.inner t = false) : bits .and .u8 (t : Int) 32 = 0 := by rw [bit32 t ht, h]; rfl
set_option maxRecDepth 100000 in
theorem begin_want (s : Bytes) (lim : Lim) (b : Nat) (x : D5.Dx) (vs vo : Value) (w : World) (h : DrRep w b s lim x vs vo) (e : D5.Flt) (he : D5.want s lim x.at_ = .error e) :
    Calls Tryz.prog 101 #[.pointer (some ⟨b, 0, none⟩)] w fun r w' => r = panics e ∧ Fr (dfoot b vs vo) w w' := by
  have HW := Px.hid (dwant_no b x.at_ s lim x vs vo w h e he)
  have c5 := h.cells.2.2.2.2.1
  clear he h
  go_enter Tryz.func101, Tryz.ntmps101
  go_wp2_with fail
  refine HW.out.mono ?_
  rintro r w1 ⟨rfl, hs1⟩
  have HS := Px.hid (hs1.fr (dfoot b vs vo))
  clear hs1
  unfold panics
  go_wp2
  exact ⟨rfl, rfl, HS.out⟩
set_option maxRecDepth 100000 in
set_option maxHeartbeats 4000000 in
theorem begin_full (s : Bytes) (lim : Lim) (b : Nat) (x : D5.Dx) (vs vo : Value) (w : World) (h : DrRep w b s lim x vs vo) (_hx : x.at_ ≤ 262144) (hok : DOk s lim x) (c : Nat) (hc : D5.want s lim x.at_ = .ok c) (hi : (x.out.length : Int) = lim.i) :
    Calls Tryz.prog 101 #[.pointer (some ⟨b, 0, none⟩)] w fun r w' => r = panics ((x.at_ : Int), 10) ∧ Fr (dfoot b vs vo) w w' := by
  have hcb := (want_place hc).2.2.1
  have HW := Px.hid (dwant_yes b x.at_ s lim x vs vo w h c hc)
  have HH := Px.hid h
  have c5 := h.cells.2.2.2.2.1
  obtain ⟨oa, oc, hov, _⟩ := h.out.len
  have HOV := Px.hid hov
  obtain ⟨sa, sc, hsv⟩ := h.stackLen
  have HSV := Px.hid hsv
  have HOK := Px.hid hok
  have hol := hok.ol
  have hsl := hok.sl
  clear h hc hov hsv hok
  have hib : ((x.out.length : Int) == lim.i) = true := beq_iff_eq.2 hi
  clear hi
  go_enter Tryz.func101, Tryz.ntmps101
  go_wp2_with fail
  refine HW.out.mono ?_
  rintro r w1 ⟨rfl, hs1⟩
  have HR := Px.hid (And.intro (HH.out.same hs1) (hs1.fr (dfoot b vs vo)))
  clear hs1 c5
  have c2 := HR.out.1.cells.2.2.1
  have c7 := HR.out.1.cells.2.2.2.2.2.2
  rw [HOV.out] at c7
  go_wp2_with fail
  go_quiet (fail)
  obtain ⟨w2, hw2⟩ : ∃ w2, w2 = w1.drewN nq := ⟨_, rfl⟩
  rw [← hw2]
  have HR2 := Px.hid (show DrRep w2 b s lim x vs vo ∧ Fr (dfoot b vs vo) w w2 from by rw [hw2]; exact ⟨HR.out.1.drewN nq, HR.out.2.drewN nq⟩)
  clear hw2 c2 c7 HR
  go_wp2
  exact ⟨rfl, rfl, HR2.out.2⟩
set_option maxRecDepth 100000 in
set_option maxHeartbeats 4000000 in
theorem begin_tag (s : Bytes) (lim : Lim) (b : Nat) (x : D5.Dx) (vs vo : Value) (w : World) (h : DrRep w b s lim x vs vo) (_hx : x.at_ ≤ 262144) (hok : DOk s lim x) (c : Nat) (hc : D5.want s lim x.at_ = .ok c) (hi : ¬ (x.out.length : Int) = lim.i) (ht : R5.tagE c ≠ 0) :
    Calls Tryz.prog 101 #[.pointer (some ⟨b, 0, none⟩)] w fun r w' => r = panics ((x.at_ : Int), R5.tagE c) ∧ Fr (dfoot b vs vo) w w' := by
  have hcb := (want_place hc).2.2.1
  have HW := Px.hid (dwant_yes b x.at_ s lim x vs vo w h c hc)
  have HH := Px.hid h
  have c5 := h.cells.2.2.2.2.1
  obtain ⟨oa, oc, hov, _⟩ := h.out.len
  have HOV := Px.hid hov
  obtain ⟨sa, sc, hsv⟩ := h.stackLen
  have HSV := Px.hid hsv
  have HOK := Px.hid hok
  have hol := hok.ol
  have hsl := hok.sl
  clear h hc hov hsv hok
  have hib : ((x.out.length : Int) == lim.i) = false := beq_eq_false_iff_ne.2 hi
  obtain ⟨te, hte⟩ : ∃ te, te = R5.tagE c := ⟨_, rfl⟩
  rw [← hte] at ht ⊢
  have HT := Px.hid hte.symm
  have htb : (te == 0) = false := beq_eq_false_iff_ne.2 ht
  clear hi ht hte
  go_enter Tryz.func101, Tryz.ntmps101
  go_wp2_with fail
  refine HW.out.mono ?_
  rintro r w1 ⟨rfl, hs1⟩
  have HR := Px.hid (And.intro (HH.out.same hs1) (hs1.fr (dfoot b vs vo)))
  clear hs1 c5
  have c2 := HR.out.1.cells.2.2.1
  have c7 := HR.out.1.cells.2.2.2.2.2.2
  rw [HOV.out] at c7
  go_wp2_with fail
  go_quiet (fail)
  obtain ⟨w2, hw2⟩ : ∃ w2, w2 = w1.drewN nq := ⟨_, rfl⟩
  rw [← hw2]
  have HR2 := Px.hid (show DrRep w2 b s lim x vs vo ∧ Fr (dfoot b vs vo) w w2 from by rw [hw2]; exact ⟨HR.out.1.drewN nq, HR.out.2.drewN nq⟩)
  clear hw2 c2 c7 HR
  go_wp2_with fail
  refine (tag_any c hcb _).mono ?_
  rintro r w2x ⟨rfl, hw2x⟩
  subst hw2x
  rw [HT.out]
  go_wp2
  exact ⟨rfl, rfl, HR2.out.2⟩
set_option maxRecDepth 100000 in
set_option maxHeartbeats 4000000 in
theorem begin_deep (s : Bytes) (lim : Lim) (b : Nat) (x : D5.Dx) (vs vo : Value) (w : World) (h : DrRep w b s lim x vs vo) (_hx : x.at_ ≤ 262144) (hok : DOk s lim x) (c : Nat) (hc : D5.want s lim x.at_ = .ok c) (hi : ¬ (x.out.length : Int) = lim.i) (ht : R5.tagE c = 0) (hin : R5.inner c = true) (hd : (x.stack.length : Int) = lim.d) :
    Calls Tryz.prog 101 #[.pointer (some ⟨b, 0, none⟩)] w fun r w' => r = panics ((x.at_ : Int), 10) ∧ Fr (dfoot b vs vo) w w' := by
  have hcb := (want_place hc).2.2.1
  have HW := Px.hid (dwant_yes b x.at_ s lim x vs vo w h c hc)
  have HH := Px.hid h
  have c5 := h.cells.2.2.2.2.1
  obtain ⟨oa, oc, hov, _⟩ := h.out.len
  have HOV := Px.hid hov
  obtain ⟨sa, sc, hsv⟩ := h.stackLen
  have HSV := Px.hid hsv
  have HOK := Px.hid hok
  have hol := hok.ol
  have hsl := hok.sl
  clear h hc hov hsv hok
  have hib : ((x.out.length : Int) == lim.i) = false := beq_eq_false_iff_ne.2 hi
  have HT := Px.hid ht
  have hdb : ((x.stack.length : Int) == lim.d) = true := beq_iff_eq.2 hd
  have hbt := bit32_t c hcb hin
  clear hi ht hin hd
  go_enter Tryz.func101, Tryz.ntmps101
  go_wp2_with fail
  refine HW.out.mono ?_
  rintro r w1 ⟨rfl, hs1⟩
  have HR := Px.hid (And.intro (HH.out.same hs1) (hs1.fr (dfoot b vs vo)))
  clear hs1 c5
  have c2 := HR.out.1.cells.2.2.1
  have c7 := HR.out.1.cells.2.2.2.2.2.2
  rw [HOV.out] at c7
  go_wp2_with fail
  go_quiet (fail)
  obtain ⟨w2, hw2⟩ : ∃ w2, w2 = w1.drewN nq := ⟨_, rfl⟩
  rw [← hw2]
  have HR2 := Px.hid (show DrRep w2 b s lim x vs vo ∧ Fr (dfoot b vs vo) w w2 from by rw [hw2]; exact ⟨HR.out.1.drewN nq, HR.out.2.drewN nq⟩)
  clear hw2 c2 c7 HR
  go_wp2_with fail
  refine (tag_any c hcb _).mono ?_
  rintro r w2x ⟨rfl, hw2x⟩
  subst hw2x
  rw [HT.out]
  have c1 := HR2.out.1.cells.2.1
  have c6 := HR2.out.1.cells.2.2.2.2.2.1
  rw [HSV.out] at c6
  go_wp2_with fail
  go_region
  obtain ⟨w3, hw3⟩ : ∃ w3, w3 = w2.drew := ⟨_, rfl⟩
  rw [← hw3]
  have HR3 := Px.hid (show DrRep w3 b s lim x vs vo ∧ Fr (dfoot b vs vo) w w3 from by rw [hw3]; exact ⟨HR2.out.1.drewN 1, HR2.out.2.drew⟩)
  clear hw3 c1 c6 HR2
  go_wp2
  exact ⟨rfl, rfl, HR3.out.2⟩
set_option maxRecDepth 100000 in
set_option maxHeartbeats 4000000 in
theorem begin_len_i (s : Bytes) (lim : Lim) (b : Nat) (x : D5.Dx) (vs vo : Value) (w : World) (h : DrRep w b s lim x vs vo) (hx : x.at_ ≤ 262144) (hok : DOk s lim x) (c : Nat) (hc : D5.want s lim x.at_ = .ok c) (hi : ¬ (x.out.length : Int) = lim.i) (ht : R5.tagE c = 0) (hin : R5.inner c = true) (hd : ¬ (x.stack.length : Int) = lim.d) (e : D5.Flt) (hl : D5.length s lim (x.at_ + 1) = .error e) :
    Calls Tryz.prog 101 #[.pointer (some ⟨b, 0, none⟩)] w fun r w' => r = panics e ∧ Fr (dfoot b vs vo) w w' := by
  have hcb := (want_place hc).2.2.1
  have HW := Px.hid (dwant_yes b x.at_ s lim x vs vo w h c hc)
  have HH := Px.hid h
  have c5 := h.cells.2.2.2.2.1
  obtain ⟨oa, oc, hov, _⟩ := h.out.len
  have HOV := Px.hid hov
  obtain ⟨sa, sc, hsv⟩ := h.stackLen
  have HSV := Px.hid hsv
  have HOK := Px.hid hok
  have hol := hok.ol
  have hsl := hok.sl
  clear h hc hov hsv hok
  have hib : ((x.out.length : Int) == lim.i) = false := beq_eq_false_iff_ne.2 hi
  have HT := Px.hid ht
  have HL := Px.hid hl
  have hdb : ((x.stack.length : Int) == lim.d) = false := beq_eq_false_iff_ne.2 hd
  clear hd
  have hbt := bit32_t c hcb hin
  clear hi ht hin hl
  go_enter Tryz.func101, Tryz.ntmps101
  go_wp2_with fail
  refine HW.out.mono ?_
  rintro r w1 ⟨rfl, hs1⟩
  have HR := Px.hid (And.intro (HH.out.same hs1) (hs1.fr (dfoot b vs vo)))
  clear hs1 c5
  have c2 := HR.out.1.cells.2.2.1
  have c7 := HR.out.1.cells.2.2.2.2.2.2
  rw [HOV.out] at c7
  go_wp2_with fail
  go_quiet (fail)
  obtain ⟨w2, hw2⟩ : ∃ w2, w2 = w1.drewN nq := ⟨_, rfl⟩
  rw [← hw2]
  have HR2 := Px.hid (show DrRep w2 b s lim x vs vo ∧ Fr (dfoot b vs vo) w w2 from by rw [hw2]; exact ⟨HR.out.1.drewN nq, HR.out.2.drewN nq⟩)
  clear hw2 c2 c7 HR
  go_wp2_with fail
  refine (tag_any c hcb _).mono ?_
  rintro r w2x ⟨rfl, hw2x⟩
  subst hw2x
  rw [HT.out]
  have c1 := HR2.out.1.cells.2.1
  have c6 := HR2.out.1.cells.2.2.2.2.2.1
  rw [HSV.out] at c6
  go_wp2_with fail
  go_region
  obtain ⟨w3, hw3⟩ : ∃ w3, w3 = w2.drew := ⟨_, rfl⟩
  rw [← hw3]
  have HR3 := Px.hid (show DrRep w3 b s lim x vs vo ∧ Fr (dfoot b vs vo) w w3 from by rw [hw3]; exact ⟨HR2.out.1.drewN 1, HR2.out.2.drew⟩)
  clear hw3 c1 c6 HR2
  have c5 := HR3.out.1.cells.2.2.2.2.1
  have f5 := HR3.out.1.free 5
  have ep1 : ((x.at_ + 1 : Nat) : Int) = (x.at_ : Int) + 1 := by omega
  have hmv := HR3.out.1.move (x.at_ + 1)
  rw [ep1] at hmv
  have HMV := Px.hid (And.intro hmv (HR3.out.2.setCell (p := ⟨b, 5, none⟩) (.inl (.inl rfl)) (.int .i64 ((x.at_ : Int) + 1))))
  clear hmv
  go_wp2_with fail
  refine (length_any b s lim _ vs vo _ HMV.out.1 (show x.at_ + 1 ≤ 1000000 by omega)).mono ?_
  intro r w4 hpost
  unfold LenPost at hpost
  rw [show D5.length s lim ({ x with at_ := x.at_ + 1 } : D5.Dx).at_ = .error e from HL.out] at hpost
  obtain ⟨rfl, hf⟩ := hpost
  have HF := Px.hid (Fr.trans HMV.out.2 (It.dfoot (vs := vs) (vo := vo) hf) (fun _ _ e => e))
  clear hf c5 f5
  unfold panics
  go_wp2
  exact ⟨rfl, rfl, HF.out⟩
set_option maxRecDepth 100000 in
set_option maxHeartbeats 4000000 in
theorem begin_end_i (s : Bytes) (lim : Lim) (b : Nat) (x : D5.Dx) (vs vo : Value) (w : World) (h : DrRep w b s lim x vs vo) (hx : x.at_ ≤ 262144) (hok : DOk s lim x) (c : Nat) (hc : D5.want s lim x.at_ = .ok c) (hi : ¬ (x.out.length : Int) = lim.i) (ht : R5.tagE c = 0) (hin : R5.inner c = true) (hd : ¬ (x.stack.length : Int) = lim.d) (n q : Nat) (hl : D5.length s lim (x.at_ + 1) = .ok (n, q)) (f : D5.Fm) (rest : List D5.Fm) (hst : x.stack = f :: rest) (hv : f.end_ < q + n) :
    Calls Tryz.prog 101 #[.pointer (some ⟨b, 0, none⟩)] w fun r w' => r = panics ((x.at_ : Int), 9) ∧ Fr (dfoot b vs vo) w w' := by
  have hqb : q ≤ 262144 ∧ n < 4294967296 := by
    have h1 := length_place hl
    have h2 := hok.may
    simp only [Lim.may, Bool.and_eq_true, decide_eq_true_eq] at h2
    omega
  have hcb := (want_place hc).2.2.1
  have HW := Px.hid (dwant_yes b x.at_ s lim x vs vo w h c hc)
  have HH := Px.hid h
  have c5 := h.cells.2.2.2.2.1
  obtain ⟨oa, oc, hov, _⟩ := h.out.len
  have HOV := Px.hid hov
  obtain ⟨sa, sc, hsv⟩ := h.stackLen
  have HSV := Px.hid hsv
  have HOK := Px.hid hok
  have hol := hok.ol
  have hsl := hok.sl
  clear h hc hov hsv hok
  have hib : ((x.out.length : Int) == lim.i) = false := beq_eq_false_iff_ne.2 hi
  have HT := Px.hid ht
  have HL := Px.hid hl
  have HST := Px.hid hst
  have hdb : ((x.stack.length : Int) == lim.d) = false := beq_eq_false_iff_ne.2 hd
  clear hd
  have hbt := bit32_t c hcb hin
  have hq1 := hqb.1
  have hn1 := hqb.2
  have hvz : (f.end_ : Int) < (q : Int) + n := by omega
  clear hi ht hin hl hst hqb hv
  go_enter Tryz.func101, Tryz.ntmps101
  go_wp2_with fail
  refine HW.out.mono ?_
  rintro r w1 ⟨rfl, hs1⟩
  have HR := Px.hid (And.intro (HH.out.same hs1) (hs1.fr (dfoot b vs vo)))
  clear hs1 c5
  have c2 := HR.out.1.cells.2.2.1
  have c7 := HR.out.1.cells.2.2.2.2.2.2
  rw [HOV.out] at c7
  go_wp2_with fail
  go_quiet (fail)
  obtain ⟨w2, hw2⟩ : ∃ w2, w2 = w1.drewN nq := ⟨_, rfl⟩
  rw [← hw2]
  have HR2 := Px.hid (show DrRep w2 b s lim x vs vo ∧ Fr (dfoot b vs vo) w w2 from by rw [hw2]; exact ⟨HR.out.1.drewN nq, HR.out.2.drewN nq⟩)
  clear hw2 c2 c7 HR
  go_wp2_with fail
  refine (tag_any c hcb _).mono ?_
  rintro r w2x ⟨rfl, hw2x⟩
  subst hw2x
  rw [HT.out]
  have c1 := HR2.out.1.cells.2.1
  have c6 := HR2.out.1.cells.2.2.2.2.2.1
  rw [HSV.out] at c6
  go_wp2_with fail
  go_region
  obtain ⟨w3, hw3⟩ : ∃ w3, w3 = w2.drew := ⟨_, rfl⟩
  rw [← hw3]
  have HR3 := Px.hid (show DrRep w3 b s lim x vs vo ∧ Fr (dfoot b vs vo) w w3 from by rw [hw3]; exact ⟨HR2.out.1.drewN 1, HR2.out.2.drew⟩)
  clear hw3 c1 c6 HR2
  have c5 := HR3.out.1.cells.2.2.2.2.1
  have f5 := HR3.out.1.free 5
  have ep1 : ((x.at_ + 1 : Nat) : Int) = (x.at_ : Int) + 1 := by omega
  have hmv := HR3.out.1.move (x.at_ + 1)
  rw [ep1] at hmv
  have HMV := Px.hid (And.intro hmv (HR3.out.2.setCell (p := ⟨b, 5, none⟩) (.inl (.inl rfl)) (.int .i64 ((x.at_ : Int) + 1))))
  clear hmv
  go_wp2_with fail
  refine (length_any b s lim _ vs vo _ HMV.out.1 (show x.at_ + 1 ≤ 1000000 by omega)).mono ?_
  intro r w4 hpost
  unfold LenPost at hpost
  rw [show D5.length s lim ({ x with at_ := x.at_ + 1 } : D5.Dx).at_ = .ok (n, q) from HL.out] at hpost
  obtain ⟨rfl, hrep, hf⟩ := hpost
  have HX := Px.hid (show DrRep w4 b s lim { x with at_ := q } vs vo ∧ Fr (dfoot b vs vo) w w4 from ⟨hrep, Fr.trans HMV.out.2 (It.dfoot (vs := vs) (vo := vo) hf) (fun _ _ e => e)⟩)
  clear hrep hf HMV c5 f5
  obtain ⟨g, cap', hv', hc1, hc2, k0, k1, k2, k3, k4, kf⟩ := HX.out.1.top HST.out
  have c5 := HX.out.1.cells.2.2.2.2.1
  have c6 := HX.out.1.cells.2.2.2.2.2.1
  simp only at c5
  rw [hv'] at c6
  unfold maxLen at hc2
  clear hv' k0 k1 k3 k4 kf
  go_wp2
  exact ⟨rfl, rfl, HX.out.2⟩
set_option maxRecDepth 100000 in
set_option maxHeartbeats 4000000 in
theorem begin_len_o (s : Bytes) (lim : Lim) (b : Nat) (x : D5.Dx) (vs vo : Value) (w : World) (h : DrRep w b s lim x vs vo) (hx : x.at_ ≤ 262144) (hok : DOk s lim x) (c : Nat) (hc : D5.want s lim x.at_ = .ok c) (hi : ¬ (x.out.length : Int) = lim.i) (ht : R5.tagE c = 0) (hin : R5.inner c = false) (e : D5.Flt) (hl : D5.length s lim (x.at_ + 1) = .error e) :
    Calls Tryz.prog 101 #[.pointer (some ⟨b, 0, none⟩)] w fun r w' => r = panics e ∧ Fr (dfoot b vs vo) w w' := by
  have hcb := (want_place hc).2.2.1
  have HW := Px.hid (dwant_yes b x.at_ s lim x vs vo w h c hc)
  have HH := Px.hid h
  have c5 := h.cells.2.2.2.2.1
  obtain ⟨oa, oc, hov, _⟩ := h.out.len
  have HOV := Px.hid hov
  obtain ⟨sa, sc, hsv⟩ := h.stackLen
  have HSV := Px.hid hsv
  have HOK := Px.hid hok
  have hol := hok.ol
  have hsl := hok.sl
  clear h hc hov hsv hok
  have hib : ((x.out.length : Int) == lim.i) = false := beq_eq_false_iff_ne.2 hi
  have HT := Px.hid ht
  have HL := Px.hid hl
  have hbt := bit32_f c hcb hin
  clear hi ht hin hl
  go_enter Tryz.func101, Tryz.ntmps101
  go_wp2_with fail
  refine HW.out.mono ?_
  rintro r w1 ⟨rfl, hs1⟩
  have HR := Px.hid (And.intro (HH.out.same hs1) (hs1.fr (dfoot b vs vo)))
  clear hs1 c5
  have c2 := HR.out.1.cells.2.2.1
  have c7 := HR.out.1.cells.2.2.2.2.2.2
  rw [HOV.out] at c7
  go_wp2_with fail
  go_quiet (fail)
  obtain ⟨w2, hw2⟩ : ∃ w2, w2 = w1.drewN nq := ⟨_, rfl⟩
  rw [← hw2]
  have HR2 := Px.hid (show DrRep w2 b s lim x vs vo ∧ Fr (dfoot b vs vo) w w2 from by rw [hw2]; exact ⟨HR.out.1.drewN nq, HR.out.2.drewN nq⟩)
  clear hw2 c2 c7 HR
  go_wp2_with fail
  refine (tag_any c hcb _).mono ?_
  rintro r w2x ⟨rfl, hw2x⟩
  subst hw2x
  rw [HT.out]
  go_wp2_with fail
  go_region
  obtain ⟨w3, hw3⟩ : ∃ w3, w3 = w2.drew := ⟨_, rfl⟩
  rw [← hw3]
  have HR3 := Px.hid (show DrRep w3 b s lim x vs vo ∧ Fr (dfoot b vs vo) w w3 from by rw [hw3]; exact ⟨HR2.out.1.drewN 1, HR2.out.2.drew⟩)
  clear hw3 HR2
  have c5 := HR3.out.1.cells.2.2.2.2.1
  have f5 := HR3.out.1.free 5
  have ep1 : ((x.at_ + 1 : Nat) : Int) = (x.at_ : Int) + 1 := by omega
  have hmv := HR3.out.1.move (x.at_ + 1)
  rw [ep1] at hmv
  have HMV := Px.hid (And.intro hmv (HR3.out.2.setCell (p := ⟨b, 5, none⟩) (.inl (.inl rfl)) (.int .i64 ((x.at_ : Int) + 1))))
  clear hmv
  go_wp2_with fail
  refine (length_any b s lim _ vs vo _ HMV.out.1 (show x.at_ + 1 ≤ 1000000 by omega)).mono ?_
  intro r w4 hpost
  unfold LenPost at hpost
  rw [show D5.length s lim ({ x with at_ := x.at_ + 1 } : D5.Dx).at_ = .error e from HL.out] at hpost
  obtain ⟨rfl, hf⟩ := hpost
  have HF := Px.hid (Fr.trans HMV.out.2 (It.dfoot (vs := vs) (vo := vo) hf) (fun _ _ e => e))
  clear hf c5 f5
  unfold panics
  go_wp2
  exact ⟨rfl, rfl, HF.out⟩
set_option maxRecDepth 100000 in
set_option maxHeartbeats 4000000 in
theorem begin_end_o (s : Bytes) (lim : Lim) (b : Nat) (x : D5.Dx) (vs vo : Value) (w : World) (h : DrRep w b s lim x vs vo) (hx : x.at_ ≤ 262144) (hok : DOk s lim x) (c : Nat) (hc : D5.want s lim x.at_ = .ok c) (hi : ¬ (x.out.length : Int) = lim.i) (ht : R5.tagE c = 0) (hin : R5.inner c = false) (n q : Nat) (hl : D5.length s lim (x.at_ + 1) = .ok (n, q)) (f : D5.Fm) (rest : List D5.Fm) (hst : x.stack = f :: rest) (hv : f.end_ < q + n) :
    Calls Tryz.prog 101 #[.pointer (some ⟨b, 0, none⟩)] w fun r w' => r = panics ((x.at_ : Int), 9) ∧ Fr (dfoot b vs vo) w w' := by
  have hqb : q ≤ 262144 ∧ n < 4294967296 := by
    have h1 := length_place hl
    have h2 := hok.may
    simp only [Lim.may, Bool.and_eq_true, decide_eq_true_eq] at h2
    omega
  have hcb := (want_place hc).2.2.1
  have HW := Px.hid (dwant_yes b x.at_ s lim x vs vo w h c hc)
  have HH := Px.hid h
  have c5 := h.cells.2.2.2.2.1
  obtain ⟨oa, oc, hov, _⟩ := h.out.len
  have HOV := Px.hid hov
  obtain ⟨sa, sc, hsv⟩ := h.stackLen
  have HSV := Px.hid hsv
  have HOK := Px.hid hok
  have hol := hok.ol
  have hsl := hok.sl
  clear h hc hov hsv hok
  have hib : ((x.out.length : Int) == lim.i) = false := beq_eq_false_iff_ne.2 hi
  have HT := Px.hid ht
  have HL := Px.hid hl
  have HST := Px.hid hst
  have hbt := bit32_f c hcb hin
  have hq1 := hqb.1
  have hn1 := hqb.2
  have hvz : (f.end_ : Int) < (q : Int) + n := by omega
  clear hi ht hin hl hst hqb hv
  go_enter Tryz.func101, Tryz.ntmps101
  go_wp2_with fail
  refine HW.out.mono ?_
  rintro r w1 ⟨rfl, hs1⟩
  have HR := Px.hid (And.intro (HH.out.same hs1) (hs1.fr (dfoot b vs vo)))
  clear hs1 c5
  have c2 := HR.out.1.cells.2.2.1
  have c7 := HR.out.1.cells.2.2.2.2.2.2
  rw [HOV.out] at c7
  go_wp2_with fail
  go_quiet (fail)
  obtain ⟨w2, hw2⟩ : ∃ w2, w2 = w1.drewN nq := ⟨_, rfl⟩
  rw [← hw2]
  have HR2 := Px.hid (show DrRep w2 b s lim x vs vo ∧ Fr (dfoot b vs vo) w w2 from by rw [hw2]; exact ⟨HR.out.1.drewN nq, HR.out.2.drewN nq⟩)
  clear hw2 c2 c7 HR
  go_wp2_with fail
  refine (tag_any c hcb _).mono ?_
  rintro r w2x ⟨rfl, hw2x⟩
  subst hw2x
  rw [HT.out]
  go_wp2_with fail
  go_region
  obtain ⟨w3, hw3⟩ : ∃ w3, w3 = w2.drew := ⟨_, rfl⟩
  rw [← hw3]
  have HR3 := Px.hid (show DrRep w3 b s lim x vs vo ∧ Fr (dfoot b vs vo) w w3 from by rw [hw3]; exact ⟨HR2.out.1.drewN 1, HR2.out.2.drew⟩)
  clear hw3 HR2
  have c5 := HR3.out.1.cells.2.2.2.2.1
  have f5 := HR3.out.1.free 5
  have ep1 : ((x.at_ + 1 : Nat) : Int) = (x.at_ : Int) + 1 := by omega
  have hmv := HR3.out.1.move (x.at_ + 1)
  rw [ep1] at hmv
  have HMV := Px.hid (And.intro hmv (HR3.out.2.setCell (p := ⟨b, 5, none⟩) (.inl (.inl rfl)) (.int .i64 ((x.at_ : Int) + 1))))
  clear hmv
  go_wp2_with fail
  refine (length_any b s lim _ vs vo _ HMV.out.1 (show x.at_ + 1 ≤ 1000000 by omega)).mono ?_
  intro r w4 hpost
  unfold LenPost at hpost
  rw [show D5.length s lim ({ x with at_ := x.at_ + 1 } : D5.Dx).at_ = .ok (n, q) from HL.out] at hpost
  obtain ⟨rfl, hrep, hf⟩ := hpost
  have HX := Px.hid (show DrRep w4 b s lim { x with at_ := q } vs vo ∧ Fr (dfoot b vs vo) w w4 from ⟨hrep, Fr.trans HMV.out.2 (It.dfoot (vs := vs) (vo := vo) hf) (fun _ _ e => e)⟩)
  clear hrep hf HMV c5 f5
  obtain ⟨g, cap', hv', hc1, hc2, k0, k1, k2, k3, k4, kf⟩ := HX.out.1.top HST.out
  have c5 := HX.out.1.cells.2.2.2.2.1
  have c6 := HX.out.1.cells.2.2.2.2.2.1
  simp only at c5
  rw [hv'] at c6
  unfold maxLen at hc2
  clear hv' k0 k1 k3 k4 kf
  go_wp2
  exact ⟨rfl, rfl, HX.out.2⟩
end Go.Proofs.YtpfhollohodcjaaGreatDoor
