/-
  Several texts in one: The walk over the program's begin (package cbor) where an item is begun that holds others. The walk over the program's begin (package cbor) where an item is a text. The walk over the program's begin (package cbor), all its cases joined.
-/
import Derived.Test.YtclbbfmpkhfigaaDoorME
/-! The walk over the program's begin (package cbor) where an item is begun that holds others. -/
namespace Go.Proofs.YtclbbfmpkhfigaaDoor
open Go.RowKit Go.Px

theorem Tryd.infoDFm : (Tryd.prog.info? 99).map (fun i => (i.zero, i.size, i.bytes)) = some (some (.agg #[.int .i64 0, .int .i64 0, .int .u64 0, .string ByteArray.empty, .bool false]), 5, 48) := by kernel_rfl

set_option maxRecDepth 100000 in
set_option maxHeartbeats 4000000 in
theorem begin_k4_full (s : Bytes) (lim : Lim) (hs : s.length ≤ 140737488355327) (b n q : Nat) (x : D7.Dx) (vs vo : Value) (w : World) (h : DrRep w b s lim x vs vo) (hx : x.at_ ≤ 262144) (hok : DOk s lim x) (hh : D7.head s lim x.out.length x.at_ = .ok (4, n, q)) (hd : (x.stack.length : Int) = lim.d) :
    Calls Tryd.prog 49 #[.pointer (some ⟨b, 0, none⟩)] w fun r w' => r = panics (x.at_, 10) ∧ Fr (dfoot b vs vo) w w' := by
  have hol : x.out.length ≤ 1000000 := hok.2.2.1
  have hsl9 : x.stack.length ≤ 900 := hok.2.1
  have hdb : ((x.stack.length : Int) == lim.d) = true := by simpa using hd
  clear hd
  obtain ⟨c, hc, hcb, hkc, hi, h27, h7, he, hqe⟩ := head_ok hh
  have hw := dwant_yes b x.at_ s lim x vs vo w h c hc
  have HW := Px.hid hw
  have HH := Px.hid h
  obtain ⟨_, _, c2, _, c5, _, c7⟩ := h.cells
  obtain ⟨oa, oc, hov, _⟩ := h.out.len
  rw [hov] at c7
  have HOV := Px.hid hov
  obtain ⟨a, ha⟩ : ∃ a, a = c % 32 := ⟨_, rfl⟩
  have hq : (c : Int) / 32 = 4 := by omega
  have hmd : (c : Int) % 32 = (a : Int) := by omega
  have ha32 : a < 32 := by omega
  rw [← ha] at h27 he h7 hqe
  have hib : ((x.out.length : Int) == lim.i) = false := by simpa using hi
  have z27 : ¬ (27 : Int) < a := by omega
  have z7 : True := trivial
  clear h7 hkc
  have ep1 : ((x.at_ + 1 : Nat) : Int) = (x.at_ : Int) + 1 := by omega
  have f5 := HH.out.free 5
  have hst1 := hok.1
  have HE := Px.hid (And.intro he (And.intro hqe (And.intro hs (And.intro h27 hok))))
  clear ha hw hc h hov hi he h27 hqe hh hs hok hst1
  go_enter Tryd.func49, Tryd.ntmps49
  go_wp2_with fail
  refine HW.out.mono ?_
  rintro r w1 ⟨rfl, rfl⟩
  go_wp2_with fail
  go_quiet (fail)
  have hmv := (HH.out.drewN nq).move (x.at_ + 1)
  rw [ep1] at hmv
  have HMV := Px.hid (And.intro hmv ((Fr.drewN (Fr.refl (It b) w1) nq).setCell (p := ⟨b, 5, none⟩) (.inl rfl) (.int .i64 ((x.at_ : Int) + 1))))
  clear hmv
  go_wp2_with fail
  refine (arg_any b x.at_ a s lim _ vs vo _ HMV.out.1 (show x.at_ + 1 ≤ 1000000 by omega) HE.out.2.2.2.1).mono ?_
  intro r w2 hpost
  unfold ArgPost at hpost
  rw [show argD s lim x.at_ a ({ x with at_ := x.at_ + 1 } : D7.Dx).at_ = .ok n from HE.out.1] at hpost
  obtain ⟨rfl, hrep, hf⟩ := hpost
  have HX := Px.hid (And.intro (show DrRep w2 b s lim { x with at_ := q } vs vo from by rw [HE.out.2.1]; exact hrep) (It.dfoot (vs := vs) (vo := vo) (HMV.out.2.trans hf (fun _ _ h => h))))
  clear hrep hf HMV c2 c5 c7 f5
  have hnf : ¬ dfoot b vs vo (w2.heap.size + 1) := fun e => by have := HX.out.1.footLt _ e; omega
  go_upto_region 29 with fail
  obtain ⟨WX, hWX⟩ : ∃ WX, WX = ((w2.alloc (.cells #[.int .i64 4, .int .u64 (n : Nat), .string ⟨#[]⟩] 72 (0, 0))).alloc (.cells #[.int .i64 4, .int .i64 (x.at_ : Nat), .int .u64 (n : Nat), .string ⟨#[]⟩, .bool false] 99 (0, 0))) := ⟨_, rfl⟩
  rw [← hWX]
  have HR := Px.hid (show DrRep WX b s lim { x with at_ := q } vs vo ∧ Fr (dfoot b vs vo) w1 WX ∧ w2.heap.size + 1 < WX.heap.size from by rw [hWX]; exact ⟨(HX.out.1.alloc _).alloc _, (HX.out.2.alloc _).alloc _, by simp⟩)
  have xa0 : WX.cell? ⟨w2.heap.size, 0, none⟩ = some (.int .i64 4) := by rw [hWX]; exact cell_alloc (cellOf (heap_alloc_new w2 _) 0 rfl)
  have xa1 : WX.cell? ⟨w2.heap.size, 1, none⟩ = some (.int .u64 (n : Nat)) := by rw [hWX]; exact cell_alloc (cellOf (heap_alloc_new w2 _) 1 rfl)
  have xa2 : WX.cell? ⟨w2.heap.size, 2, none⟩ = some (.string ⟨#[]⟩) := by rw [hWX]; exact cell_alloc (cellOf (heap_alloc_new w2 _) 2 rfl)
  have hbn : WX.heap[w2.heap.size + 1]? = some (.cells #[.int .i64 4, .int .i64 (x.at_ : Nat), .int .u64 (n : Nat), .string ⟨#[]⟩, .bool false] 99 (0, 0)) := by
    rw [hWX]
    have := heap_alloc_new (w2.alloc (.cells #[.int .i64 4, .int .u64 (n : Nat), .string ⟨#[]⟩] 72 (0, 0))) (.cells #[.int .i64 4, .int .i64 (x.at_ : Nat), .int .u64 (n : Nat), .string ⟨#[]⟩, .bool false] 99 (0, 0))
    simpa using this
  have HBN := Px.hid hbn
  clear hWX HX hbn
  obtain ⟨_, c1, _, _, _, c6, _⟩ := HR.out.1.cells
  obtain ⟨sa, sc, hsv⟩ := HR.out.1.stackLen
  rw [hsv] at c6
  clear hsv
  go_quiet (fail)
  go_wp2
  exact ⟨rfl, rfl, HR.out.2.1.drewN nq⟩

set_option maxRecDepth 100000 in
set_option maxHeartbeats 4000000 in
theorem begin_k4 (s : Bytes) (lim : Lim) (hs : s.length ≤ 140737488355327) (b n q : Nat) (x : D7.Dx) (vs vo : Value) (w : World) (h : DrRep w b s lim x vs vo) (hx : x.at_ ≤ 262144) (hok : DOk s lim x) (hh : D7.head s lim x.out.length x.at_ = .ok (4, n, q)) (hd : ¬ (x.stack.length : Int) = lim.d) :
    Calls Tryd.prog 49 #[.pointer (some ⟨b, 0, none⟩)] w fun r w' => BegPost w b s lim (dfoot b vs vo) (.ok { at_ := q, stack := ⟨4, x.at_, n, [], false⟩ :: x.stack, out := x.out ++ [⟨4, n, []⟩] }) r w' := by
  have hol : x.out.length ≤ 1000000 := hok.2.2.1
  have hsl9 : x.stack.length ≤ 900 := hok.2.1
  have hdb : ((x.stack.length : Int) == lim.d) = false := by simpa using hd
  clear hd
  obtain ⟨c, hc, hcb, hkc, hi, h27, h7, he, hqe⟩ := head_ok hh
  have hw := dwant_yes b x.at_ s lim x vs vo w h c hc
  have HW := Px.hid hw
  have HH := Px.hid h
  obtain ⟨_, _, c2, _, c5, _, c7⟩ := h.cells
  obtain ⟨oa, oc, hov, _⟩ := h.out.len
  rw [hov] at c7
  have HOV := Px.hid hov
  obtain ⟨a, ha⟩ : ∃ a, a = c % 32 := ⟨_, rfl⟩
  have hq : (c : Int) / 32 = 4 := by omega
  have hmd : (c : Int) % 32 = (a : Int) := by omega
  have ha32 : a < 32 := by omega
  rw [← ha] at h27 he h7 hqe
  have hib : ((x.out.length : Int) == lim.i) = false := by simpa using hi
  have z27 : ¬ (27 : Int) < a := by omega
  have z7 : True := trivial
  clear h7 hkc
  have ep1 : ((x.at_ + 1 : Nat) : Int) = (x.at_ : Int) + 1 := by omega
  have f5 := HH.out.free 5
  have hst1 := hok.1
  have HE := Px.hid (And.intro he (And.intro hqe (And.intro hs (And.intro h27 hok))))
  clear ha hw hc h hov hi he h27 hqe hh hs hok hst1
  go_enter Tryd.func49, Tryd.ntmps49
  go_wp2_with fail
  refine HW.out.mono ?_
  rintro r w1 ⟨rfl, rfl⟩
  go_wp2_with fail
  go_quiet (fail)
  have hmv := (HH.out.drewN nq).move (x.at_ + 1)
  rw [ep1] at hmv
  have HMV := Px.hid (And.intro hmv ((Fr.drewN (Fr.refl (It b) w1) nq).setCell (p := ⟨b, 5, none⟩) (.inl rfl) (.int .i64 ((x.at_ : Int) + 1))))
  clear hmv
  go_wp2_with fail
  refine (arg_any b x.at_ a s lim _ vs vo _ HMV.out.1 (show x.at_ + 1 ≤ 1000000 by omega) HE.out.2.2.2.1).mono ?_
  intro r w2 hpost
  unfold ArgPost at hpost
  rw [show argD s lim x.at_ a ({ x with at_ := x.at_ + 1 } : D7.Dx).at_ = .ok n from HE.out.1] at hpost
  obtain ⟨rfl, hrep, hf⟩ := hpost
  have HX := Px.hid (And.intro (show DrRep w2 b s lim { x with at_ := q } vs vo from by rw [HE.out.2.1]; exact hrep) (It.dfoot (vs := vs) (vo := vo) (HMV.out.2.trans hf (fun _ _ h => h))))
  clear hrep hf HMV c2 c5 c7 f5
  have hnf : ¬ dfoot b vs vo (w2.heap.size + 1) := fun e => by have := HX.out.1.footLt _ e; omega
  go_upto_region 29 with fail
  obtain ⟨WX, hWX⟩ : ∃ WX, WX = ((w2.alloc (.cells #[.int .i64 4, .int .u64 (n : Nat), .string ⟨#[]⟩] 72 (0, 0))).alloc (.cells #[.int .i64 4, .int .i64 (x.at_ : Nat), .int .u64 (n : Nat), .string ⟨#[]⟩, .bool false] 99 (0, 0))) := ⟨_, rfl⟩
  rw [← hWX]
  have HR := Px.hid (show DrRep WX b s lim { x with at_ := q } vs vo ∧ Fr (dfoot b vs vo) w1 WX ∧ w2.heap.size + 1 < WX.heap.size from by rw [hWX]; exact ⟨(HX.out.1.alloc _).alloc _, (HX.out.2.alloc _).alloc _, by simp⟩)
  have xa0 : WX.cell? ⟨w2.heap.size, 0, none⟩ = some (.int .i64 4) := by rw [hWX]; exact cell_alloc (cellOf (heap_alloc_new w2 _) 0 rfl)
  have xa1 : WX.cell? ⟨w2.heap.size, 1, none⟩ = some (.int .u64 (n : Nat)) := by rw [hWX]; exact cell_alloc (cellOf (heap_alloc_new w2 _) 1 rfl)
  have xa2 : WX.cell? ⟨w2.heap.size, 2, none⟩ = some (.string ⟨#[]⟩) := by rw [hWX]; exact cell_alloc (cellOf (heap_alloc_new w2 _) 2 rfl)
  have hbn : WX.heap[w2.heap.size + 1]? = some (.cells #[.int .i64 4, .int .i64 (x.at_ : Nat), .int .u64 (n : Nat), .string ⟨#[]⟩, .bool false] 99 (0, 0)) := by
    rw [hWX]
    have := heap_alloc_new (w2.alloc (.cells #[.int .i64 4, .int .u64 (n : Nat), .string ⟨#[]⟩] 72 (0, 0))) (.cells #[.int .i64 4, .int .i64 (x.at_ : Nat), .int .u64 (n : Nat), .string ⟨#[]⟩, .bool false] 99 (0, 0))
    simpa using this
  have HBN := Px.hid hbn
  clear hWX HX hbn
  obtain ⟨_, c1, _, _, _, c6, _⟩ := HR.out.1.cells
  obtain ⟨sa, sc, hsv⟩ := HR.out.1.stackLen
  rw [hsv] at c6
  clear hsv
  go_quiet (fail)
  obtain ⟨l, hl⟩ : ∃ l : Nat, l = n := ⟨_, rfl⟩
  have HLV := Px.hid (show (((n : Nat) : Int) : Int) = (l : Int) by omega)
  have HL := Px.hid hl
  clear hl
  obtain ⟨WY, hWY⟩ : ∃ WY, WY = WX.drewN nq := ⟨_, rfl⟩
  have HR := Px.hid (show DrRep WY b s lim { x with at_ := q } vs vo ∧ Fr (dfoot b vs vo) w1 WY ∧ w2.heap.size + 1 < WY.heap.size from by rw [hWY]; exact ⟨HR.out.1.drewN nq, HR.out.2.1.drewN nq, HR.out.2.2⟩)
  have HBN := Px.hid (show WY.heap[w2.heap.size + 1]? = some (.cells #[.int .i64 4, .int .i64 (x.at_ : Nat), .int .u64 (l : Nat), .string ⟨#[]⟩, .bool false] 99 (0, 0)) from by rw [hWY, ← HLV.out]; exact HBN.out)
  have ya0 : WY.cell? ⟨w2.heap.size, 0, none⟩ = some (.int .i64 4) := by rw [hWY]; exact xa0
  have ya1 : WY.cell? ⟨w2.heap.size, 1, none⟩ = some (.int .u64 (n : Nat)) := by rw [hWY]; exact xa1
  have ya2 : WY.cell? ⟨w2.heap.size, 2, none⟩ = some (.string ⟨#[]⟩) := by rw [hWY]; exact xa2
  rw [← hWY]
  clear hWY xa0 xa1 xa2 c1 c6
  have c7 : WY.cell? ⟨b, 7, none⟩ = some vo := HR.out.1.cells.2.2.2.2.2.2
  have f7 := HR.out.1.free 7
  have hb : b < WY.heap.size := HR.out.1.lt
  obtain ⟨i0, hi0, hz0, hz1, hz2⟩ := info_parts Tryd.infoAtom
  go_upto_region 31 with fail
  go_cut [] (fun wx => DAfter WY wx b s lim { x with at_ := q } ⟨4, n, []⟩ vs vo)
  case first =>
    go_region_law
      ((refine step_append_lies _ (by rfl) _ _ _ (by rfl) 0 72 i0 _ 3 32 Tryd.underlying32 hi0 hz0 hz1 hz2 rfl (by omega) vo x.out.length (x.out.flatMap cAtom) (by rfl) ((HR.out.1.out.alloc _).drew) ⟨WY.heap.size, 0, none⟩ 1 1 (cAtom ⟨4, n, []⟩) (by rfl) (by rfl) (World.news_of_block (cs := #[.int .i64 4, .int .u64 n, .string ⟨#[]⟩]) (t := 72) (fr := (0, 0)) (heap_alloc_new WY _)) (by simp [cAtom, Value.oneCell']) (by omega) (by unfold maxLen; omega) (by omega) (by simp) (WY.heap.size + 1) (by simp) ?_; intro gg cap w1 hown1 hgrow hat hlt; have k7 := grown_cell hgrow c7 HR.out.1.ob.ne; have e7 := grown_free hgrow c7 f7 HR.out.1.ob.ne))
    all_goals (go_wp2_with fail; go_meet; exact HR.out.1.afterOut hown1 (grown_alloc hgrow) (hat.elim .inl (fun e => .inr (by omega))))
  case rest =>
    obtain ⟨vo', hy, hyf, hyn⟩ := hcut
    have hbn2 : wc.heap[w2.heap.size + 1]? = some (.cells #[.int .i64 4, .int .i64 (x.at_ : Nat), .int .u64 (l : Nat), .string ⟨#[]⟩, .bool false] 99 (0, 0)) := (hyf.block _ HR.out.2.2 hnf).trans HBN.out
    have xb0 := cellOf hbn2 0 rfl
    have xb1 := cellOf hbn2 1 rfl
    have xb2 := cellOf hbn2 2 rfl
    have xb3 := cellOf hbn2 3 rfl
    have xb4 := cellOf hbn2 4 rfl
    have HY := Px.hid (And.intro hy (And.intro hyf hyn))
    clear hy hyf hyn c7 f7 ya0 ya1 ya2 hbn2
    have hb2 : b < wc.heap.size := HY.out.1.lt
    have c6 : wc.cell? ⟨b, 6, none⟩ = some vs := HY.out.1.cells.2.2.2.2.2.1
    have f6 := HY.out.1.free 6
    obtain ⟨j0, hj0, hy0, hy1, hy2⟩ := info_parts Tryd.infoDFm
    have HS := Px.hid (show wc.ownsRow 0 99 5 vs x.stack.length (x.stack.reverse.flatMap cFm) by have := HY.out.1.stack; unfold Owns at this; rw [List.length_reverse] at this; exact this)
    go_upto_region 32 with fail
    go_region_law
      ((refine step_append_lies _ (by rfl) _ _ _ (by rfl) 0 99 j0 _ 5 48 Tryd.underlying77 hj0 hy0 hy1 hy2 rfl (by omega) vs x.stack.length (x.stack.reverse.flatMap cFm) (by rfl) ((HS.out.alloc _).drew) ⟨wc.heap.size, 0, none⟩ 1 1 (cFm ⟨4, x.at_, l, [], false⟩) (by rfl) (by rfl) (World.news_of_block (cs := #[.int .i64 4, .int .i64 (x.at_ : Nat), .int .u64 (l : Nat), .string ⟨#[]⟩, .bool false]) (t := 99) (fr := (0, 0)) (heap_alloc_new wc _)) (by simp [cFm, Value.oneCell']) (by omega) (by unfold maxLen; omega) (by omega) (by simp) (wc.heap.size + 1) (by simp) ?_; intro gg cap w1x hown1 hgrow hat hlt; have k6 := grown_cell hgrow c6 HY.out.1.sb.ne; have e6 := grown_free hgrow c6 f6 HY.out.1.sb.ne))
    all_goals go_wp2
    all_goals
      obtain ⟨vs', hz, hzf, hzn⟩ := HY.out.1.afterPush (a := ⟨4, x.at_, l, [], false⟩) hown1 (grown_alloc hgrow) (hat.elim .inl (fun e => .inr (by omega)))
      have hfA := HR.out.2.1.step (Fresh.refl _ _) HY.out.2.1
      have hnA := Fresh.trans (Fresh.refl (w1) (dfoot b vs vo)) HR.out.2.1.size HY.out.2.2
      refine bodyPost_ret (results_none rfl _ _ _) rfl ?_
      rw [HL.out] at hz
      exact ⟨rfl, _, ⟨_, _, hz, rfl⟩, hfA.step hnA hzf, Fresh.trans hnA hfA.size hzn⟩

set_option maxRecDepth 100000 in
set_option maxHeartbeats 4000000 in
theorem begin_k5_full (s : Bytes) (lim : Lim) (hs : s.length ≤ 140737488355327) (b n q : Nat) (x : D7.Dx) (vs vo : Value) (w : World) (h : DrRep w b s lim x vs vo) (hx : x.at_ ≤ 262144) (hok : DOk s lim x) (hh : D7.head s lim x.out.length x.at_ = .ok (5, n, q)) (hd : (x.stack.length : Int) = lim.d) :
    Calls Tryd.prog 49 #[.pointer (some ⟨b, 0, none⟩)] w fun r w' => r = panics (x.at_, 10) ∧ Fr (dfoot b vs vo) w w' := by
  have hol : x.out.length ≤ 1000000 := hok.2.2.1
  have hsl9 : x.stack.length ≤ 900 := hok.2.1
  have hdb : ((x.stack.length : Int) == lim.d) = true := by simpa using hd
  clear hd
  obtain ⟨c, hc, hcb, hkc, hi, h27, h7, he, hqe⟩ := head_ok hh
  have hw := dwant_yes b x.at_ s lim x vs vo w h c hc
  have HW := Px.hid hw
  have HH := Px.hid h
  obtain ⟨_, _, c2, _, c5, _, c7⟩ := h.cells
  obtain ⟨oa, oc, hov, _⟩ := h.out.len
  rw [hov] at c7
  have HOV := Px.hid hov
  obtain ⟨a, ha⟩ : ∃ a, a = c % 32 := ⟨_, rfl⟩
  have hq : (c : Int) / 32 = 5 := by omega
  have hmd : (c : Int) % 32 = (a : Int) := by omega
  have ha32 : a < 32 := by omega
  rw [← ha] at h27 he h7 hqe
  have hib : ((x.out.length : Int) == lim.i) = false := by simpa using hi
  have z27 : ¬ (27 : Int) < a := by omega
  have z7 : True := trivial
  clear h7 hkc
  have ep1 : ((x.at_ + 1 : Nat) : Int) = (x.at_ : Int) + 1 := by omega
  have f5 := HH.out.free 5
  have hst1 := hok.1
  have HE := Px.hid (And.intro he (And.intro hqe (And.intro hs (And.intro h27 hok))))
  clear ha hw hc h hov hi he h27 hqe hh hs hok hst1
  go_enter Tryd.func49, Tryd.ntmps49
  go_wp2_with fail
  refine HW.out.mono ?_
  rintro r w1 ⟨rfl, rfl⟩
  go_wp2_with fail
  go_quiet (fail)
  have hmv := (HH.out.drewN nq).move (x.at_ + 1)
  rw [ep1] at hmv
  have HMV := Px.hid (And.intro hmv ((Fr.drewN (Fr.refl (It b) w1) nq).setCell (p := ⟨b, 5, none⟩) (.inl rfl) (.int .i64 ((x.at_ : Int) + 1))))
  clear hmv
  go_wp2_with fail
  refine (arg_any b x.at_ a s lim _ vs vo _ HMV.out.1 (show x.at_ + 1 ≤ 1000000 by omega) HE.out.2.2.2.1).mono ?_
  intro r w2 hpost
  unfold ArgPost at hpost
  rw [show argD s lim x.at_ a ({ x with at_ := x.at_ + 1 } : D7.Dx).at_ = .ok n from HE.out.1] at hpost
  obtain ⟨rfl, hrep, hf⟩ := hpost
  have HX := Px.hid (And.intro (show DrRep w2 b s lim { x with at_ := q } vs vo from by rw [HE.out.2.1]; exact hrep) (It.dfoot (vs := vs) (vo := vo) (HMV.out.2.trans hf (fun _ _ h => h))))
  clear hrep hf HMV c2 c5 c7 f5
  have hmul : IntKind.u64.wrap (2 * min (n : Int) 1099511627776) = 2 * min (n : Int) 1099511627776 := IntWalk.u64_in _ ⟨by omega, by omega⟩
  have hnf : ¬ dfoot b vs vo (w2.heap.size + 1) := fun e => by have := HX.out.1.footLt _ e; omega
  go_upto_region 29 with ((go_at_call 65; refine (least_u64 _ _ _).mono ?_; rintro e w' ⟨rfl, rfl⟩))
  obtain ⟨WX, hWX⟩ : ∃ WX, WX = ((w2.alloc (.cells #[.int .i64 5, .int .u64 (n : Nat), .string ⟨#[]⟩] 72 (0, 0))).alloc (.cells #[.int .i64 5, .int .i64 (x.at_ : Nat), .int .u64 (2 * min (n : Int) 1099511627776), .string ⟨#[]⟩, .bool false] 99 (0, 0))) := ⟨_, rfl⟩
  rw [← hWX]
  have HR := Px.hid (show DrRep WX b s lim { x with at_ := q } vs vo ∧ Fr (dfoot b vs vo) w1 WX ∧ w2.heap.size + 1 < WX.heap.size from by rw [hWX]; exact ⟨(HX.out.1.alloc _).alloc _, (HX.out.2.alloc _).alloc _, by simp⟩)
  have xa0 : WX.cell? ⟨w2.heap.size, 0, none⟩ = some (.int .i64 5) := by rw [hWX]; exact cell_alloc (cellOf (heap_alloc_new w2 _) 0 rfl)
  have xa1 : WX.cell? ⟨w2.heap.size, 1, none⟩ = some (.int .u64 (n : Nat)) := by rw [hWX]; exact cell_alloc (cellOf (heap_alloc_new w2 _) 1 rfl)
  have xa2 : WX.cell? ⟨w2.heap.size, 2, none⟩ = some (.string ⟨#[]⟩) := by rw [hWX]; exact cell_alloc (cellOf (heap_alloc_new w2 _) 2 rfl)
  have hbn : WX.heap[w2.heap.size + 1]? = some (.cells #[.int .i64 5, .int .i64 (x.at_ : Nat), .int .u64 (2 * min (n : Int) 1099511627776), .string ⟨#[]⟩, .bool false] 99 (0, 0)) := by
    rw [hWX]
    have := heap_alloc_new (w2.alloc (.cells #[.int .i64 5, .int .u64 (n : Nat), .string ⟨#[]⟩] 72 (0, 0))) (.cells #[.int .i64 5, .int .i64 (x.at_ : Nat), .int .u64 (2 * min (n : Int) 1099511627776), .string ⟨#[]⟩, .bool false] 99 (0, 0))
    simpa using this
  have HBN := Px.hid hbn
  clear hWX HX hbn
  obtain ⟨_, c1, _, _, _, c6, _⟩ := HR.out.1.cells
  obtain ⟨sa, sc, hsv⟩ := HR.out.1.stackLen
  rw [hsv] at c6
  clear hsv
  go_quiet (fail)
  go_wp2
  exact ⟨rfl, rfl, HR.out.2.1.drewN nq⟩

set_option maxRecDepth 100000 in
set_option maxHeartbeats 4000000 in
theorem begin_k5 (s : Bytes) (lim : Lim) (hs : s.length ≤ 140737488355327) (b n q : Nat) (x : D7.Dx) (vs vo : Value) (w : World) (h : DrRep w b s lim x vs vo) (hx : x.at_ ≤ 262144) (hok : DOk s lim x) (hh : D7.head s lim x.out.length x.at_ = .ok (5, n, q)) (hd : ¬ (x.stack.length : Int) = lim.d) :
    Calls Tryd.prog 49 #[.pointer (some ⟨b, 0, none⟩)] w fun r w' => BegPost w b s lim (dfoot b vs vo) (.ok { at_ := q, stack := ⟨5, x.at_, 2 * min n 1099511627776, [], false⟩ :: x.stack, out := x.out ++ [⟨5, n, []⟩] }) r w' := by
  have hol : x.out.length ≤ 1000000 := hok.2.2.1
  have hsl9 : x.stack.length ≤ 900 := hok.2.1
  have hdb : ((x.stack.length : Int) == lim.d) = false := by simpa using hd
  clear hd
  obtain ⟨c, hc, hcb, hkc, hi, h27, h7, he, hqe⟩ := head_ok hh
  have hw := dwant_yes b x.at_ s lim x vs vo w h c hc
  have HW := Px.hid hw
  have HH := Px.hid h
  obtain ⟨_, _, c2, _, c5, _, c7⟩ := h.cells
  obtain ⟨oa, oc, hov, _⟩ := h.out.len
  rw [hov] at c7
  have HOV := Px.hid hov
  obtain ⟨a, ha⟩ : ∃ a, a = c % 32 := ⟨_, rfl⟩
  have hq : (c : Int) / 32 = 5 := by omega
  have hmd : (c : Int) % 32 = (a : Int) := by omega
  have ha32 : a < 32 := by omega
  rw [← ha] at h27 he h7 hqe
  have hib : ((x.out.length : Int) == lim.i) = false := by simpa using hi
  have z27 : ¬ (27 : Int) < a := by omega
  have z7 : True := trivial
  clear h7 hkc
  have ep1 : ((x.at_ + 1 : Nat) : Int) = (x.at_ : Int) + 1 := by omega
  have f5 := HH.out.free 5
  have hst1 := hok.1
  have HE := Px.hid (And.intro he (And.intro hqe (And.intro hs (And.intro h27 hok))))
  clear ha hw hc h hov hi he h27 hqe hh hs hok hst1
  go_enter Tryd.func49, Tryd.ntmps49
  go_wp2_with fail
  refine HW.out.mono ?_
  rintro r w1 ⟨rfl, rfl⟩
  go_wp2_with fail
  go_quiet (fail)
  have hmv := (HH.out.drewN nq).move (x.at_ + 1)
  rw [ep1] at hmv
  have HMV := Px.hid (And.intro hmv ((Fr.drewN (Fr.refl (It b) w1) nq).setCell (p := ⟨b, 5, none⟩) (.inl rfl) (.int .i64 ((x.at_ : Int) + 1))))
  clear hmv
  go_wp2_with fail
  refine (arg_any b x.at_ a s lim _ vs vo _ HMV.out.1 (show x.at_ + 1 ≤ 1000000 by omega) HE.out.2.2.2.1).mono ?_
  intro r w2 hpost
  unfold ArgPost at hpost
  rw [show argD s lim x.at_ a ({ x with at_ := x.at_ + 1 } : D7.Dx).at_ = .ok n from HE.out.1] at hpost
  obtain ⟨rfl, hrep, hf⟩ := hpost
  have HX := Px.hid (And.intro (show DrRep w2 b s lim { x with at_ := q } vs vo from by rw [HE.out.2.1]; exact hrep) (It.dfoot (vs := vs) (vo := vo) (HMV.out.2.trans hf (fun _ _ h => h))))
  clear hrep hf HMV c2 c5 c7 f5
  have hmul : IntKind.u64.wrap (2 * min (n : Int) 1099511627776) = 2 * min (n : Int) 1099511627776 := IntWalk.u64_in _ ⟨by omega, by omega⟩
  have hnf : ¬ dfoot b vs vo (w2.heap.size + 1) := fun e => by have := HX.out.1.footLt _ e; omega
  go_upto_region 29 with ((go_at_call 65; refine (least_u64 _ _ _).mono ?_; rintro e w' ⟨rfl, rfl⟩))
  obtain ⟨WX, hWX⟩ : ∃ WX, WX = ((w2.alloc (.cells #[.int .i64 5, .int .u64 (n : Nat), .string ⟨#[]⟩] 72 (0, 0))).alloc (.cells #[.int .i64 5, .int .i64 (x.at_ : Nat), .int .u64 (2 * min (n : Int) 1099511627776), .string ⟨#[]⟩, .bool false] 99 (0, 0))) := ⟨_, rfl⟩
  rw [← hWX]
  have HR := Px.hid (show DrRep WX b s lim { x with at_ := q } vs vo ∧ Fr (dfoot b vs vo) w1 WX ∧ w2.heap.size + 1 < WX.heap.size from by rw [hWX]; exact ⟨(HX.out.1.alloc _).alloc _, (HX.out.2.alloc _).alloc _, by simp⟩)
  have xa0 : WX.cell? ⟨w2.heap.size, 0, none⟩ = some (.int .i64 5) := by rw [hWX]; exact cell_alloc (cellOf (heap_alloc_new w2 _) 0 rfl)
  have xa1 : WX.cell? ⟨w2.heap.size, 1, none⟩ = some (.int .u64 (n : Nat)) := by rw [hWX]; exact cell_alloc (cellOf (heap_alloc_new w2 _) 1 rfl)
  have xa2 : WX.cell? ⟨w2.heap.size, 2, none⟩ = some (.string ⟨#[]⟩) := by rw [hWX]; exact cell_alloc (cellOf (heap_alloc_new w2 _) 2 rfl)
  have hbn : WX.heap[w2.heap.size + 1]? = some (.cells #[.int .i64 5, .int .i64 (x.at_ : Nat), .int .u64 (2 * min (n : Int) 1099511627776), .string ⟨#[]⟩, .bool false] 99 (0, 0)) := by
    rw [hWX]
    have := heap_alloc_new (w2.alloc (.cells #[.int .i64 5, .int .u64 (n : Nat), .string ⟨#[]⟩] 72 (0, 0))) (.cells #[.int .i64 5, .int .i64 (x.at_ : Nat), .int .u64 (2 * min (n : Int) 1099511627776), .string ⟨#[]⟩, .bool false] 99 (0, 0))
    simpa using this
  have HBN := Px.hid hbn
  clear hWX HX hbn
  obtain ⟨_, c1, _, _, _, c6, _⟩ := HR.out.1.cells
  obtain ⟨sa, sc, hsv⟩ := HR.out.1.stackLen
  rw [hsv] at c6
  clear hsv
  go_quiet (fail)
  obtain ⟨l, hl⟩ : ∃ l : Nat, l = 2 * min n 1099511627776 := ⟨_, rfl⟩
  have HLV := Px.hid (show (2 * min (n : Int) 1099511627776 : Int) = (l : Int) by omega)
  have HL := Px.hid hl
  clear hl
  obtain ⟨WY, hWY⟩ : ∃ WY, WY = WX.drewN nq := ⟨_, rfl⟩
  have HR := Px.hid (show DrRep WY b s lim { x with at_ := q } vs vo ∧ Fr (dfoot b vs vo) w1 WY ∧ w2.heap.size + 1 < WY.heap.size from by rw [hWY]; exact ⟨HR.out.1.drewN nq, HR.out.2.1.drewN nq, HR.out.2.2⟩)
  have HBN := Px.hid (show WY.heap[w2.heap.size + 1]? = some (.cells #[.int .i64 5, .int .i64 (x.at_ : Nat), .int .u64 (l : Nat), .string ⟨#[]⟩, .bool false] 99 (0, 0)) from by rw [hWY, ← HLV.out]; exact HBN.out)
  have ya0 : WY.cell? ⟨w2.heap.size, 0, none⟩ = some (.int .i64 5) := by rw [hWY]; exact xa0
  have ya1 : WY.cell? ⟨w2.heap.size, 1, none⟩ = some (.int .u64 (n : Nat)) := by rw [hWY]; exact xa1
  have ya2 : WY.cell? ⟨w2.heap.size, 2, none⟩ = some (.string ⟨#[]⟩) := by rw [hWY]; exact xa2
  rw [← hWY]
  clear hWY xa0 xa1 xa2 c1 c6
  have c7 : WY.cell? ⟨b, 7, none⟩ = some vo := HR.out.1.cells.2.2.2.2.2.2
  have f7 := HR.out.1.free 7
  have hb : b < WY.heap.size := HR.out.1.lt
  obtain ⟨i0, hi0, hz0, hz1, hz2⟩ := info_parts Tryd.infoAtom
  go_upto_region 31 with fail
  go_cut [] (fun wx => DAfter WY wx b s lim { x with at_ := q } ⟨5, n, []⟩ vs vo)
  case first =>
    go_region_law
      ((refine step_append_lies _ (by rfl) _ _ _ (by rfl) 0 72 i0 _ 3 32 Tryd.underlying32 hi0 hz0 hz1 hz2 rfl (by omega) vo x.out.length (x.out.flatMap cAtom) (by rfl) ((HR.out.1.out.alloc _).drew) ⟨WY.heap.size, 0, none⟩ 1 1 (cAtom ⟨5, n, []⟩) (by rfl) (by rfl) (World.news_of_block (cs := #[.int .i64 5, .int .u64 n, .string ⟨#[]⟩]) (t := 72) (fr := (0, 0)) (heap_alloc_new WY _)) (by simp [cAtom, Value.oneCell']) (by omega) (by unfold maxLen; omega) (by omega) (by simp) (WY.heap.size + 1) (by simp) ?_; intro gg cap w1 hown1 hgrow hat hlt; have k7 := grown_cell hgrow c7 HR.out.1.ob.ne; have e7 := grown_free hgrow c7 f7 HR.out.1.ob.ne))
    all_goals (go_wp2_with fail; go_meet; exact HR.out.1.afterOut hown1 (grown_alloc hgrow) (hat.elim .inl (fun e => .inr (by omega))))
  case rest =>
    obtain ⟨vo', hy, hyf, hyn⟩ := hcut
    have hbn2 : wc.heap[w2.heap.size + 1]? = some (.cells #[.int .i64 5, .int .i64 (x.at_ : Nat), .int .u64 (l : Nat), .string ⟨#[]⟩, .bool false] 99 (0, 0)) := (hyf.block _ HR.out.2.2 hnf).trans HBN.out
    have xb0 := cellOf hbn2 0 rfl
    have xb1 := cellOf hbn2 1 rfl
    have xb2 := cellOf hbn2 2 rfl
    have xb3 := cellOf hbn2 3 rfl
    have xb4 := cellOf hbn2 4 rfl
    have HY := Px.hid (And.intro hy (And.intro hyf hyn))
    clear hy hyf hyn c7 f7 ya0 ya1 ya2 hbn2
    have hb2 : b < wc.heap.size := HY.out.1.lt
    have c6 : wc.cell? ⟨b, 6, none⟩ = some vs := HY.out.1.cells.2.2.2.2.2.1
    have f6 := HY.out.1.free 6
    obtain ⟨j0, hj0, hy0, hy1, hy2⟩ := info_parts Tryd.infoDFm
    have HS := Px.hid (show wc.ownsRow 0 99 5 vs x.stack.length (x.stack.reverse.flatMap cFm) by have := HY.out.1.stack; unfold Owns at this; rw [List.length_reverse] at this; exact this)
    go_upto_region 32 with fail
    go_region_law
      ((refine step_append_lies _ (by rfl) _ _ _ (by rfl) 0 99 j0 _ 5 48 Tryd.underlying77 hj0 hy0 hy1 hy2 rfl (by omega) vs x.stack.length (x.stack.reverse.flatMap cFm) (by rfl) ((HS.out.alloc _).drew) ⟨wc.heap.size, 0, none⟩ 1 1 (cFm ⟨5, x.at_, l, [], false⟩) (by rfl) (by rfl) (World.news_of_block (cs := #[.int .i64 5, .int .i64 (x.at_ : Nat), .int .u64 (l : Nat), .string ⟨#[]⟩, .bool false]) (t := 99) (fr := (0, 0)) (heap_alloc_new wc _)) (by simp [cFm, Value.oneCell']) (by omega) (by unfold maxLen; omega) (by omega) (by simp) (wc.heap.size + 1) (by simp) ?_; intro gg cap w1x hown1 hgrow hat hlt; have k6 := grown_cell hgrow c6 HY.out.1.sb.ne; have e6 := grown_free hgrow c6 f6 HY.out.1.sb.ne))
    all_goals go_wp2
    all_goals
      obtain ⟨vs', hz, hzf, hzn⟩ := HY.out.1.afterPush (a := ⟨5, x.at_, l, [], false⟩) hown1 (grown_alloc hgrow) (hat.elim .inl (fun e => .inr (by omega)))
      have hfA := HR.out.2.1.step (Fresh.refl _ _) HY.out.2.1
      have hnA := Fresh.trans (Fresh.refl (w1) (dfoot b vs vo)) HR.out.2.1.size HY.out.2.2
      refine bodyPost_ret (results_none rfl _ _ _) rfl ?_
      rw [HL.out] at hz
      exact ⟨rfl, _, ⟨_, _, hz, rfl⟩, hfA.step hnA hzf, Fresh.trans hnA hfA.size hzn⟩

set_option maxRecDepth 100000 in
set_option maxHeartbeats 4000000 in
theorem begin_k6_full (s : Bytes) (lim : Lim) (hs : s.length ≤ 140737488355327) (b n q : Nat) (x : D7.Dx) (vs vo : Value) (w : World) (h : DrRep w b s lim x vs vo) (hx : x.at_ ≤ 262144) (hok : DOk s lim x) (hh : D7.head s lim x.out.length x.at_ = .ok (6, n, q)) (hd : (x.stack.length : Int) = lim.d) :
    Calls Tryd.prog 49 #[.pointer (some ⟨b, 0, none⟩)] w fun r w' => r = panics (x.at_, 10) ∧ Fr (dfoot b vs vo) w w' := by
  have hol : x.out.length ≤ 1000000 := hok.2.2.1
  have hsl9 : x.stack.length ≤ 900 := hok.2.1
  have hdb : ((x.stack.length : Int) == lim.d) = true := by simpa using hd
  clear hd
  obtain ⟨c, hc, hcb, hkc, hi, h27, h7, he, hqe⟩ := head_ok hh
  have hw := dwant_yes b x.at_ s lim x vs vo w h c hc
  have HW := Px.hid hw
  have HH := Px.hid h
  obtain ⟨_, _, c2, _, c5, _, c7⟩ := h.cells
  obtain ⟨oa, oc, hov, _⟩ := h.out.len
  rw [hov] at c7
  have HOV := Px.hid hov
  obtain ⟨a, ha⟩ : ∃ a, a = c % 32 := ⟨_, rfl⟩
  have hq : (c : Int) / 32 = 6 := by omega
  have hmd : (c : Int) % 32 = (a : Int) := by omega
  have ha32 : a < 32 := by omega
  rw [← ha] at h27 he h7 hqe
  have hib : ((x.out.length : Int) == lim.i) = false := by simpa using hi
  have z27 : ¬ (27 : Int) < a := by omega
  have z7 : True := trivial
  clear h7 hkc
  have ep1 : ((x.at_ + 1 : Nat) : Int) = (x.at_ : Int) + 1 := by omega
  have f5 := HH.out.free 5
  have hst1 := hok.1
  have HE := Px.hid (And.intro he (And.intro hqe (And.intro hs (And.intro h27 hok))))
  clear ha hw hc h hov hi he h27 hqe hh hs hok hst1
  go_enter Tryd.func49, Tryd.ntmps49
  go_wp2_with fail
  refine HW.out.mono ?_
  rintro r w1 ⟨rfl, rfl⟩
  go_wp2_with fail
  go_quiet (fail)
  have hmv := (HH.out.drewN nq).move (x.at_ + 1)
  rw [ep1] at hmv
  have HMV := Px.hid (And.intro hmv ((Fr.drewN (Fr.refl (It b) w1) nq).setCell (p := ⟨b, 5, none⟩) (.inl rfl) (.int .i64 ((x.at_ : Int) + 1))))
  clear hmv
  go_wp2_with fail
  refine (arg_any b x.at_ a s lim _ vs vo _ HMV.out.1 (show x.at_ + 1 ≤ 1000000 by omega) HE.out.2.2.2.1).mono ?_
  intro r w2 hpost
  unfold ArgPost at hpost
  rw [show argD s lim x.at_ a ({ x with at_ := x.at_ + 1 } : D7.Dx).at_ = .ok n from HE.out.1] at hpost
  obtain ⟨rfl, hrep, hf⟩ := hpost
  have HX := Px.hid (And.intro (show DrRep w2 b s lim { x with at_ := q } vs vo from by rw [HE.out.2.1]; exact hrep) (It.dfoot (vs := vs) (vo := vo) (HMV.out.2.trans hf (fun _ _ h => h))))
  clear hrep hf HMV c2 c5 c7 f5
  have hnf : ¬ dfoot b vs vo (w2.heap.size + 1) := fun e => by have := HX.out.1.footLt _ e; omega
  go_upto_region 29 with fail
  obtain ⟨WX, hWX⟩ : ∃ WX, WX = ((w2.alloc (.cells #[.int .i64 6, .int .u64 (n : Nat), .string ⟨#[]⟩] 72 (0, 0))).alloc (.cells #[.int .i64 6, .int .i64 (x.at_ : Nat), .int .u64 1, .string ⟨#[]⟩, .bool false] 99 (0, 0))) := ⟨_, rfl⟩
  rw [← hWX]
  have HR := Px.hid (show DrRep WX b s lim { x with at_ := q } vs vo ∧ Fr (dfoot b vs vo) w1 WX ∧ w2.heap.size + 1 < WX.heap.size from by rw [hWX]; exact ⟨(HX.out.1.alloc _).alloc _, (HX.out.2.alloc _).alloc _, by simp⟩)
  have xa0 : WX.cell? ⟨w2.heap.size, 0, none⟩ = some (.int .i64 6) := by rw [hWX]; exact cell_alloc (cellOf (heap_alloc_new w2 _) 0 rfl)
  have xa1 : WX.cell? ⟨w2.heap.size, 1, none⟩ = some (.int .u64 (n : Nat)) := by rw [hWX]; exact cell_alloc (cellOf (heap_alloc_new w2 _) 1 rfl)
  have xa2 : WX.cell? ⟨w2.heap.size, 2, none⟩ = some (.string ⟨#[]⟩) := by rw [hWX]; exact cell_alloc (cellOf (heap_alloc_new w2 _) 2 rfl)
  have hbn : WX.heap[w2.heap.size + 1]? = some (.cells #[.int .i64 6, .int .i64 (x.at_ : Nat), .int .u64 1, .string ⟨#[]⟩, .bool false] 99 (0, 0)) := by
    rw [hWX]
    have := heap_alloc_new (w2.alloc (.cells #[.int .i64 6, .int .u64 (n : Nat), .string ⟨#[]⟩] 72 (0, 0))) (.cells #[.int .i64 6, .int .i64 (x.at_ : Nat), .int .u64 1, .string ⟨#[]⟩, .bool false] 99 (0, 0))
    simpa using this
  have HBN := Px.hid hbn
  clear hWX HX hbn
  obtain ⟨_, c1, _, _, _, c6, _⟩ := HR.out.1.cells
  obtain ⟨sa, sc, hsv⟩ := HR.out.1.stackLen
  rw [hsv] at c6
  clear hsv
  go_quiet (fail)
  go_wp2
  exact ⟨rfl, rfl, HR.out.2.1.drewN nq⟩

set_option maxRecDepth 100000 in
set_option maxHeartbeats 4000000 in
theorem begin_k6 (s : Bytes) (lim : Lim) (hs : s.length ≤ 140737488355327) (b n q : Nat) (x : D7.Dx) (vs vo : Value) (w : World) (h : DrRep w b s lim x vs vo) (hx : x.at_ ≤ 262144) (hok : DOk s lim x) (hh : D7.head s lim x.out.length x.at_ = .ok (6, n, q)) (hd : ¬ (x.stack.length : Int) = lim.d) :
    Calls Tryd.prog 49 #[.pointer (some ⟨b, 0, none⟩)] w fun r w' => BegPost w b s lim (dfoot b vs vo) (.ok { at_ := q, stack := ⟨6, x.at_, 1, [], false⟩ :: x.stack, out := x.out ++ [⟨6, n, []⟩] }) r w' := by
  have hol : x.out.length ≤ 1000000 := hok.2.2.1
  have hsl9 : x.stack.length ≤ 900 := hok.2.1
  have hdb : ((x.stack.length : Int) == lim.d) = false := by simpa using hd
  clear hd
  obtain ⟨c, hc, hcb, hkc, hi, h27, h7, he, hqe⟩ := head_ok hh
  have hw := dwant_yes b x.at_ s lim x vs vo w h c hc
  have HW := Px.hid hw
  have HH := Px.hid h
  obtain ⟨_, _, c2, _, c5, _, c7⟩ := h.cells
  obtain ⟨oa, oc, hov, _⟩ := h.out.len
  rw [hov] at c7
  have HOV := Px.hid hov
  obtain ⟨a, ha⟩ : ∃ a, a = c % 32 := ⟨_, rfl⟩
  have hq : (c : Int) / 32 = 6 := by omega
  have hmd : (c : Int) % 32 = (a : Int) := by omega
  have ha32 : a < 32 := by omega
  rw [← ha] at h27 he h7 hqe
  have hib : ((x.out.length : Int) == lim.i) = false := by simpa using hi
  have z27 : ¬ (27 : Int) < a := by omega
  have z7 : True := trivial
  clear h7 hkc
  have ep1 : ((x.at_ + 1 : Nat) : Int) = (x.at_ : Int) + 1 := by omega
  have f5 := HH.out.free 5
  have hst1 := hok.1
  have HE := Px.hid (And.intro he (And.intro hqe (And.intro hs (And.intro h27 hok))))
  clear ha hw hc h hov hi he h27 hqe hh hs hok hst1
  go_enter Tryd.func49, Tryd.ntmps49
  go_wp2_with fail
  refine HW.out.mono ?_
  rintro r w1 ⟨rfl, rfl⟩
  go_wp2_with fail
  go_quiet (fail)
  have hmv := (HH.out.drewN nq).move (x.at_ + 1)
  rw [ep1] at hmv
  have HMV := Px.hid (And.intro hmv ((Fr.drewN (Fr.refl (It b) w1) nq).setCell (p := ⟨b, 5, none⟩) (.inl rfl) (.int .i64 ((x.at_ : Int) + 1))))
  clear hmv
  go_wp2_with fail
  refine (arg_any b x.at_ a s lim _ vs vo _ HMV.out.1 (show x.at_ + 1 ≤ 1000000 by omega) HE.out.2.2.2.1).mono ?_
  intro r w2 hpost
  unfold ArgPost at hpost
  rw [show argD s lim x.at_ a ({ x with at_ := x.at_ + 1 } : D7.Dx).at_ = .ok n from HE.out.1] at hpost
  obtain ⟨rfl, hrep, hf⟩ := hpost
  have HX := Px.hid (And.intro (show DrRep w2 b s lim { x with at_ := q } vs vo from by rw [HE.out.2.1]; exact hrep) (It.dfoot (vs := vs) (vo := vo) (HMV.out.2.trans hf (fun _ _ h => h))))
  clear hrep hf HMV c2 c5 c7 f5
  have hnf : ¬ dfoot b vs vo (w2.heap.size + 1) := fun e => by have := HX.out.1.footLt _ e; omega
  go_upto_region 29 with fail
  obtain ⟨WX, hWX⟩ : ∃ WX, WX = ((w2.alloc (.cells #[.int .i64 6, .int .u64 (n : Nat), .string ⟨#[]⟩] 72 (0, 0))).alloc (.cells #[.int .i64 6, .int .i64 (x.at_ : Nat), .int .u64 1, .string ⟨#[]⟩, .bool false] 99 (0, 0))) := ⟨_, rfl⟩
  rw [← hWX]
  have HR := Px.hid (show DrRep WX b s lim { x with at_ := q } vs vo ∧ Fr (dfoot b vs vo) w1 WX ∧ w2.heap.size + 1 < WX.heap.size from by rw [hWX]; exact ⟨(HX.out.1.alloc _).alloc _, (HX.out.2.alloc _).alloc _, by simp⟩)
  have xa0 : WX.cell? ⟨w2.heap.size, 0, none⟩ = some (.int .i64 6) := by rw [hWX]; exact cell_alloc (cellOf (heap_alloc_new w2 _) 0 rfl)
  have xa1 : WX.cell? ⟨w2.heap.size, 1, none⟩ = some (.int .u64 (n : Nat)) := by rw [hWX]; exact cell_alloc (cellOf (heap_alloc_new w2 _) 1 rfl)
  have xa2 : WX.cell? ⟨w2.heap.size, 2, none⟩ = some (.string ⟨#[]⟩) := by rw [hWX]; exact cell_alloc (cellOf (heap_alloc_new w2 _) 2 rfl)
  have hbn : WX.heap[w2.heap.size + 1]? = some (.cells #[.int .i64 6, .int .i64 (x.at_ : Nat), .int .u64 1, .string ⟨#[]⟩, .bool false] 99 (0, 0)) := by
    rw [hWX]
    have := heap_alloc_new (w2.alloc (.cells #[.int .i64 6, .int .u64 (n : Nat), .string ⟨#[]⟩] 72 (0, 0))) (.cells #[.int .i64 6, .int .i64 (x.at_ : Nat), .int .u64 1, .string ⟨#[]⟩, .bool false] 99 (0, 0))
    simpa using this
  have HBN := Px.hid hbn
  clear hWX HX hbn
  obtain ⟨_, c1, _, _, _, c6, _⟩ := HR.out.1.cells
  obtain ⟨sa, sc, hsv⟩ := HR.out.1.stackLen
  rw [hsv] at c6
  clear hsv
  go_quiet (fail)
  obtain ⟨l, hl⟩ : ∃ l : Nat, l = 1 := ⟨_, rfl⟩
  have HLV := Px.hid (show (1 : Int) = (l : Int) by omega)
  have HL := Px.hid hl
  clear hl
  obtain ⟨WY, hWY⟩ : ∃ WY, WY = WX.drewN nq := ⟨_, rfl⟩
  have HR := Px.hid (show DrRep WY b s lim { x with at_ := q } vs vo ∧ Fr (dfoot b vs vo) w1 WY ∧ w2.heap.size + 1 < WY.heap.size from by rw [hWY]; exact ⟨HR.out.1.drewN nq, HR.out.2.1.drewN nq, HR.out.2.2⟩)
  have HBN := Px.hid (show WY.heap[w2.heap.size + 1]? = some (.cells #[.int .i64 6, .int .i64 (x.at_ : Nat), .int .u64 (l : Nat), .string ⟨#[]⟩, .bool false] 99 (0, 0)) from by rw [hWY, ← HLV.out]; exact HBN.out)
  have ya0 : WY.cell? ⟨w2.heap.size, 0, none⟩ = some (.int .i64 6) := by rw [hWY]; exact xa0
  have ya1 : WY.cell? ⟨w2.heap.size, 1, none⟩ = some (.int .u64 (n : Nat)) := by rw [hWY]; exact xa1
  have ya2 : WY.cell? ⟨w2.heap.size, 2, none⟩ = some (.string ⟨#[]⟩) := by rw [hWY]; exact xa2
  rw [← hWY]
  clear hWY xa0 xa1 xa2 c1 c6
  have c7 : WY.cell? ⟨b, 7, none⟩ = some vo := HR.out.1.cells.2.2.2.2.2.2
  have f7 := HR.out.1.free 7
  have hb : b < WY.heap.size := HR.out.1.lt
  obtain ⟨i0, hi0, hz0, hz1, hz2⟩ := info_parts Tryd.infoAtom
  go_upto_region 31 with fail
  go_cut [] (fun wx => DAfter WY wx b s lim { x with at_ := q } ⟨6, n, []⟩ vs vo)
  case first =>
    go_region_law
      ((refine step_append_lies _ (by rfl) _ _ _ (by rfl) 0 72 i0 _ 3 32 Tryd.underlying32 hi0 hz0 hz1 hz2 rfl (by omega) vo x.out.length (x.out.flatMap cAtom) (by rfl) ((HR.out.1.out.alloc _).drew) ⟨WY.heap.size, 0, none⟩ 1 1 (cAtom ⟨6, n, []⟩) (by rfl) (by rfl) (World.news_of_block (cs := #[.int .i64 6, .int .u64 n, .string ⟨#[]⟩]) (t := 72) (fr := (0, 0)) (heap_alloc_new WY _)) (by simp [cAtom, Value.oneCell']) (by omega) (by unfold maxLen; omega) (by omega) (by simp) (WY.heap.size + 1) (by simp) ?_; intro gg cap w1 hown1 hgrow hat hlt; have k7 := grown_cell hgrow c7 HR.out.1.ob.ne; have e7 := grown_free hgrow c7 f7 HR.out.1.ob.ne))
    all_goals (go_wp2_with fail; go_meet; exact HR.out.1.afterOut hown1 (grown_alloc hgrow) (hat.elim .inl (fun e => .inr (by omega))))
  case rest =>
    obtain ⟨vo', hy, hyf, hyn⟩ := hcut
    have hbn2 : wc.heap[w2.heap.size + 1]? = some (.cells #[.int .i64 6, .int .i64 (x.at_ : Nat), .int .u64 (l : Nat), .string ⟨#[]⟩, .bool false] 99 (0, 0)) := (hyf.block _ HR.out.2.2 hnf).trans HBN.out
    have xb0 := cellOf hbn2 0 rfl
    have xb1 := cellOf hbn2 1 rfl
    have xb2 := cellOf hbn2 2 rfl
    have xb3 := cellOf hbn2 3 rfl
    have xb4 := cellOf hbn2 4 rfl
    have HY := Px.hid (And.intro hy (And.intro hyf hyn))
    clear hy hyf hyn c7 f7 ya0 ya1 ya2 hbn2
    have hb2 : b < wc.heap.size := HY.out.1.lt
    have c6 : wc.cell? ⟨b, 6, none⟩ = some vs := HY.out.1.cells.2.2.2.2.2.1
    have f6 := HY.out.1.free 6
    obtain ⟨j0, hj0, hy0, hy1, hy2⟩ := info_parts Tryd.infoDFm
    have HS := Px.hid (show wc.ownsRow 0 99 5 vs x.stack.length (x.stack.reverse.flatMap cFm) by have := HY.out.1.stack; unfold Owns at this; rw [List.length_reverse] at this; exact this)
    go_upto_region 32 with fail
    go_region_law
      ((refine step_append_lies _ (by rfl) _ _ _ (by rfl) 0 99 j0 _ 5 48 Tryd.underlying77 hj0 hy0 hy1 hy2 rfl (by omega) vs x.stack.length (x.stack.reverse.flatMap cFm) (by rfl) ((HS.out.alloc _).drew) ⟨wc.heap.size, 0, none⟩ 1 1 (cFm ⟨6, x.at_, l, [], false⟩) (by rfl) (by rfl) (World.news_of_block (cs := #[.int .i64 6, .int .i64 (x.at_ : Nat), .int .u64 (l : Nat), .string ⟨#[]⟩, .bool false]) (t := 99) (fr := (0, 0)) (heap_alloc_new wc _)) (by simp [cFm, Value.oneCell']) (by omega) (by unfold maxLen; omega) (by omega) (by simp) (wc.heap.size + 1) (by simp) ?_; intro gg cap w1x hown1 hgrow hat hlt; have k6 := grown_cell hgrow c6 HY.out.1.sb.ne; have e6 := grown_free hgrow c6 f6 HY.out.1.sb.ne))
    all_goals go_wp2
    all_goals
      obtain ⟨vs', hz, hzf, hzn⟩ := HY.out.1.afterPush (a := ⟨6, x.at_, l, [], false⟩) hown1 (grown_alloc hgrow) (hat.elim .inl (fun e => .inr (by omega)))
      have hfA := HR.out.2.1.step (Fresh.refl _ _) HY.out.2.1
      have hnA := Fresh.trans (Fresh.refl (w1) (dfoot b vs vo)) HR.out.2.1.size HY.out.2.2
      refine bodyPost_ret (results_none rfl _ _ _) rfl ?_
      rw [HL.out] at hz
      exact ⟨rfl, _, ⟨_, _, hz, rfl⟩, hfA.step hnA hzf, Fresh.trans hnA hfA.size hzn⟩

end Go.Proofs.YtclbbfmpkhfigaaDoor

/-! The walk over the program's begin (package cbor) where an item is a text. -/
namespace Go.Proofs.YtclbbfmpkhfigaaDoor
open Go.RowKit Go.Px

theorem room_want {s : Bytes} {lim : Lim} {p : Nat} (hb : 1 ≤ lim.b) (c : Nat) : D7.want s lim (p + D7.room s lim p) ≠ .ok c := by
  unfold D7.want D7.room
  intro h
  by_cases h1 : s.length ≤ p + (min s.length lim.b.toNat - p)
  · rw [if_pos h1] at h; cases h
  · rw [if_neg h1] at h
    by_cases h2 : lim.b ≤ ((p + (min s.length lim.b.toNat - p) : Nat) : Int)
    · rw [if_pos h2] at h; cases h
    · omega
theorem take_ok {s : Bytes} {lim : Lim} {p n : Nat} {t : Bytes} (hb : 1 ≤ lim.b) (hp : p ≤ s.length) (h : D7.take s lim p n = .ok t) : ¬ D7.room s lim p < n ∧ p + n ≤ s.length ∧ t = (s.take (p + n)).drop p := by
  unfold D7.take at h
  by_cases hc : D7.room s lim p < n
  · rw [if_pos hc] at h
    cases hw : D7.want s lim (p + D7.room s lim p) with
    | error e => rw [hw] at h; cases h
    | ok c => exact absurd hw (room_want hb c)
  · rw [if_neg hc] at h
    refine ⟨hc, ?_, by simpa using h.symm⟩
    unfold D7.room at hc
    omega

set_option maxRecDepth 100000 in
set_option maxHeartbeats 4000000 in
theorem begin_k2bad (s : Bytes) (lim : Lim) (hs : s.length ≤ 140737488355327) (hlb : 1 ≤ lim.b) (hlb2 : lim.b ≤ 262144) (b n q : Nat) (x : D7.Dx) (vs vo : Value) (w : World) (h : DrRep w b s lim x vs vo) (hx : x.at_ ≤ 262144) (hok : DOk s lim x) (hqs : q ≤ s.length) (hqb : (q : Int) ≤ lim.b) (hh : D7.head s lim x.out.length x.at_ = .ok (2, n, q)) (e : D7.Flt) (het : D7.take s lim q n = .error e) :
    Calls Tryd.prog 49 #[.pointer (some ⟨b, 0, none⟩)] w fun r w' => r = panics e ∧ Fr (dfoot b vs vo) w w' := by
  have HT := Px.hid (And.intro hlb (And.intro hlb2 (And.intro hqs (And.intro hqb het))))
  have HS := Px.hid hs
  clear hlb hlb2 hqs hqb het
  have hol : x.out.length ≤ 1000000 := hok.2.2.1
  obtain ⟨c, hc, hcb, hkc, hi, h27, h7, he, hqe⟩ := head_ok hh
  have hw := dwant_yes b x.at_ s lim x vs vo w h c hc
  have HW := Px.hid hw
  have HH := Px.hid h
  obtain ⟨_, _, c2, _, c5, _, c7⟩ := h.cells
  obtain ⟨oa, oc, hov, _⟩ := h.out.len
  rw [hov] at c7
  have HOV := Px.hid hov
  obtain ⟨a, ha⟩ : ∃ a, a = c % 32 := ⟨_, rfl⟩
  have hq : (c : Int) / 32 = 2 := by omega
  have hmd : (c : Int) % 32 = (a : Int) := by omega
  have ha32 : a < 32 := by omega
  rw [← ha] at h27 he h7 hqe
  have hib : ((x.out.length : Int) == lim.i) = false := by simpa using hi
  have z27 : ¬ (27 : Int) < a := by omega
  have z7 : True := trivial
  clear h7 hkc
  have ep1 : ((x.at_ + 1 : Nat) : Int) = (x.at_ : Int) + 1 := by omega
  have f5 := HH.out.free 5
  have hst1 := hok.1
  have HE := Px.hid (And.intro he (And.intro hqe (And.intro hs (And.intro h27 hok))))
  clear ha hw hc h hov hi he h27 hqe hh hs hok hst1
  go_enter Tryd.func49, Tryd.ntmps49
  go_wp2_with fail
  refine HW.out.mono ?_
  rintro r w1 ⟨rfl, rfl⟩
  go_wp2_with fail
  go_quiet (fail)
  have hmv := (HH.out.drewN nq).move (x.at_ + 1)
  rw [ep1] at hmv
  have HMV := Px.hid (And.intro hmv ((Fr.drewN (Fr.refl (It b) w1) nq).setCell (p := ⟨b, 5, none⟩) (.inl rfl) (.int .i64 ((x.at_ : Int) + 1))))
  clear hmv
  go_wp2_with fail
  refine (arg_any b x.at_ a s lim _ vs vo _ HMV.out.1 (show x.at_ + 1 ≤ 1000000 by omega) HE.out.2.2.2.1).mono ?_
  intro r w2 hpost
  unfold ArgPost at hpost
  rw [show argD s lim x.at_ a ({ x with at_ := x.at_ + 1 } : D7.Dx).at_ = .ok n from HE.out.1] at hpost
  obtain ⟨rfl, hrep, hf⟩ := hpost
  have HX := Px.hid (And.intro (show DrRep w2 b s lim { x with at_ := q } vs vo from by rw [HE.out.2.1]; exact hrep) (It.dfoot (vs := vs) (vo := vo) (HMV.out.2.trans hf (fun _ _ h => h))))
  clear hrep hf HMV c2 c5 c7 f5
  go_upto_region 19 with fail
  obtain ⟨WX, hWX⟩ : ∃ WX, WX = ((w2.alloc (.cells #[.int .i64 2, .int .u64 0, .string ⟨#[]⟩] 72 (0, 0))).alloc (.cells #[.int .i64 2, .int .i64 (x.at_ : Nat), .int .u64 1, .string ⟨#[]⟩, .bool false] 99 (0, 0))) := ⟨_, rfl⟩
  rw [← hWX]
  have hnf0 : ¬ dfoot b vs vo w2.heap.size := fun e => by have := HX.out.1.footLt _ e; omega
  have HR := Px.hid (show DrRep WX b s lim { x with at_ := q } vs vo ∧ Fr (dfoot b vs vo) w1 WX ∧ WX.heap[w2.heap.size]? = some (.cells #[.int .i64 2, .int .u64 0, .string ⟨#[]⟩] 72 (0, 0)) ∧ w2.heap.size < WX.heap.size from by
    rw [hWX]
    exact ⟨(HX.out.1.alloc _).alloc _, (HX.out.2.alloc _).alloc _, (Below.heap_alloc _ _ _ (by simp)).trans (heap_alloc_new w2 _), by simp; omega⟩)
  have xa0 : WX.cell? ⟨w2.heap.size, 0, none⟩ = some (.int .i64 2) := cellOf HR.out.2.2.1 0 rfl
  have xa2 : WX.cell? ⟨w2.heap.size, 2, none⟩ = some (.string ⟨#[]⟩) := cellOf HR.out.2.2.1 2 rfl
  have hnf := Px.hid hnf0
  have HWS := Px.hid (show w1.heap.size ≤ w2.heap.size from HX.out.2.size)
  clear hWX HX hnf0
  go_wp2_with fail
  refine (dtake_no b n s lim _ _ _ _ HR.out.1 HS.out HT.out.1 HT.out.2.1 HT.out.2.2.1 HT.out.2.2.2.1 e HT.out.2.2.2.2).mono ?_
  rintro r w3 ⟨rfl, hsm⟩
  have HF := Px.hid (Fr.trans HR.out.2.1 hsm (fun _ _ x => x.elim))
  clear hsm
  unfold panics
  go_wp2
  exact ⟨rfl, rfl, HF.out⟩

set_option maxRecDepth 100000 in
set_option maxHeartbeats 4000000 in
theorem begin_k2 (s : Bytes) (lim : Lim) (hs : s.length ≤ 140737488355327) (hlb : 1 ≤ lim.b) (hlb2 : lim.b ≤ 262144) (b n q : Nat) (x : D7.Dx) (vs vo : Value) (w : World) (h : DrRep w b s lim x vs vo) (hx : x.at_ ≤ 262144) (hok : DOk s lim x) (hqs : q ≤ s.length) (hqb : (q : Int) ≤ lim.b) (hh : D7.head s lim x.out.length x.at_ = .ok (2, n, q)) (t : Bytes) (het : D7.take s lim q n = .ok t)  :
    Calls Tryd.prog 49 #[.pointer (some ⟨b, 0, none⟩)] w fun r w' => BegPost w b s lim (dfoot b vs vo) (D7.ended s { at_ := q + n, stack := x.stack, out := x.out ++ [⟨2, 0, t⟩] } x.at_) r w' := by
  obtain ⟨hrn, hqn, htt⟩ := take_ok hlb hqs het
  have HT := Px.hid (And.intro hlb (And.intro hlb2 (And.intro hqs (And.intro hqb het))))
  have HN := Px.hid (And.intro hrn hqn)
  have HS := Px.hid hs
  have htl : t.length ≤ 9223372036854775807 := by rw [htt]; simp; omega
  clear hlb hlb2 hqs hqb het hrn hqn htt
  have hol : x.out.length ≤ 1000000 := hok.2.2.1
  obtain ⟨c, hc, hcb, hkc, hi, h27, h7, he, hqe⟩ := head_ok hh
  have hw := dwant_yes b x.at_ s lim x vs vo w h c hc
  have HW := Px.hid hw
  have HH := Px.hid h
  obtain ⟨_, _, c2, _, c5, _, c7⟩ := h.cells
  obtain ⟨oa, oc, hov, _⟩ := h.out.len
  rw [hov] at c7
  have HOV := Px.hid hov
  obtain ⟨a, ha⟩ : ∃ a, a = c % 32 := ⟨_, rfl⟩
  have hq : (c : Int) / 32 = 2 := by omega
  have hmd : (c : Int) % 32 = (a : Int) := by omega
  have ha32 : a < 32 := by omega
  rw [← ha] at h27 he h7 hqe
  have hib : ((x.out.length : Int) == lim.i) = false := by simpa using hi
  have z27 : ¬ (27 : Int) < a := by omega
  have z7 : True := trivial
  clear h7 hkc
  have ep1 : ((x.at_ + 1 : Nat) : Int) = (x.at_ : Int) + 1 := by omega
  have f5 := HH.out.free 5
  have hst1 := hok.1
  have HE := Px.hid (And.intro he (And.intro hqe (And.intro hs (And.intro h27 hok))))
  clear ha hw hc h hov hi he h27 hqe hh hs hok hst1
  go_enter Tryd.func49, Tryd.ntmps49
  go_wp2_with fail
  refine HW.out.mono ?_
  rintro r w1 ⟨rfl, rfl⟩
  go_wp2_with fail
  go_quiet (fail)
  have hmv := (HH.out.drewN nq).move (x.at_ + 1)
  rw [ep1] at hmv
  have HMV := Px.hid (And.intro hmv ((Fr.drewN (Fr.refl (It b) w1) nq).setCell (p := ⟨b, 5, none⟩) (.inl rfl) (.int .i64 ((x.at_ : Int) + 1))))
  clear hmv
  go_wp2_with fail
  refine (arg_any b x.at_ a s lim _ vs vo _ HMV.out.1 (show x.at_ + 1 ≤ 1000000 by omega) HE.out.2.2.2.1).mono ?_
  intro r w2 hpost
  unfold ArgPost at hpost
  rw [show argD s lim x.at_ a ({ x with at_ := x.at_ + 1 } : D7.Dx).at_ = .ok n from HE.out.1] at hpost
  obtain ⟨rfl, hrep, hf⟩ := hpost
  have HX := Px.hid (And.intro (show DrRep w2 b s lim { x with at_ := q } vs vo from by rw [HE.out.2.1]; exact hrep) (It.dfoot (vs := vs) (vo := vo) (HMV.out.2.trans hf (fun _ _ h => h))))
  clear hrep hf HMV c2 c5 c7 f5
  go_upto_region 19 with fail
  obtain ⟨WX, hWX⟩ : ∃ WX, WX = ((w2.alloc (.cells #[.int .i64 2, .int .u64 0, .string ⟨#[]⟩] 72 (0, 0))).alloc (.cells #[.int .i64 2, .int .i64 (x.at_ : Nat), .int .u64 1, .string ⟨#[]⟩, .bool false] 99 (0, 0))) := ⟨_, rfl⟩
  rw [← hWX]
  have hnf0 : ¬ dfoot b vs vo w2.heap.size := fun e => by have := HX.out.1.footLt _ e; omega
  have HR := Px.hid (show DrRep WX b s lim { x with at_ := q } vs vo ∧ Fr (dfoot b vs vo) w1 WX ∧ WX.heap[w2.heap.size]? = some (.cells #[.int .i64 2, .int .u64 0, .string ⟨#[]⟩] 72 (0, 0)) ∧ w2.heap.size < WX.heap.size from by
    rw [hWX]
    exact ⟨(HX.out.1.alloc _).alloc _, (HX.out.2.alloc _).alloc _, (Below.heap_alloc _ _ _ (by simp)).trans (heap_alloc_new w2 _), by simp; omega⟩)
  have xa0 : WX.cell? ⟨w2.heap.size, 0, none⟩ = some (.int .i64 2) := cellOf HR.out.2.2.1 0 rfl
  have xa2 : WX.cell? ⟨w2.heap.size, 2, none⟩ = some (.string ⟨#[]⟩) := cellOf HR.out.2.2.1 2 rfl
  have hnf := Px.hid hnf0
  have HWS := Px.hid (show w1.heap.size ≤ w2.heap.size from HX.out.2.size)
  clear hWX HX hnf0
  go_wp2_with fail
  refine (dtake_yes b n s lim _ _ _ _ HR.out.1 HS.out HT.out.1 HT.out.2.1 HT.out.2.2.1 HT.out.2.2.2.1 t HT.out.2.2.2.2 HN.out.1).mono ?_
  rintro r w3 ⟨rfl, hrp, hfr⟩
  have HR := Px.hid (show DrRep w3 b s lim { x with at_ := q + n } vs vo ∧ Fr (dfoot b vs vo) w1 w3 ∧ w3.heap[w2.heap.size]? = some (.cells #[.int .i64 2, .int .u64 0, .string ⟨#[]⟩] 72 (0, 0)) ∧ w2.heap.size < w3.heap.size from
    ⟨hrp, Fr.trans HR.out.2.1 hfr (fun _ _ e => .inl e), (hfr.block _ HR.out.2.2.2 (fun e => hnf.out (.inl e))).trans HR.out.2.2.1, Nat.lt_of_lt_of_le HR.out.2.2.2 hfr.size⟩)
  clear xa0 xa2
  have xa0 : w3.cell? ⟨w2.heap.size, 0, none⟩ = some (.int .i64 2) := cellOf HR.out.2.2.1 0 rfl
  have xa1 : w3.cell? ⟨w2.heap.size, 1, none⟩ = some (.int .u64 0) := cellOf HR.out.2.2.1 1 rfl
  have xa2 : w3.cell? ⟨w2.heap.size, 2, none⟩ = some (.string ⟨#[]⟩) := cellOf HR.out.2.2.1 2 rfl
  have xf2 := freeOf HR.out.2.2.1 2
  clear hrp hfr
  go_upto_region 22 with fail
  obtain ⟨WY, hWY⟩ : ∃ WY, WY = w3.setCell ⟨w2.heap.size, 2, none⟩ (S t) := ⟨_, rfl⟩
  rw [show w3.setCell ⟨w2.heap.size, 2, none⟩ (.string ⟨t.toArray⟩) = WY from hWY.symm]
  have hne : ∀ j, dfoot b vs vo j → WY.heap[j]? = w3.heap[j]? := fun j hj => by rw [hWY]; exact (Fr.setCell (Fr.refl (fun i => i = w2.heap.size) w3) (p := ⟨w2.heap.size, 2, none⟩) (.inl rfl) (S t)).block j (HR.out.1.footLt j hj) (fun e => hnf.out (e ▸ hj))
  have HR := Px.hid (show DrRep WY b s lim { x with at_ := q + n } vs vo ∧ Fr (dfoot b vs vo) w1 WY ∧ WY.heap[w2.heap.size]? = some (.cells #[.int .i64 2, .int .u64 0, S t] 72 (0, 0)) ∧ w2.heap.size < WY.heap.size from
    ⟨HR.out.1.keep hne, by rw [hWY]; exact HR.out.2.1.setCell (.inr HWS.out) _, by rw [hWY, heap_setCell_same _ w2.heap.size 2 _ _ _ HR.out.2.2.1]; rfl, by rw [hWY]; simpa using HR.out.2.2.2⟩)
  clear hWY hne xa0 xa1 xa2 xf2
  have xa0 : WY.cell? ⟨w2.heap.size, 0, none⟩ = some (.int .i64 2) := cellOf HR.out.2.2.1 0 rfl
  have xa1 : WY.cell? ⟨w2.heap.size, 1, none⟩ = some (.int .u64 0) := cellOf HR.out.2.2.1 1 rfl
  have xa2 : WY.cell? ⟨w2.heap.size, 2, none⟩ = some (S t) := cellOf HR.out.2.2.1 2 rfl
  have c7 : WY.cell? ⟨b, 7, none⟩ = some vo := HR.out.1.cells.2.2.2.2.2.2
  have f7 := HR.out.1.free 7
  have hb : b < WY.heap.size := HR.out.1.lt
  obtain ⟨i0, hi0, hz0, hz1, hz2⟩ := info_parts Tryd.infoAtom
  go_cut [] (fun wx => DAfter WY wx b s lim { x with at_ := q + n } ⟨2, 0, t⟩ vs vo)
  case first =>
    go_region_law
      ((refine step_append_lies _ (by rfl) _ _ _ (by rfl) 0 72 i0 _ 3 32 Tryd.underlying32 hi0 hz0 hz1 hz2 rfl (by omega) vo x.out.length (x.out.flatMap cAtom) (by rfl) ((HR.out.1.out.alloc _).drew) ⟨WY.heap.size, 0, none⟩ 1 1 (cAtom ⟨2, 0, t⟩) (by rfl) (by rfl) (World.news_of_block (cs := #[.int .i64 2, .int .u64 0, S t]) (t := 72) (fr := (0, 0)) (heap_alloc_new WY _)) (by simp [cAtom, Value.oneCell']) (by omega) (by unfold maxLen; omega) (by omega) (by simp) (WY.heap.size + 1) (by simp) ?_; intro gg cap w1 hown1 hgrow hat hlt; have k7 := grown_cell hgrow c7 HR.out.1.ob.ne; have e7 := grown_free hgrow c7 f7 HR.out.1.ob.ne))
    all_goals (go_wp2_with fail; go_meet; exact HR.out.1.afterOut hown1 (grown_alloc hgrow) (hat.elim .inl (fun e => .inr (by omega))))
  case rest =>
    obtain ⟨vo', hy, hyf, hyn⟩ := hcut
    have HY := Px.hid (And.intro hy (And.intro hyf hyn))
    clear hy hyf hyn c7 f7 xa0 xa1 xa2
    go_wp2_with fail
    refine (dended_any b x.at_ s lim _ _ _ ⟨_, _, HY.out.1, rfl⟩ (show x.at_ ≤ q + n by have := HE.out.2.1; omega) HN.out.2 (fun f rest e => HE.out.2.2.2.2.1 f (by rw [show x.stack = f :: rest from e]; simp)) (show x.stack.length ≤ 1000 by have := HE.out.2.2.2.2.2.1; omega)).mono ?_
    intro r w3 hpost
    have hB := begin_fin (HR.out.2.1.step (Fresh.refl _ _) HY.out.2.1) (Fresh.trans (Fresh.refl _ _) HR.out.2.1.size HY.out.2.2) hpost
    unfold EndPost at hpost
    cases hres : D7.ended s { at_ := q + n, stack := x.stack, out := x.out ++ [⟨2, 0, t⟩] } x.at_ with
    | error e =>
      rw [hres] at hpost hB
      obtain ⟨rfl, _⟩ := hpost
      have HB := Px.hid hB
      have HRES := Px.hid hres
      clear hB hres
      unfold panics
      go_wp2
      exact ⟨rfl, by rw [HRES.out]; exact HB.out⟩
    | ok y =>
      rw [hres] at hpost hB
      obtain ⟨rfl, _⟩ := hpost
      have HB := Px.hid hB
      have HRES := Px.hid hres
      clear hB hres
      go_wp2
      refine bodyPost_ret (results_none rfl _ _ _) rfl ?_
      rw [HRES.out]
      exact HB.out

set_option maxRecDepth 100000 in
set_option maxHeartbeats 4000000 in
theorem begin_k3bad (s : Bytes) (lim : Lim) (hs : s.length ≤ 140737488355327) (hlb : 1 ≤ lim.b) (hlb2 : lim.b ≤ 262144) (b n q : Nat) (x : D7.Dx) (vs vo : Value) (w : World) (h : DrRep w b s lim x vs vo) (hx : x.at_ ≤ 262144) (hok : DOk s lim x) (hqs : q ≤ s.length) (hqb : (q : Int) ≤ lim.b) (hh : D7.head s lim x.out.length x.at_ = .ok (3, n, q)) (e : D7.Flt) (het : D7.take s lim q n = .error e) :
    Calls Tryd.prog 49 #[.pointer (some ⟨b, 0, none⟩)] w fun r w' => r = panics e ∧ Fr (dfoot b vs vo) w w' := by
  have HT := Px.hid (And.intro hlb (And.intro hlb2 (And.intro hqs (And.intro hqb het))))
  have HS := Px.hid hs
  clear hlb hlb2 hqs hqb het
  have hol : x.out.length ≤ 1000000 := hok.2.2.1
  obtain ⟨c, hc, hcb, hkc, hi, h27, h7, he, hqe⟩ := head_ok hh
  have hw := dwant_yes b x.at_ s lim x vs vo w h c hc
  have HW := Px.hid hw
  have HH := Px.hid h
  obtain ⟨_, _, c2, _, c5, _, c7⟩ := h.cells
  obtain ⟨oa, oc, hov, _⟩ := h.out.len
  rw [hov] at c7
  have HOV := Px.hid hov
  obtain ⟨a, ha⟩ : ∃ a, a = c % 32 := ⟨_, rfl⟩
  have hq : (c : Int) / 32 = 3 := by omega
  have hmd : (c : Int) % 32 = (a : Int) := by omega
  have ha32 : a < 32 := by omega
  rw [← ha] at h27 he h7 hqe
  have hib : ((x.out.length : Int) == lim.i) = false := by simpa using hi
  have z27 : ¬ (27 : Int) < a := by omega
  have z7 : True := trivial
  clear h7 hkc
  have ep1 : ((x.at_ + 1 : Nat) : Int) = (x.at_ : Int) + 1 := by omega
  have f5 := HH.out.free 5
  have hst1 := hok.1
  have HE := Px.hid (And.intro he (And.intro hqe (And.intro hs (And.intro h27 hok))))
  clear ha hw hc h hov hi he h27 hqe hh hs hok hst1
  go_enter Tryd.func49, Tryd.ntmps49
  go_wp2_with fail
  refine HW.out.mono ?_
  rintro r w1 ⟨rfl, rfl⟩
  go_wp2_with fail
  go_quiet (fail)
  have hmv := (HH.out.drewN nq).move (x.at_ + 1)
  rw [ep1] at hmv
  have HMV := Px.hid (And.intro hmv ((Fr.drewN (Fr.refl (It b) w1) nq).setCell (p := ⟨b, 5, none⟩) (.inl rfl) (.int .i64 ((x.at_ : Int) + 1))))
  clear hmv
  go_wp2_with fail
  refine (arg_any b x.at_ a s lim _ vs vo _ HMV.out.1 (show x.at_ + 1 ≤ 1000000 by omega) HE.out.2.2.2.1).mono ?_
  intro r w2 hpost
  unfold ArgPost at hpost
  rw [show argD s lim x.at_ a ({ x with at_ := x.at_ + 1 } : D7.Dx).at_ = .ok n from HE.out.1] at hpost
  obtain ⟨rfl, hrep, hf⟩ := hpost
  have HX := Px.hid (And.intro (show DrRep w2 b s lim { x with at_ := q } vs vo from by rw [HE.out.2.1]; exact hrep) (It.dfoot (vs := vs) (vo := vo) (HMV.out.2.trans hf (fun _ _ h => h))))
  clear hrep hf HMV c2 c5 c7 f5
  go_upto_region 19 with fail
  obtain ⟨WX, hWX⟩ : ∃ WX, WX = ((w2.alloc (.cells #[.int .i64 3, .int .u64 0, .string ⟨#[]⟩] 72 (0, 0))).alloc (.cells #[.int .i64 3, .int .i64 (x.at_ : Nat), .int .u64 1, .string ⟨#[]⟩, .bool false] 99 (0, 0))) := ⟨_, rfl⟩
  rw [← hWX]
  have hnf0 : ¬ dfoot b vs vo w2.heap.size := fun e => by have := HX.out.1.footLt _ e; omega
  have HR := Px.hid (show DrRep WX b s lim { x with at_ := q } vs vo ∧ Fr (dfoot b vs vo) w1 WX ∧ WX.heap[w2.heap.size]? = some (.cells #[.int .i64 3, .int .u64 0, .string ⟨#[]⟩] 72 (0, 0)) ∧ w2.heap.size < WX.heap.size from by
    rw [hWX]
    exact ⟨(HX.out.1.alloc _).alloc _, (HX.out.2.alloc _).alloc _, (Below.heap_alloc _ _ _ (by simp)).trans (heap_alloc_new w2 _), by simp; omega⟩)
  have xa0 : WX.cell? ⟨w2.heap.size, 0, none⟩ = some (.int .i64 3) := cellOf HR.out.2.2.1 0 rfl
  have xa2 : WX.cell? ⟨w2.heap.size, 2, none⟩ = some (.string ⟨#[]⟩) := cellOf HR.out.2.2.1 2 rfl
  have hnf := Px.hid hnf0
  have HWS := Px.hid (show w1.heap.size ≤ w2.heap.size from HX.out.2.size)
  clear hWX HX hnf0
  go_wp2_with fail
  refine (dtake_no b n s lim _ _ _ _ HR.out.1 HS.out HT.out.1 HT.out.2.1 HT.out.2.2.1 HT.out.2.2.2.1 e HT.out.2.2.2.2).mono ?_
  rintro r w3 ⟨rfl, hsm⟩
  have HF := Px.hid (Fr.trans HR.out.2.1 hsm (fun _ _ x => x.elim))
  clear hsm
  unfold panics
  go_wp2
  exact ⟨rfl, rfl, HF.out⟩

set_option maxRecDepth 100000 in
set_option maxHeartbeats 4000000 in
theorem begin_k3 (s : Bytes) (lim : Lim) (hs : s.length ≤ 140737488355327) (hlb : 1 ≤ lim.b) (hlb2 : lim.b ≤ 262144) (b n q : Nat) (x : D7.Dx) (vs vo : Value) (w : World) (h : DrRep w b s lim x vs vo) (hx : x.at_ ≤ 262144) (hok : DOk s lim x) (hqs : q ≤ s.length) (hqb : (q : Int) ≤ lim.b) (hh : D7.head s lim x.out.length x.at_ = .ok (3, n, q)) (t : Bytes) (het : D7.take s lim q n = .ok t) (hT : ∀ w2, Fr (dfoot b vs vo) w w2 → Tabs w2) (hvd : Lib.validD t = true) :
    Calls Tryd.prog 49 #[.pointer (some ⟨b, 0, none⟩)] w fun r w' => BegPost w b s lim (dfoot b vs vo) (D7.ended s { at_ := q + n, stack := x.stack, out := x.out ++ [⟨3, 0, t⟩] } x.at_) r w' := by
  obtain ⟨hrn, hqn, htt⟩ := take_ok hlb hqs het
  have HT := Px.hid (And.intro hlb (And.intro hlb2 (And.intro hqs (And.intro hqb het))))
  have HN := Px.hid (And.intro hrn hqn)
  have HS := Px.hid hs
  have htl : t.length ≤ 9223372036854775807 := by rw [htt]; simp; omega
  clear hlb hlb2 hqs hqb het hrn hqn htt
  have HV := Px.hid (And.intro hT (And.intro hvd htl))
  clear hT hvd htl
  have hol : x.out.length ≤ 1000000 := hok.2.2.1
  obtain ⟨c, hc, hcb, hkc, hi, h27, h7, he, hqe⟩ := head_ok hh
  have hw := dwant_yes b x.at_ s lim x vs vo w h c hc
  have HW := Px.hid hw
  have HH := Px.hid h
  obtain ⟨_, _, c2, _, c5, _, c7⟩ := h.cells
  obtain ⟨oa, oc, hov, _⟩ := h.out.len
  rw [hov] at c7
  have HOV := Px.hid hov
  obtain ⟨a, ha⟩ : ∃ a, a = c % 32 := ⟨_, rfl⟩
  have hq : (c : Int) / 32 = 3 := by omega
  have hmd : (c : Int) % 32 = (a : Int) := by omega
  have ha32 : a < 32 := by omega
  rw [← ha] at h27 he h7 hqe
  have hib : ((x.out.length : Int) == lim.i) = false := by simpa using hi
  have z27 : ¬ (27 : Int) < a := by omega
  have z7 : True := trivial
  clear h7 hkc
  have ep1 : ((x.at_ + 1 : Nat) : Int) = (x.at_ : Int) + 1 := by omega
  have f5 := HH.out.free 5
  have hst1 := hok.1
  have HE := Px.hid (And.intro he (And.intro hqe (And.intro hs (And.intro h27 hok))))
  clear ha hw hc h hov hi he h27 hqe hh hs hok hst1
  go_enter Tryd.func49, Tryd.ntmps49
  go_wp2_with fail
  refine HW.out.mono ?_
  rintro r w1 ⟨rfl, rfl⟩
  go_wp2_with fail
  go_quiet (fail)
  have hmv := (HH.out.drewN nq).move (x.at_ + 1)
  rw [ep1] at hmv
  have HMV := Px.hid (And.intro hmv ((Fr.drewN (Fr.refl (It b) w1) nq).setCell (p := ⟨b, 5, none⟩) (.inl rfl) (.int .i64 ((x.at_ : Int) + 1))))
  clear hmv
  go_wp2_with fail
  refine (arg_any b x.at_ a s lim _ vs vo _ HMV.out.1 (show x.at_ + 1 ≤ 1000000 by omega) HE.out.2.2.2.1).mono ?_
  intro r w2 hpost
  unfold ArgPost at hpost
  rw [show argD s lim x.at_ a ({ x with at_ := x.at_ + 1 } : D7.Dx).at_ = .ok n from HE.out.1] at hpost
  obtain ⟨rfl, hrep, hf⟩ := hpost
  have HX := Px.hid (And.intro (show DrRep w2 b s lim { x with at_ := q } vs vo from by rw [HE.out.2.1]; exact hrep) (It.dfoot (vs := vs) (vo := vo) (HMV.out.2.trans hf (fun _ _ h => h))))
  clear hrep hf HMV c2 c5 c7 f5
  go_upto_region 19 with fail
  obtain ⟨WX, hWX⟩ : ∃ WX, WX = ((w2.alloc (.cells #[.int .i64 3, .int .u64 0, .string ⟨#[]⟩] 72 (0, 0))).alloc (.cells #[.int .i64 3, .int .i64 (x.at_ : Nat), .int .u64 1, .string ⟨#[]⟩, .bool false] 99 (0, 0))) := ⟨_, rfl⟩
  rw [← hWX]
  have hnf0 : ¬ dfoot b vs vo w2.heap.size := fun e => by have := HX.out.1.footLt _ e; omega
  have HR := Px.hid (show DrRep WX b s lim { x with at_ := q } vs vo ∧ Fr (dfoot b vs vo) w1 WX ∧ WX.heap[w2.heap.size]? = some (.cells #[.int .i64 3, .int .u64 0, .string ⟨#[]⟩] 72 (0, 0)) ∧ w2.heap.size < WX.heap.size from by
    rw [hWX]
    exact ⟨(HX.out.1.alloc _).alloc _, (HX.out.2.alloc _).alloc _, (Below.heap_alloc _ _ _ (by simp)).trans (heap_alloc_new w2 _), by simp; omega⟩)
  have xa0 : WX.cell? ⟨w2.heap.size, 0, none⟩ = some (.int .i64 3) := cellOf HR.out.2.2.1 0 rfl
  have xa2 : WX.cell? ⟨w2.heap.size, 2, none⟩ = some (.string ⟨#[]⟩) := cellOf HR.out.2.2.1 2 rfl
  have hnf := Px.hid hnf0
  have HWS := Px.hid (show w1.heap.size ≤ w2.heap.size from HX.out.2.size)
  clear hWX HX hnf0
  go_wp2_with fail
  refine (dtake_yes b n s lim _ _ _ _ HR.out.1 HS.out HT.out.1 HT.out.2.1 HT.out.2.2.1 HT.out.2.2.2.1 t HT.out.2.2.2.2 HN.out.1).mono ?_
  rintro r w3 ⟨rfl, hrp, hfr⟩
  have HR := Px.hid (show DrRep w3 b s lim { x with at_ := q + n } vs vo ∧ Fr (dfoot b vs vo) w1 w3 ∧ w3.heap[w2.heap.size]? = some (.cells #[.int .i64 3, .int .u64 0, .string ⟨#[]⟩] 72 (0, 0)) ∧ w2.heap.size < w3.heap.size from
    ⟨hrp, Fr.trans HR.out.2.1 hfr (fun _ _ e => .inl e), (hfr.block _ HR.out.2.2.2 (fun e => hnf.out (.inl e))).trans HR.out.2.2.1, Nat.lt_of_lt_of_le HR.out.2.2.2 hfr.size⟩)
  clear xa0 xa2
  have xa0 : w3.cell? ⟨w2.heap.size, 0, none⟩ = some (.int .i64 3) := cellOf HR.out.2.2.1 0 rfl
  have xa1 : w3.cell? ⟨w2.heap.size, 1, none⟩ = some (.int .u64 0) := cellOf HR.out.2.2.1 1 rfl
  have xa2 : w3.cell? ⟨w2.heap.size, 2, none⟩ = some (.string ⟨#[]⟩) := cellOf HR.out.2.2.1 2 rfl
  have xf2 := freeOf HR.out.2.2.1 2
  clear hrp hfr
  go_upto_region 20 with fail
  obtain ⟨WY, hWY⟩ : ∃ WY, WY = w3.setCell ⟨w2.heap.size, 2, none⟩ (S t) := ⟨_, rfl⟩
  rw [show w3.setCell ⟨w2.heap.size, 2, none⟩ (.string ⟨t.toArray⟩) = WY from hWY.symm]
  have hne : ∀ j, dfoot b vs vo j → WY.heap[j]? = w3.heap[j]? := fun j hj => by rw [hWY]; exact (Fr.setCell (Fr.refl (fun i => i = w2.heap.size) w3) (p := ⟨w2.heap.size, 2, none⟩) (.inl rfl) (S t)).block j (HR.out.1.footLt j hj) (fun e => hnf.out (e ▸ hj))
  have HR := Px.hid (show DrRep WY b s lim { x with at_ := q + n } vs vo ∧ Fr (dfoot b vs vo) w1 WY ∧ WY.heap[w2.heap.size]? = some (.cells #[.int .i64 3, .int .u64 0, S t] 72 (0, 0)) ∧ w2.heap.size < WY.heap.size from
    ⟨HR.out.1.keep hne, by rw [hWY]; exact HR.out.2.1.setCell (.inr HWS.out) _, by rw [hWY, heap_setCell_same _ w2.heap.size 2 _ _ _ HR.out.2.2.1]; rfl, by rw [hWY]; simpa using HR.out.2.2.2⟩)
  clear hWY hne xa0 xa1 xa2 xf2
  have xa2 : WY.cell? ⟨w2.heap.size, 2, none⟩ = some (S t) := cellOf HR.out.2.2.1 2 rfl
  go_wp2_with fail
  refine (valid_any _ _ HV.out.2.2 (HV.out.1 _ HR.out.2.1)).mono ?_
  rintro e WZ ⟨rfl, hbl⟩
  have HR := Px.hid (show DrRep WZ b s lim { x with at_ := q + n } vs vo ∧ Fr (dfoot b vs vo) w1 WZ ∧ WZ.heap[w2.heap.size]? = some (.cells #[.int .i64 3, .int .u64 0, S t] 72 (0, 0)) ∧ w2.heap.size < WZ.heap.size from
    ⟨HR.out.1.keep (fun j hj => hbl.block j (HR.out.1.footLt j hj)), Fr.trans HR.out.2.1 (Fr.below hbl) (fun _ _ x => x), (hbl.block _ HR.out.2.2.2).trans HR.out.2.2.1, Nat.lt_of_lt_of_le HR.out.2.2.2 hbl.size⟩)
  clear hbl xa2
  rw [HV.out.2.1]
  go_upto_region 22 with fail
  have xa0 : WZ.cell? ⟨w2.heap.size, 0, none⟩ = some (.int .i64 3) := cellOf HR.out.2.2.1 0 rfl
  have xa1 : WZ.cell? ⟨w2.heap.size, 1, none⟩ = some (.int .u64 0) := cellOf HR.out.2.2.1 1 rfl
  have xa2 : WZ.cell? ⟨w2.heap.size, 2, none⟩ = some (S t) := cellOf HR.out.2.2.1 2 rfl
  have c7 : WZ.cell? ⟨b, 7, none⟩ = some vo := HR.out.1.cells.2.2.2.2.2.2
  have f7 := HR.out.1.free 7
  have hb : b < WZ.heap.size := HR.out.1.lt
  obtain ⟨i0, hi0, hz0, hz1, hz2⟩ := info_parts Tryd.infoAtom
  go_cut [] (fun wx => DAfter WZ wx b s lim { x with at_ := q + n } ⟨3, 0, t⟩ vs vo)
  case first =>
    go_region_law
      ((refine step_append_lies _ (by rfl) _ _ _ (by rfl) 0 72 i0 _ 3 32 Tryd.underlying32 hi0 hz0 hz1 hz2 rfl (by omega) vo x.out.length (x.out.flatMap cAtom) (by rfl) ((HR.out.1.out.alloc _).drew) ⟨WZ.heap.size, 0, none⟩ 1 1 (cAtom ⟨3, 0, t⟩) (by rfl) (by rfl) (World.news_of_block (cs := #[.int .i64 3, .int .u64 0, S t]) (t := 72) (fr := (0, 0)) (heap_alloc_new WZ _)) (by simp [cAtom, Value.oneCell']) (by omega) (by unfold maxLen; omega) (by omega) (by simp) (WZ.heap.size + 1) (by simp) ?_; intro gg cap w1 hown1 hgrow hat hlt; have k7 := grown_cell hgrow c7 HR.out.1.ob.ne; have e7 := grown_free hgrow c7 f7 HR.out.1.ob.ne))
    all_goals (go_wp2_with fail; go_meet; exact HR.out.1.afterOut hown1 (grown_alloc hgrow) (hat.elim .inl (fun e => .inr (by omega))))
  case rest =>
    obtain ⟨vo', hy, hyf, hyn⟩ := hcut
    have HY := Px.hid (And.intro hy (And.intro hyf hyn))
    clear hy hyf hyn c7 f7 xa0 xa1 xa2
    go_wp2_with fail
    refine (dended_any b x.at_ s lim _ _ _ ⟨_, _, HY.out.1, rfl⟩ (show x.at_ ≤ q + n by have := HE.out.2.1; omega) HN.out.2 (fun f rest e => HE.out.2.2.2.2.1 f (by rw [show x.stack = f :: rest from e]; simp)) (show x.stack.length ≤ 1000 by have := HE.out.2.2.2.2.2.1; omega)).mono ?_
    intro r w3 hpost
    have hB := begin_fin (HR.out.2.1.step (Fresh.refl _ _) HY.out.2.1) (Fresh.trans (Fresh.refl _ _) HR.out.2.1.size HY.out.2.2) hpost
    unfold EndPost at hpost
    cases hres : D7.ended s { at_ := q + n, stack := x.stack, out := x.out ++ [⟨3, 0, t⟩] } x.at_ with
    | error e =>
      rw [hres] at hpost hB
      obtain ⟨rfl, _⟩ := hpost
      have HB := Px.hid hB
      have HRES := Px.hid hres
      clear hB hres
      unfold panics
      go_wp2
      exact ⟨rfl, by rw [HRES.out]; exact HB.out⟩
    | ok y =>
      rw [hres] at hpost hB
      obtain ⟨rfl, _⟩ := hpost
      have HB := Px.hid hB
      have HRES := Px.hid hres
      clear hB hres
      go_wp2
      refine bodyPost_ret (results_none rfl _ _ _) rfl ?_
      rw [HRES.out]
      exact HB.out

set_option maxRecDepth 100000 in
set_option maxHeartbeats 4000000 in
theorem begin_k3_inv (s : Bytes) (lim : Lim) (hs : s.length ≤ 140737488355327) (hlb : 1 ≤ lim.b) (hlb2 : lim.b ≤ 262144) (b n q : Nat) (x : D7.Dx) (vs vo : Value) (w : World) (h : DrRep w b s lim x vs vo) (hx : x.at_ ≤ 262144) (hok : DOk s lim x) (hqs : q ≤ s.length) (hqb : (q : Int) ≤ lim.b) (hh : D7.head s lim x.out.length x.at_ = .ok (3, n, q)) (t : Bytes) (het : D7.take s lim q n = .ok t) (hT : ∀ w2, Fr (dfoot b vs vo) w w2 → Tabs w2) (hvd : Lib.validD t = false) :
    Calls Tryd.prog 49 #[.pointer (some ⟨b, 0, none⟩)] w fun r w' => r = panics (x.at_, 9) ∧ Fr (dfoot b vs vo) w w' := by
  obtain ⟨hrn, hqn, htt⟩ := take_ok hlb hqs het
  have HT := Px.hid (And.intro hlb (And.intro hlb2 (And.intro hqs (And.intro hqb het))))
  have HN := Px.hid (And.intro hrn hqn)
  have HS := Px.hid hs
  have htl : t.length ≤ 9223372036854775807 := by rw [htt]; simp; omega
  clear hlb hlb2 hqs hqb het hrn hqn htt
  have HV := Px.hid (And.intro hT (And.intro hvd htl))
  clear hT hvd htl
  have hol : x.out.length ≤ 1000000 := hok.2.2.1
  obtain ⟨c, hc, hcb, hkc, hi, h27, h7, he, hqe⟩ := head_ok hh
  have hw := dwant_yes b x.at_ s lim x vs vo w h c hc
  have HW := Px.hid hw
  have HH := Px.hid h
  obtain ⟨_, _, c2, _, c5, _, c7⟩ := h.cells
  obtain ⟨oa, oc, hov, _⟩ := h.out.len
  rw [hov] at c7
  have HOV := Px.hid hov
  obtain ⟨a, ha⟩ : ∃ a, a = c % 32 := ⟨_, rfl⟩
  have hq : (c : Int) / 32 = 3 := by omega
  have hmd : (c : Int) % 32 = (a : Int) := by omega
  have ha32 : a < 32 := by omega
  rw [← ha] at h27 he h7 hqe
  have hib : ((x.out.length : Int) == lim.i) = false := by simpa using hi
  have z27 : ¬ (27 : Int) < a := by omega
  have z7 : True := trivial
  clear h7 hkc
  have ep1 : ((x.at_ + 1 : Nat) : Int) = (x.at_ : Int) + 1 := by omega
  have f5 := HH.out.free 5
  have hst1 := hok.1
  have HE := Px.hid (And.intro he (And.intro hqe (And.intro hs (And.intro h27 hok))))
  clear ha hw hc h hov hi he h27 hqe hh hs hok hst1
  go_enter Tryd.func49, Tryd.ntmps49
  go_wp2_with fail
  refine HW.out.mono ?_
  rintro r w1 ⟨rfl, rfl⟩
  go_wp2_with fail
  go_quiet (fail)
  have hmv := (HH.out.drewN nq).move (x.at_ + 1)
  rw [ep1] at hmv
  have HMV := Px.hid (And.intro hmv ((Fr.drewN (Fr.refl (It b) w1) nq).setCell (p := ⟨b, 5, none⟩) (.inl rfl) (.int .i64 ((x.at_ : Int) + 1))))
  clear hmv
  go_wp2_with fail
  refine (arg_any b x.at_ a s lim _ vs vo _ HMV.out.1 (show x.at_ + 1 ≤ 1000000 by omega) HE.out.2.2.2.1).mono ?_
  intro r w2 hpost
  unfold ArgPost at hpost
  rw [show argD s lim x.at_ a ({ x with at_ := x.at_ + 1 } : D7.Dx).at_ = .ok n from HE.out.1] at hpost
  obtain ⟨rfl, hrep, hf⟩ := hpost
  have HX := Px.hid (And.intro (show DrRep w2 b s lim { x with at_ := q } vs vo from by rw [HE.out.2.1]; exact hrep) (It.dfoot (vs := vs) (vo := vo) (HMV.out.2.trans hf (fun _ _ h => h))))
  clear hrep hf HMV c2 c5 c7 f5
  go_upto_region 19 with fail
  obtain ⟨WX, hWX⟩ : ∃ WX, WX = ((w2.alloc (.cells #[.int .i64 3, .int .u64 0, .string ⟨#[]⟩] 72 (0, 0))).alloc (.cells #[.int .i64 3, .int .i64 (x.at_ : Nat), .int .u64 1, .string ⟨#[]⟩, .bool false] 99 (0, 0))) := ⟨_, rfl⟩
  rw [← hWX]
  have hnf0 : ¬ dfoot b vs vo w2.heap.size := fun e => by have := HX.out.1.footLt _ e; omega
  have HR := Px.hid (show DrRep WX b s lim { x with at_ := q } vs vo ∧ Fr (dfoot b vs vo) w1 WX ∧ WX.heap[w2.heap.size]? = some (.cells #[.int .i64 3, .int .u64 0, .string ⟨#[]⟩] 72 (0, 0)) ∧ w2.heap.size < WX.heap.size from by
    rw [hWX]
    exact ⟨(HX.out.1.alloc _).alloc _, (HX.out.2.alloc _).alloc _, (Below.heap_alloc _ _ _ (by simp)).trans (heap_alloc_new w2 _), by simp; omega⟩)
  have xa0 : WX.cell? ⟨w2.heap.size, 0, none⟩ = some (.int .i64 3) := cellOf HR.out.2.2.1 0 rfl
  have xa2 : WX.cell? ⟨w2.heap.size, 2, none⟩ = some (.string ⟨#[]⟩) := cellOf HR.out.2.2.1 2 rfl
  have hnf := Px.hid hnf0
  have HWS := Px.hid (show w1.heap.size ≤ w2.heap.size from HX.out.2.size)
  clear hWX HX hnf0
  go_wp2_with fail
  refine (dtake_yes b n s lim _ _ _ _ HR.out.1 HS.out HT.out.1 HT.out.2.1 HT.out.2.2.1 HT.out.2.2.2.1 t HT.out.2.2.2.2 HN.out.1).mono ?_
  rintro r w3 ⟨rfl, hrp, hfr⟩
  have HR := Px.hid (show DrRep w3 b s lim { x with at_ := q + n } vs vo ∧ Fr (dfoot b vs vo) w1 w3 ∧ w3.heap[w2.heap.size]? = some (.cells #[.int .i64 3, .int .u64 0, .string ⟨#[]⟩] 72 (0, 0)) ∧ w2.heap.size < w3.heap.size from
    ⟨hrp, Fr.trans HR.out.2.1 hfr (fun _ _ e => .inl e), (hfr.block _ HR.out.2.2.2 (fun e => hnf.out (.inl e))).trans HR.out.2.2.1, Nat.lt_of_lt_of_le HR.out.2.2.2 hfr.size⟩)
  clear xa0 xa2
  have xa0 : w3.cell? ⟨w2.heap.size, 0, none⟩ = some (.int .i64 3) := cellOf HR.out.2.2.1 0 rfl
  have xa1 : w3.cell? ⟨w2.heap.size, 1, none⟩ = some (.int .u64 0) := cellOf HR.out.2.2.1 1 rfl
  have xa2 : w3.cell? ⟨w2.heap.size, 2, none⟩ = some (.string ⟨#[]⟩) := cellOf HR.out.2.2.1 2 rfl
  have xf2 := freeOf HR.out.2.2.1 2
  clear hrp hfr
  go_upto_region 20 with fail
  obtain ⟨WY, hWY⟩ : ∃ WY, WY = w3.setCell ⟨w2.heap.size, 2, none⟩ (S t) := ⟨_, rfl⟩
  rw [show w3.setCell ⟨w2.heap.size, 2, none⟩ (.string ⟨t.toArray⟩) = WY from hWY.symm]
  have hne : ∀ j, dfoot b vs vo j → WY.heap[j]? = w3.heap[j]? := fun j hj => by rw [hWY]; exact (Fr.setCell (Fr.refl (fun i => i = w2.heap.size) w3) (p := ⟨w2.heap.size, 2, none⟩) (.inl rfl) (S t)).block j (HR.out.1.footLt j hj) (fun e => hnf.out (e ▸ hj))
  have HR := Px.hid (show DrRep WY b s lim { x with at_ := q + n } vs vo ∧ Fr (dfoot b vs vo) w1 WY ∧ WY.heap[w2.heap.size]? = some (.cells #[.int .i64 3, .int .u64 0, S t] 72 (0, 0)) ∧ w2.heap.size < WY.heap.size from
    ⟨HR.out.1.keep hne, by rw [hWY]; exact HR.out.2.1.setCell (.inr HWS.out) _, by rw [hWY, heap_setCell_same _ w2.heap.size 2 _ _ _ HR.out.2.2.1]; rfl, by rw [hWY]; simpa using HR.out.2.2.2⟩)
  clear hWY hne xa0 xa1 xa2 xf2
  have xa2 : WY.cell? ⟨w2.heap.size, 2, none⟩ = some (S t) := cellOf HR.out.2.2.1 2 rfl
  go_wp2_with fail
  refine (valid_any _ _ HV.out.2.2 (HV.out.1 _ HR.out.2.1)).mono ?_
  rintro e WZ ⟨rfl, hbl⟩
  have HR := Px.hid (show DrRep WZ b s lim { x with at_ := q + n } vs vo ∧ Fr (dfoot b vs vo) w1 WZ ∧ WZ.heap[w2.heap.size]? = some (.cells #[.int .i64 3, .int .u64 0, S t] 72 (0, 0)) ∧ w2.heap.size < WZ.heap.size from
    ⟨HR.out.1.keep (fun j hj => hbl.block j (HR.out.1.footLt j hj)), Fr.trans HR.out.2.1 (Fr.below hbl) (fun _ _ x => x), (hbl.block _ HR.out.2.2.2).trans HR.out.2.2.1, Nat.lt_of_lt_of_le HR.out.2.2.2 hbl.size⟩)
  clear hbl xa2
  rw [HV.out.2.1]
  go_wp2
  exact ⟨rfl, rfl, HR.out.2.1⟩

end Go.Proofs.YtclbbfmpkhfigaaDoor

/-! The walk over the program's begin (package cbor), all its cases joined. -/
namespace Go.Proofs.YtclbbfmpkhfigaaDoor
open Go.RowKit Go.Px

theorem want_place {s : Bytes} {lim : Lim} {p c : Nat} (h : D7.want s lim p = .ok c) : p < s.length ∧ (p : Int) < lim.b ∧ c < 256 := by
  unfold D7.want at h
  by_cases h1 : s.length ≤ p
  · rw [if_pos h1] at h; cases h
  · rw [if_neg h1] at h
    by_cases h2 : lim.b ≤ p
    · rw [if_pos h2] at h; cases h
    · rw [if_neg h2] at h
      simp only [Except.ok.injEq] at h
      exact ⟨by omega, by omega, by rw [← h]; exact UInt8.toNat_lt _⟩
theorem argN_place {s : Bytes} {lim : Lim} : ∀ (m p n v : Nat), D7.argN s lim m p n = .ok v → p ≤ s.length → (p : Int) ≤ lim.b → p + m ≤ s.length ∧ ((p + m : Nat) : Int) ≤ lim.b ∧ v < (n + 1) * 256 ^ m
  | 0, p, n, v, h, hp, hb => by
    have : n = v := by simpa [D7.argN] using h
    subst this
    exact ⟨hp, by simpa using hb, by simp⟩
  | m + 1, p, n, v, h, hp, hb => by
    unfold D7.argN at h
    cases hw : D7.want s lim p with
    | error e => rw [hw] at h; cases h
    | ok c =>
      rw [hw] at h
      obtain ⟨q1, q2, q3⟩ := want_place hw
      obtain ⟨r1, r2, r3⟩ := argN_place m (p + 1) (n * 256 + c) v h (by omega) (by omega)
      refine ⟨by omega, by omega, Nat.lt_of_lt_of_le r3 ?_⟩
      rw [Nat.pow_succ, Nat.mul_comm (256 ^ m) 256, ← Nat.mul_assoc]
      exact Nat.mul_le_mul_right _ (by omega)
theorem head_place {s : Bytes} {lim : Lim} {o p k n q : Nat} (h : D7.head s lim o p = .ok (k, n, q)) : p < q ∧ q ≤ s.length ∧ (q : Int) ≤ lim.b ∧ n < 18446744073709551616 ∧ k < 8 := by
  obtain ⟨c, hc, hcb, hkc, _, h27, _, he, hqe⟩ := head_ok h
  obtain ⟨q1, q2, _⟩ := want_place hc
  unfold argD at he
  by_cases h24 : c % 32 < 24
  · rw [if_pos h24] at he hqe
    simp only [Except.ok.injEq] at he
    exact ⟨by omega, by omega, by omega, by omega, by omega⟩
  · rw [if_neg h24] at he hqe
    cases ha : D7.argN s lim (2 ^ (c % 32 - 24)) (p + 1) 0 with
    | error e => rw [ha] at he; cases he
    | ok v =>
      rw [ha] at he
      simp only at he
      obtain ⟨r1, r2, r3⟩ := argN_place _ _ _ _ ha (by omega) (by omega)
      by_cases h5 : v < Cf.least (c % 32)
      · rw [if_pos h5] at he; cases he
      · rw [if_neg h5] at he
        simp only [Except.ok.injEq] at he
        subst he
        obtain ⟨j, hj⟩ : ∃ j, j = c % 32 - 24 := ⟨_, rfl⟩
        have hj3 : j ≤ 3 := by omega
        rw [← hj] at r1 r2 r3 hqe
        have : v < 18446744073709551616 := by
          have : j = 0 ∨ j = 1 ∨ j = 2 ∨ j = 3 := by omega
          rcases this with rfl | rfl | rfl | rfl <;> exact Nat.lt_of_lt_of_le r3 (by decide)
        obtain ⟨u, hu⟩ : ∃ u, u = 2 ^ j := ⟨_, rfl⟩
        rw [← hu] at r1 r2 hqe
        clear r3 hu
        exact ⟨by omega, by omega, by omega, this, by omega⟩

theorem begin_any (s : Bytes) (lim : Lim) (hs : s.length ≤ 140737488355327) (hlb : 1 ≤ lim.b) (hlb2 : lim.b ≤ 262144) (b : Nat) (x : D7.Dx) (vs vo : Value) (w : World) (h : DrRep w b s lim x vs vo) (hx : x.at_ ≤ 262144) (hok : DOk s lim x) (hT : ∀ w2, Fr (dfoot b vs vo) w w2 → Tabs w2) :
    Calls Tryd.prog 49 #[.pointer (some ⟨b, 0, none⟩)] w fun r w' => BegPost w b s lim (dfoot b vs vo) (D7.beginD s lim x) r w' := by
  unfold D7.beginD
  cases hh : D7.head s lim x.out.length x.at_ with
  | error e =>
    simp only
    have hfin : (Calls Tryd.prog 49 #[.pointer (some ⟨b, 0, none⟩)] w fun r w' => r = panics e ∧ Fr (It b) w w') := by
      rcases head_bad hh with he | ⟨c, hc, hcb, ⟨hi, rfl⟩ | ⟨hi, ⟨h27, rfl⟩ | ⟨h27, ⟨h7, h2 | h2, rfl⟩ | ⟨h7, he⟩⟩⟩⟩
      · exact begin_want s lim b x vs vo w h e he
      · exact begin_full s lim b x vs vo w h c hc hi
      · exact begin_form s lim b x vs vo w h c hc hcb hi h27
      · exact begin_kind1 s lim b x vs vo w h c hc hcb hi h27 h7 h2
      · exact begin_kind2 s lim b x vs vo w h c hc hcb hi h27 h7 h2
      · exact begin_arg s lim hs b x vs vo w h hx c hc hcb hi h27 h7 e he
    exact hfin.mono fun r w' ⟨hr, hf⟩ => ⟨hr, It.dfoot hf⟩
  | ok v =>
    obtain ⟨k, n, q⟩ := v
    obtain ⟨hpq, hqs, hqb, hn, hk⟩ := head_place hh
    simp only
    by_cases h2 : k = 2
    · subst h2
      rw [if_pos (by rfl)]
      cases ht : D7.take s lim q n with
      | error e => exact begin_k2bad s lim hs hlb hlb2 b n q x vs vo w h hx hok hqs hqb hh e ht
      | ok t =>
        simp only
        rw [if_neg (by simp)]
        exact begin_k2 s lim hs hlb hlb2 b n q x vs vo w h hx hok hqs hqb hh t ht
    by_cases h3 : k = 3
    · subst h3
      rw [if_pos (by rfl)]
      cases ht : D7.take s lim q n with
      | error e => exact begin_k3bad s lim hs hlb hlb2 b n q x vs vo w h hx hok hqs hqb hh e ht
      | ok t =>
        simp only
        cases hv : Lib.validD t with
        | false =>
          rw [if_pos (by rfl)]
          exact begin_k3_inv s lim hs hlb hlb2 b n q x vs vo w h hx hok hqs hqb hh t ht hT hv
        | true =>
          rw [if_neg (by simp)]
          exact begin_k3 s lim hs hlb hlb2 b n q x vs vo w h hx hok hqs hqb hh t ht hT hv
    have hk23 : ¬ ((k == 2 || k == 3) = true) := by simp [h2, h3]
    rw [if_neg hk23]
    by_cases h4 : k = 4
    · subst h4
      rw [if_pos (by rfl)]
      unfold D7.push
      by_cases hd : (x.stack.length : Int) = lim.d
      · rw [if_pos hd]; exact begin_k4_full s lim hs b n q x vs vo w h hx hok hh hd
      · rw [if_neg hd]; exact begin_k4 s lim hs b n q x vs vo w h hx hok hh hd
    rw [if_neg (by simpa using h4)]
    by_cases h5 : k = 5
    · subst h5
      rw [if_pos (by rfl)]
      unfold D7.push
      by_cases hd : (x.stack.length : Int) = lim.d
      · rw [if_pos hd]; exact begin_k5_full s lim hs b n q x vs vo w h hx hok hh hd
      · rw [if_neg hd]; exact begin_k5 s lim hs b n q x vs vo w h hx hok hh hd
    rw [if_neg (by simpa using h5)]
    by_cases h6 : k = 6
    · subst h6
      rw [if_pos (by rfl)]
      unfold D7.push
      by_cases hd : (x.stack.length : Int) = lim.d
      · rw [if_pos hd]; exact begin_k6_full s lim hs b n q x vs vo w h hx hok hh hd
      · rw [if_neg hd]; exact begin_k6 s lim hs b n q x vs vo w h hx hok hh hd
    rw [if_neg (by simpa using h6)]
    have h017 : k = 0 ∨ k = 1 ∨ k = 7 := by omega
    rcases h017 with rfl | rfl | rfl
    · exact begin_k0 s lim hs b n q x vs vo w h hx hok hqs hh
    · exact begin_k1 s lim hs b n q x vs vo w h hx hok hqs hh
    · exact begin_k7 s lim hs b n q x vs vo w h hx hok hqs hh
end Go.Proofs.YtclbbfmpkhfigaaDoor
