/-
  The walk over the program's begin (package cbor) where an item is begun that holds others.
-/
import Derived.Test.YtddiabaagpmkgaaDoorDc
namespace Go.Proofs.YtddiabaagpmkgaaDoor
open Go.RowKit Go.Px

theorem Tryd.infoDFm : (Tryd.prog.info? 108).map (fun i => (i.zero, i.size, i.bytes)) = some (some (.agg #[.int .i64 0, .int .i64 0, .int .u64 0, .string ByteArray.empty, .bool false]), 5, 48) := by kernel_rfl

set_option maxRecDepth 100000 in
set_option maxHeartbeats 4000000 in
theorem begin_k4_full (s : Bytes) (lim : Lim) (hs : s.length ≤ 140737488355327) (b n q : Nat) (x : D7.Dx) (vs vo : Value) (w : World) (h : DrRep w b s lim x vs vo) (hx : x.at_ ≤ 262144) (hok : DOk s lim x) (hh : D7.head s lim x.out.length x.at_ = .ok (4, n, q)) (hd : (x.stack.length : Int) = lim.d) :
    Calls Tryd.prog 51 #[.pointer (some ⟨b, 0, none⟩)] w fun r w' => r = panics (x.at_, 10) ∧ Fr (dfoot b vs vo) w w' := by
  have hol : x.out.length ≤ 1000000 := hok.2.2.1
  have hsl9 : x.stack.length ≤ 900 := hok.2.1
  have hdb : ((x.stack.length : Int) == lim.d) = true := by simpa using hd
  clear hd
  obtain ⟨c, hc, hcb, hkc, hi, h27, h7, he, hqe⟩ := head_ok hh
  have hw := dwant_yes b x.at_ s lim x vs vo w h c hc
  have HW := Px.hid hw
  have HH := Px.hid h
  obtain ⟨_, _, c2, _, c5, _, c7⟩ := h.cells
  obtain ⟨oa, oc, hov, _⟩ := h.out.len
  rw [hov] at c7
  have HOV := Px.hid hov
  obtain ⟨a, ha⟩ : ∃ a, a = c % 32 := ⟨_, rfl⟩
  have hq : (c : Int) / 32 = 4 := by omega
  have hmd : (c : Int) % 32 = (a : Int) := by omega
  have ha32 : a < 32 := by omega
  rw [← ha] at h27 he h7 hqe
  have hib : ((x.out.length : Int) == lim.i) = false := by simpa using hi
  have z27 : ¬ (27 : Int) < a := by omega
  have z7 : True := trivial
  clear h7 hkc
  have ep1 : ((x.at_ + 1 : Nat) : Int) = (x.at_ : Int) + 1 := by omega
  have f5 := HH.out.free 5
  have hst1 := hok.1
  have HE := Px.hid (And.intro he (And.intro hqe (And.intro hs (And.intro h27 hok))))
  clear ha hw hc h hov hi he h27 hqe hh hs hok hst1
  go_enter Tryd.func51, Tryd.ntmps51
  go_wp2_with fail
  refine HW.out.mono ?_
  rintro r w1 ⟨rfl, rfl⟩
  go_wp2_with fail
  go_quiet (fail)
  have hmv := (HH.out.drewN nq).move (x.at_ + 1)
  rw [ep1] at hmv
  have HMV := Px.hid (And.intro hmv ((Fr.drewN (Fr.refl (It b) w1) nq).setCell (p := ⟨b, 5, none⟩) (.inl rfl) (.int .i64 ((x.at_ : Int) + 1))))
  clear hmv
  go_wp2_with fail
  refine (arg_any b x.at_ a s lim _ vs vo _ HMV.out.1 (show x.at_ + 1 ≤ 1000000 by omega) HE.out.2.2.2.1).mono ?_
  intro r w2 hpost
  unfold ArgPost at hpost
  rw [show argD s lim x.at_ a ({ x with at_ := x.at_ + 1 } : D7.Dx).at_ = .ok n from HE.out.1] at hpost
  obtain ⟨rfl, hrep, hf⟩ := hpost
  have HX := Px.hid (And.intro (show DrRep w2 b s lim { x with at_ := q } vs vo from by rw [HE.out.2.1]; exact hrep) (It.dfoot (vs := vs) (vo := vo) (HMV.out.2.trans hf (fun _ _ h => h))))
  clear hrep hf HMV c2 c5 c7 f5
  have hnf : ¬ dfoot b vs vo (w2.heap.size + 1) := fun e => by have := HX.out.1.footLt _ e; omega
  go_upto_region 29 with fail
  obtain ⟨WX, hWX⟩ : ∃ WX, WX = ((w2.alloc (.cells #[.int .i64 4, .int .u64 (n : Nat), .string ⟨#[]⟩] 62 (0, 0))).alloc (.cells #[.int .i64 4, .int .i64 (x.at_ : Nat), .int .u64 (n : Nat), .string ⟨#[]⟩, .bool false] 108 (0, 0))) := ⟨_, rfl⟩
  rw [← hWX]
  have HR := Px.hid (show DrRep WX b s lim { x with at_ := q } vs vo ∧ Fr (dfoot b vs vo) w1 WX ∧ w2.heap.size + 1 < WX.heap.size from by rw [hWX]; exact ⟨(HX.out.1.alloc _).alloc _, (HX.out.2.alloc _).alloc _, by simp⟩)
  have xa0 : WX.cell? ⟨w2.heap.size, 0, none⟩ = some (.int .i64 4) := by rw [hWX]; exact cell_alloc (cellOf (heap_alloc_new w2 _) 0 rfl)
  have xa1 : WX.cell? ⟨w2.heap.size, 1, none⟩ = some (.int .u64 (n : Nat)) := by rw [hWX]; exact cell_alloc (cellOf (heap_alloc_new w2 _) 1 rfl)
  have xa2 : WX.cell? ⟨w2.heap.size, 2, none⟩ = some (.string ⟨#[]⟩) := by rw [hWX]; exact cell_alloc (cellOf (heap_alloc_new w2 _) 2 rfl)
  have hbn : WX.heap[w2.heap.size + 1]? = some (.cells #[.int .i64 4, .int .i64 (x.at_ : Nat), .int .u64 (n : Nat), .string ⟨#[]⟩, .bool false] 108 (0, 0)) := by
    rw [hWX]
    have := heap_alloc_new (w2.alloc (.cells #[.int .i64 4, .int .u64 (n : Nat), .string ⟨#[]⟩] 62 (0, 0))) (.cells #[.int .i64 4, .int .i64 (x.at_ : Nat), .int .u64 (n : Nat), .string ⟨#[]⟩, .bool false] 108 (0, 0))
    simpa using this
  have HBN := Px.hid hbn
  clear hWX HX hbn
  obtain ⟨_, c1, _, _, _, c6, _⟩ := HR.out.1.cells
  obtain ⟨sa, sc, hsv⟩ := HR.out.1.stackLen
  rw [hsv] at c6
  clear hsv
  go_quiet (fail)
  go_wp2
  exact ⟨rfl, rfl, HR.out.2.1.drewN nq⟩

set_option maxRecDepth 100000 in
set_option maxHeartbeats 4000000 in
theorem begin_k4 (s : Bytes) (lim : Lim) (hs : s.length ≤ 140737488355327) (b n q : Nat) (x : D7.Dx) (vs vo : Value) (w : World) (h : DrRep w b s lim x vs vo) (hx : x.at_ ≤ 262144) (hok : DOk s lim x) (hh : D7.head s lim x.out.length x.at_ = .ok (4, n, q)) (hd : ¬ (x.stack.length : Int) = lim.d) :
    Calls Tryd.prog 51 #[.pointer (some ⟨b, 0, none⟩)] w fun r w' => BegPost w b s lim (dfoot b vs vo) (.ok { at_ := q, stack := ⟨4, x.at_, n, [], false⟩ :: x.stack, out := x.out ++ [⟨4, n, []⟩] }) r w' := by
  have hol : x.out.length ≤ 1000000 := hok.2.2.1
  have hsl9 : x.stack.length ≤ 900 := hok.2.1
  have hdb : ((x.stack.length : Int) == lim.d) = false := by simpa using hd
  clear hd
  obtain ⟨c, hc, hcb, hkc, hi, h27, h7, he, hqe⟩ := head_ok hh
  have hw := dwant_yes b x.at_ s lim x vs vo w h c hc
  have HW := Px.hid hw
  have HH := Px.hid h
  obtain ⟨_, _, c2, _, c5, _, c7⟩ := h.cells
  obtain ⟨oa, oc, hov, _⟩ := h.out.len
  rw [hov] at c7
  have HOV := Px.hid hov
  obtain ⟨a, ha⟩ : ∃ a, a = c % 32 := ⟨_, rfl⟩
  have hq : (c : Int) / 32 = 4 := by omega
  have hmd : (c : Int) % 32 = (a : Int) := by omega
  have ha32 : a < 32 := by omega
  rw [← ha] at h27 he h7 hqe
  have hib : ((x.out.length : Int) == lim.i) = false := by simpa using hi
  have z27 : ¬ (27 : Int) < a := by omega
  have z7 : True := trivial
  clear h7 hkc
  have ep1 : ((x.at_ + 1 : Nat) : Int) = (x.at_ : Int) + 1 := by omega
  have f5 := HH.out.free 5
  have hst1 := hok.1
  have HE := Px.hid (And.intro he (And.intro hqe (And.intro hs (And.intro h27 hok))))
  clear ha hw hc h hov hi he h27 hqe hh hs hok hst1
  go_enter Tryd.func51, Tryd.ntmps51
  go_wp2_with fail
  refine HW.out.mono ?_
  rintro r w1 ⟨rfl, rfl⟩
  go_wp2_with fail
  go_quiet (fail)
  have hmv := (HH.out.drewN nq).move (x.at_ + 1)
  rw [ep1] at hmv
  have HMV := Px.hid (And.intro hmv ((Fr.drewN (Fr.refl (It b) w1) nq).setCell (p := ⟨b, 5, none⟩) (.inl rfl) (.int .i64 ((x.at_ : Int) + 1))))
  clear hmv
  go_wp2_with fail
  refine (arg_any b x.at_ a s lim _ vs vo _ HMV.out.1 (show x.at_ + 1 ≤ 1000000 by omega) HE.out.2.2.2.1).mono ?_
  intro r w2 hpost
  unfold ArgPost at hpost
  rw [show argD s lim x.at_ a ({ x with at_ := x.at_ + 1 } : D7.Dx).at_ = .ok n from HE.out.1] at hpost
  obtain ⟨rfl, hrep, hf⟩ := hpost
  have HX := Px.hid (And.intro (show DrRep w2 b s lim { x with at_ := q } vs vo from by rw [HE.out.2.1]; exact hrep) (It.dfoot (vs := vs) (vo := vo) (HMV.out.2.trans hf (fun _ _ h => h))))
  clear hrep hf HMV c2 c5 c7 f5
  have hnf : ¬ dfoot b vs vo (w2.heap.size + 1) := fun e => by have := HX.out.1.footLt _ e; omega
  go_upto_region 29 with fail
  obtain ⟨WX, hWX⟩ : ∃ WX, WX = ((w2.alloc (.cells #[.int .i64 4, .int .u64 (n : Nat), .string ⟨#[]⟩] 62 (0, 0))).alloc (.cells #[.int .i64 4, .int .i64 (x.at_ : Nat), .int .u64 (n : Nat), .string ⟨#[]⟩, .bool false] 108 (0, 0))) := ⟨_, rfl⟩
  rw [← hWX]
  have HR := Px.hid (show DrRep WX b s lim { x with at_ := q } vs vo ∧ Fr (dfoot b vs vo) w1 WX ∧ w2.heap.size + 1 < WX.heap.size from by rw [hWX]; exact ⟨(HX.out.1.alloc _).alloc _, (HX.out.2.alloc _).alloc _, by simp⟩)
  have xa0 : WX.cell? ⟨w2.heap.size, 0, none⟩ = some (.int .i64 4) := by rw [hWX]; exact cell_alloc (cellOf (heap_alloc_new w2 _) 0 rfl)
  have xa1 : WX.cell? ⟨w2.heap.size, 1, none⟩ = some (.int .u64 (n : Nat)) := by rw [hWX]; exact cell_alloc (cellOf (heap_alloc_new w2 _) 1 rfl)
  have xa2 : WX.cell? ⟨w2.heap.size, 2, none⟩ = some (.string ⟨#[]⟩) := by rw [hWX]; exact cell_alloc (cellOf (heap_alloc_new w2 _) 2 rfl)
  have hbn : WX.heap[w2.heap.size + 1]? = some (.cells #[.int .i64 4, .int .i64 (x.at_ : Nat), .int .u64 (n : Nat), .string ⟨#[]⟩, .bool false] 108 (0, 0)) := by
    rw [hWX]
    have := heap_alloc_new (w2.alloc (.cells #[.int .i64 4, .int .u64 (n : Nat), .string ⟨#[]⟩] 62 (0, 0))) (.cells #[.int .i64 4, .int .i64 (x.at_ : Nat), .int .u64 (n : Nat), .string ⟨#[]⟩, .bool false] 108 (0, 0))
    simpa using this
  have HBN := Px.hid hbn
  clear hWX HX hbn
  obtain ⟨_, c1, _, _, _, c6, _⟩ := HR.out.1.cells
  obtain ⟨sa, sc, hsv⟩ := HR.out.1.stackLen
  rw [hsv] at c6
  clear hsv
  go_quiet (fail)
  obtain ⟨l, hl⟩ : ∃ l : Nat, l = n := ⟨_, rfl⟩
  have HLV := Px.hid (show (((n : Nat) : Int) : Int) = (l : Int) by omega)
  have HL := Px.hid hl
  clear hl
  obtain ⟨WY, hWY⟩ : ∃ WY, WY = WX.drewN nq := ⟨_, rfl⟩
  have HR := Px.hid (show DrRep WY b s lim { x with at_ := q } vs vo ∧ Fr (dfoot b vs vo) w1 WY ∧ w2.heap.size + 1 < WY.heap.size from by rw [hWY]; exact ⟨HR.out.1.drewN nq, HR.out.2.1.drewN nq, HR.out.2.2⟩)
  have HBN := Px.hid (show WY.heap[w2.heap.size + 1]? = some (.cells #[.int .i64 4, .int .i64 (x.at_ : Nat), .int .u64 (l : Nat), .string ⟨#[]⟩, .bool false] 108 (0, 0)) from by rw [hWY, ← HLV.out]; exact HBN.out)
  have ya0 : WY.cell? ⟨w2.heap.size, 0, none⟩ = some (.int .i64 4) := by rw [hWY]; exact xa0
  have ya1 : WY.cell? ⟨w2.heap.size, 1, none⟩ = some (.int .u64 (n : Nat)) := by rw [hWY]; exact xa1
  have ya2 : WY.cell? ⟨w2.heap.size, 2, none⟩ = some (.string ⟨#[]⟩) := by rw [hWY]; exact xa2
  rw [← hWY]
  clear hWY xa0 xa1 xa2 c1 c6
  have c7 : WY.cell? ⟨b, 7, none⟩ = some vo := HR.out.1.cells.2.2.2.2.2.2
  have f7 := HR.out.1.free 7
  have hb : b < WY.heap.size := HR.out.1.lt
  obtain ⟨i0, hi0, hz0, hz1, hz2⟩ := info_parts Tryd.infoAtom
  go_upto_region 31 with fail
  go_cut [] (fun wx => DAfter WY wx b s lim { x with at_ := q } ⟨4, n, []⟩ vs vo)
  case first =>
    go_region_law
      ((refine step_append_lies _ (by rfl) _ _ _ (by rfl) 0 62 i0 _ 3 32 Tryd.underlying50 hi0 hz0 hz1 hz2 rfl (by omega) vo x.out.length (x.out.flatMap cAtom) (by rfl) ((HR.out.1.out.alloc _).drew) ⟨WY.heap.size, 0, none⟩ 1 1 (cAtom ⟨4, n, []⟩) (by rfl) (by rfl) (World.news_of_block (cs := #[.int .i64 4, .int .u64 n, .string ⟨#[]⟩]) (t := 62) (fr := (0, 0)) (heap_alloc_new WY _)) (by simp [cAtom, Value.oneCell']) (by omega) (by unfold maxLen; omega) (by omega) (by simp) (WY.heap.size + 1) (by simp) ?_; intro gg cap w1 hown1 hgrow hat hlt; have k7 := grown_cell hgrow c7 HR.out.1.ob.ne; have e7 := grown_free hgrow c7 f7 HR.out.1.ob.ne))
    all_goals (go_wp2_with fail; go_meet; exact HR.out.1.afterOut hown1 (grown_alloc hgrow) (hat.elim .inl (fun e => .inr (by omega))))
  case rest =>
    obtain ⟨vo', hy, hyf, hyn⟩ := hcut
    have hbn2 : wc.heap[w2.heap.size + 1]? = some (.cells #[.int .i64 4, .int .i64 (x.at_ : Nat), .int .u64 (l : Nat), .string ⟨#[]⟩, .bool false] 108 (0, 0)) := (hyf.block _ HR.out.2.2 hnf).trans HBN.out
    have xb0 := cellOf hbn2 0 rfl
    have xb1 := cellOf hbn2 1 rfl
    have xb2 := cellOf hbn2 2 rfl
    have xb3 := cellOf hbn2 3 rfl
    have xb4 := cellOf hbn2 4 rfl
    have HY := Px.hid (And.intro hy (And.intro hyf hyn))
    clear hy hyf hyn c7 f7 ya0 ya1 ya2 hbn2
    have hb2 : b < wc.heap.size := HY.out.1.lt
    have c6 : wc.cell? ⟨b, 6, none⟩ = some vs := HY.out.1.cells.2.2.2.2.2.1
    have f6 := HY.out.1.free 6
    obtain ⟨j0, hj0, hy0, hy1, hy2⟩ := info_parts Tryd.infoDFm
    have HS := Px.hid (show wc.ownsRow 0 108 5 vs x.stack.length (x.stack.reverse.flatMap cFm) by have := HY.out.1.stack; unfold Owns at this; rw [List.length_reverse] at this; exact this)
    go_upto_region 32 with fail
    go_region_law
      ((refine step_append_lies _ (by rfl) _ _ _ (by rfl) 0 108 j0 _ 5 48 Tryd.underlying81 hj0 hy0 hy1 hy2 rfl (by omega) vs x.stack.length (x.stack.reverse.flatMap cFm) (by rfl) ((HS.out.alloc _).drew) ⟨wc.heap.size, 0, none⟩ 1 1 (cFm ⟨4, x.at_, l, [], false⟩) (by rfl) (by rfl) (World.news_of_block (cs := #[.int .i64 4, .int .i64 (x.at_ : Nat), .int .u64 (l : Nat), .string ⟨#[]⟩, .bool false]) (t := 108) (fr := (0, 0)) (heap_alloc_new wc _)) (by simp [cFm, Value.oneCell']) (by omega) (by unfold maxLen; omega) (by omega) (by simp) (wc.heap.size + 1) (by simp) ?_; intro gg cap w1x hown1 hgrow hat hlt; have k6 := grown_cell hgrow c6 HY.out.1.sb.ne; have e6 := grown_free hgrow c6 f6 HY.out.1.sb.ne))
    all_goals go_wp2
    all_goals
      obtain ⟨vs', hz, hzf, hzn⟩ := HY.out.1.afterPush (a := ⟨4, x.at_, l, [], false⟩) hown1 (grown_alloc hgrow) (hat.elim .inl (fun e => .inr (by omega)))
      have hfA := HR.out.2.1.step (Fresh.refl _ _) HY.out.2.1
      have hnA := Fresh.trans (Fresh.refl (w1) (dfoot b vs vo)) HR.out.2.1.size HY.out.2.2
      refine bodyPost_ret (results_none rfl _ _ _) rfl ?_
      rw [HL.out] at hz
      exact ⟨rfl, _, ⟨_, _, hz, rfl⟩, hfA.step hnA hzf, Fresh.trans hnA hfA.size hzn⟩

set_option maxRecDepth 100000 in
set_option maxHeartbeats 4000000 in
theorem begin_k5_full (s : Bytes) (lim : Lim) (hs : s.length ≤ 140737488355327) (b n q : Nat) (x : D7.Dx) (vs vo : Value) (w : World) (h : DrRep w b s lim x vs vo) (hx : x.at_ ≤ 262144) (hok : DOk s lim x) (hh : D7.head s lim x.out.length x.at_ = .ok (5, n, q)) (hd : (x.stack.length : Int) = lim.d) :
    Calls Tryd.prog 51 #[.pointer (some ⟨b, 0, none⟩)] w fun r w' => r = panics (x.at_, 10) ∧ Fr (dfoot b vs vo) w w' := by
  have hol : x.out.length ≤ 1000000 := hok.2.2.1
  have hsl9 : x.stack.length ≤ 900 := hok.2.1
  have hdb : ((x.stack.length : Int) == lim.d) = true := by simpa using hd
  clear hd
  obtain ⟨c, hc, hcb, hkc, hi, h27, h7, he, hqe⟩ := head_ok hh
  have hw := dwant_yes b x.at_ s lim x vs vo w h c hc
  have HW := Px.hid hw
  have HH := Px.hid h
  obtain ⟨_, _, c2, _, c5, _, c7⟩ := h.cells
  obtain ⟨oa, oc, hov, _⟩ := h.out.len
  rw [hov] at c7
  have HOV := Px.hid hov
  obtain ⟨a, ha⟩ : ∃ a, a = c % 32 := ⟨_, rfl⟩
  have hq : (c : Int) / 32 = 5 := by omega
  have hmd : (c : Int) % 32 = (a : Int) := by omega
  have ha32 : a < 32 := by omega
  rw [← ha] at h27 he h7 hqe
  have hib : ((x.out.length : Int) == lim.i) = false := by simpa using hi
  have z27 : ¬ (27 : Int) < a := by omega
  have z7 : True := trivial
  clear h7 hkc
  have ep1 : ((x.at_ + 1 : Nat) : Int) = (x.at_ : Int) + 1 := by omega
  have f5 := HH.out.free 5
  have hst1 := hok.1
  have HE := Px.hid (And.intro he (And.intro hqe (And.intro hs (And.intro h27 hok))))
  clear ha hw hc h hov hi he h27 hqe hh hs hok hst1
  go_enter Tryd.func51, Tryd.ntmps51
  go_wp2_with fail
  refine HW.out.mono ?_
  rintro r w1 ⟨rfl, rfl⟩
  go_wp2_with fail
  go_quiet (fail)
  have hmv := (HH.out.drewN nq).move (x.at_ + 1)
  rw [ep1] at hmv
  have HMV := Px.hid (And.intro hmv ((Fr.drewN (Fr.refl (It b) w1) nq).setCell (p := ⟨b, 5, none⟩) (.inl rfl) (.int .i64 ((x.at_ : Int) + 1))))
  clear hmv
  go_wp2_with fail
  refine (arg_any b x.at_ a s lim _ vs vo _ HMV.out.1 (show x.at_ + 1 ≤ 1000000 by omega) HE.out.2.2.2.1).mono ?_
  intro r w2 hpost
  unfold ArgPost at hpost
  rw [show argD s lim x.at_ a ({ x with at_ := x.at_ + 1 } : D7.Dx).at_ = .ok n from HE.out.1] at hpost
  obtain ⟨rfl, hrep, hf⟩ := hpost
  have HX := Px.hid (And.intro (show DrRep w2 b s lim { x with at_ := q } vs vo from by rw [HE.out.2.1]; exact hrep) (It.dfoot (vs := vs) (vo := vo) (HMV.out.2.trans hf (fun _ _ h => h))))
  clear hrep hf HMV c2 c5 c7 f5
  have hmul : IntKind.u64.wrap (2 * min (n : Int) 1099511627776) = 2 * min (n : Int) 1099511627776 := IntWalk.u64_in _ ⟨by omega, by omega⟩
  have hnf : ¬ dfoot b vs vo (w2.heap.size + 1) := fun e => by have := HX.out.1.footLt _ e; omega
  go_upto_region 29 with ((go_at_call 73; refine (least_u64 _ _ _).mono ?_; rintro e w' ⟨rfl, rfl⟩))
  obtain ⟨WX, hWX⟩ : ∃ WX, WX = ((w2.alloc (.cells #[.int .i64 5, .int .u64 (n : Nat), .string ⟨#[]⟩] 62 (0, 0))).alloc (.cells #[.int .i64 5, .int .i64 (x.at_ : Nat), .int .u64 (2 * min (n : Int) 1099511627776), .string ⟨#[]⟩, .bool false] 108 (0, 0))) := ⟨_, rfl⟩
  rw [← hWX]
  have HR := Px.hid (show DrRep WX b s lim { x with at_ := q } vs vo ∧ Fr (dfoot b vs vo) w1 WX ∧ w2.heap.size + 1 < WX.heap.size from by rw [hWX]; exact ⟨(HX.out.1.alloc _).alloc _, (HX.out.2.alloc _).alloc _, by simp⟩)
  have xa0 : WX.cell? ⟨w2.heap.size, 0, none⟩ = some (.int .i64 5) := by rw [hWX]; exact cell_alloc (cellOf (heap_alloc_new w2 _) 0 rfl)
  have xa1 : WX.cell? ⟨w2.heap.size, 1, none⟩ = some (.int .u64 (n : Nat)) := by rw [hWX]; exact cell_alloc (cellOf (heap_alloc_new w2 _) 1 rfl)
  have xa2 : WX.cell? ⟨w2.heap.size, 2, none⟩ = some (.string ⟨#[]⟩) := by rw [hWX]; exact cell_alloc (cellOf (heap_alloc_new w2 _) 2 rfl)
  have hbn : WX.heap[w2.heap.size + 1]? = some (.cells #[.int .i64 5, .int .i64 (x.at_ : Nat), .int .u64 (2 * min (n : Int) 1099511627776), .string ⟨#[]⟩, .bool false] 108 (0, 0)) := by
    rw [hWX]
    have := heap_alloc_new (w2.alloc (.cells #[.int .i64 5, .int .u64 (n : Nat), .string ⟨#[]⟩] 62 (0, 0))) (.cells #[.int .i64 5, .int .i64 (x.at_ : Nat), .int .u64 (2 * min (n : Int) 1099511627776), .string ⟨#[]⟩, .bool false] 108 (0, 0))
    simpa using this
  have HBN := Px.hid hbn
  clear hWX HX hbn
  obtain ⟨_, c1, _, _, _, c6, _⟩ := HR.out.1.cells
  obtain ⟨sa, sc, hsv⟩ := HR.out.1.stackLen
  rw [hsv] at c6
  clear hsv
  go_quiet (fail)
  go_wp2
  exact ⟨rfl, rfl, HR.out.2.1.drewN nq⟩

set_option maxRecDepth 100000 in
set_option maxHeartbeats 4000000 in
theorem begin_k5 (s : Bytes) (lim : Lim) (hs : s.length ≤ 140737488355327) (b n q : Nat) (x : D7.Dx) (vs vo : Value) (w : World) (h : DrRep w b s lim x vs vo) (hx : x.at_ ≤ 262144) (hok : DOk s lim x) (hh : D7.head s lim x.out.length x.at_ = .ok (5, n, q)) (hd : ¬ (x.stack.length : Int) = lim.d) :
    Calls Tryd.prog 51 #[.pointer (some ⟨b, 0, none⟩)] w fun r w' => BegPost w b s lim (dfoot b vs vo) (.ok { at_ := q, stack := ⟨5, x.at_, 2 * min n 1099511627776, [], false⟩ :: x.stack, out := x.out ++ [⟨5, n, []⟩] }) r w' := by
  have hol : x.out.length ≤ 1000000 := hok.2.2.1
  have hsl9 : x.stack.length ≤ 900 := hok.2.1
  have hdb : ((x.stack.length : Int) == lim.d) = false := by simpa using hd
  clear hd
  obtain ⟨c, hc, hcb, hkc, hi, h27, h7, he, hqe⟩ := head_ok hh
  have hw := dwant_yes b x.at_ s lim x vs vo w h c hc
  have HW := Px.hid hw
  have HH := Px.hid h
  obtain ⟨_, _, c2, _, c5, _, c7⟩ := h.cells
  obtain ⟨oa, oc, hov, _⟩ := h.out.len
  rw [hov] at c7
  have HOV := Px.hid hov
  obtain ⟨a, ha⟩ : ∃ a, a = c % 32 := ⟨_, rfl⟩
  have hq : (c : Int) / 32 = 5 := by omega
  have hmd : (c : Int) % 32 = (a : Int) := by omega
  have ha32 : a < 32 := by omega
  rw [← ha] at h27 he h7 hqe
  have hib : ((x.out.length : Int) == lim.i) = false := by simpa using hi
  have z27 : ¬ (27 : Int) < a := by omega
  have z7 : True := trivial
  clear h7 hkc
  have ep1 : ((x.at_ + 1 : Nat) : Int) = (x.at_ : Int) + 1 := by omega
  have f5 := HH.out.free 5
  have hst1 := hok.1
  have HE := Px.hid (And.intro he (And.intro hqe (And.intro hs (And.intro h27 hok))))
  clear ha hw hc h hov hi he h27 hqe hh hs hok hst1
  go_enter Tryd.func51, Tryd.ntmps51
  go_wp2_with fail
  refine HW.out.mono ?_
  rintro r w1 ⟨rfl, rfl⟩
  go_wp2_with fail
  go_quiet (fail)
  have hmv := (HH.out.drewN nq).move (x.at_ + 1)
  rw [ep1] at hmv
  have HMV := Px.hid (And.intro hmv ((Fr.drewN (Fr.refl (It b) w1) nq).setCell (p := ⟨b, 5, none⟩) (.inl rfl) (.int .i64 ((x.at_ : Int) + 1))))
  clear hmv
  go_wp2_with fail
  refine (arg_any b x.at_ a s lim _ vs vo _ HMV.out.1 (show x.at_ + 1 ≤ 1000000 by omega) HE.out.2.2.2.1).mono ?_
  intro r w2 hpost
  unfold ArgPost at hpost
  rw [show argD s lim x.at_ a ({ x with at_ := x.at_ + 1 } : D7.Dx).at_ = .ok n from HE.out.1] at hpost
  obtain ⟨rfl, hrep, hf⟩ := hpost
  have HX := Px.hid (And.intro (show DrRep w2 b s lim { x with at_ := q } vs vo from by rw [HE.out.2.1]; exact hrep) (It.dfoot (vs := vs) (vo := vo) (HMV.out.2.trans hf (fun _ _ h => h))))
  clear hrep hf HMV c2 c5 c7 f5
  have hmul : IntKind.u64.wrap (2 * min (n : Int) 1099511627776) = 2 * min (n : Int) 1099511627776 := IntWalk.u64_in _ ⟨by omega, by omega⟩
  have hnf : ¬ dfoot b vs vo (w2.heap.size + 1) := fun e => by have := HX.out.1.footLt _ e; omega
  go_upto_region 29 with ((go_at_call 73; refine (least_u64 _ _ _).mono ?_; rintro e w' ⟨rfl, rfl⟩))
  obtain ⟨WX, hWX⟩ : ∃ WX, WX = ((w2.alloc (.cells #[.int .i64 5, .int .u64 (n : Nat), .string ⟨#[]⟩] 62 (0, 0))).alloc (.cells #[.int .i64 5, .int .i64 (x.at_ : Nat), .int .u64 (2 * min (n : Int) 1099511627776), .string ⟨#[]⟩, .bool false] 108 (0, 0))) := ⟨_, rfl⟩
  rw [← hWX]
  have HR := Px.hid (show DrRep WX b s lim { x with at_ := q } vs vo ∧ Fr (dfoot b vs vo) w1 WX ∧ w2.heap.size + 1 < WX.heap.size from by rw [hWX]; exact ⟨(HX.out.1.alloc _).alloc _, (HX.out.2.alloc _).alloc _, by simp⟩)
  have xa0 : WX.cell? ⟨w2.heap.size, 0, none⟩ = some (.int .i64 5) := by rw [hWX]; exact cell_alloc (cellOf (heap_alloc_new w2 _) 0 rfl)
  have xa1 : WX.cell? ⟨w2.heap.size, 1, none⟩ = some (.int .u64 (n : Nat)) := by rw [hWX]; exact cell_alloc (cellOf (heap_alloc_new w2 _) 1 rfl)
  have xa2 : WX.cell? ⟨w2.heap.size, 2, none⟩ = some (.string ⟨#[]⟩) := by rw [hWX]; exact cell_alloc (cellOf (heap_alloc_new w2 _) 2 rfl)
  have hbn : WX.heap[w2.heap.size + 1]? = some (.cells #[.int .i64 5, .int .i64 (x.at_ : Nat), .int .u64 (2 * min (n : Int) 1099511627776), .string ⟨#[]⟩, .bool false] 108 (0, 0)) := by
    rw [hWX]
    have := heap_alloc_new (w2.alloc (.cells #[.int .i64 5, .int .u64 (n : Nat), .string ⟨#[]⟩] 62 (0, 0))) (.cells #[.int .i64 5, .int .i64 (x.at_ : Nat), .int .u64 (2 * min (n : Int) 1099511627776), .string ⟨#[]⟩, .bool false] 108 (0, 0))
    simpa using this
  have HBN := Px.hid hbn
  clear hWX HX hbn
  obtain ⟨_, c1, _, _, _, c6, _⟩ := HR.out.1.cells
  obtain ⟨sa, sc, hsv⟩ := HR.out.1.stackLen
  rw [hsv] at c6
  clear hsv
  go_quiet (fail)
  obtain ⟨l, hl⟩ : ∃ l : Nat, l = 2 * min n 1099511627776 := ⟨_, rfl⟩
  have HLV := Px.hid (show (2 * min (n : Int) 1099511627776 : Int) = (l : Int) by omega)
  have HL := Px.hid hl
  clear hl
  obtain ⟨WY, hWY⟩ : ∃ WY, WY = WX.drewN nq := ⟨_, rfl⟩
  have HR := Px.hid (show DrRep WY b s lim { x with at_ := q } vs vo ∧ Fr (dfoot b vs vo) w1 WY ∧ w2.heap.size + 1 < WY.heap.size from by rw [hWY]; exact ⟨HR.out.1.drewN nq, HR.out.2.1.drewN nq, HR.out.2.2⟩)
  have HBN := Px.hid (show WY.heap[w2.heap.size + 1]? = some (.cells #[.int .i64 5, .int .i64 (x.at_ : Nat), .int .u64 (l : Nat), .string ⟨#[]⟩, .bool false] 108 (0, 0)) from by rw [hWY, ← HLV.out]; exact HBN.out)
  have ya0 : WY.cell? ⟨w2.heap.size, 0, none⟩ = some (.int .i64 5) := by rw [hWY]; exact xa0
  have ya1 : WY.cell? ⟨w2.heap.size, 1, none⟩ = some (.int .u64 (n : Nat)) := by rw [hWY]; exact xa1
  have ya2 : WY.cell? ⟨w2.heap.size, 2, none⟩ = some (.string ⟨#[]⟩) := by rw [hWY]; exact xa2
  rw [← hWY]
  clear hWY xa0 xa1 xa2 c1 c6
  have c7 : WY.cell? ⟨b, 7, none⟩ = some vo := HR.out.1.cells.2.2.2.2.2.2
  have f7 := HR.out.1.free 7
  have hb : b < WY.heap.size := HR.out.1.lt
  obtain ⟨i0, hi0, hz0, hz1, hz2⟩ := info_parts Tryd.infoAtom
  go_upto_region 31 with fail
  go_cut [] (fun wx => DAfter WY wx b s lim { x with at_ := q } ⟨5, n, []⟩ vs vo)
  case first =>
    go_region_law
      ((refine step_append_lies _ (by rfl) _ _ _ (by rfl) 0 62 i0 _ 3 32 Tryd.underlying50 hi0 hz0 hz1 hz2 rfl (by omega) vo x.out.length (x.out.flatMap cAtom) (by rfl) ((HR.out.1.out.alloc _).drew) ⟨WY.heap.size, 0, none⟩ 1 1 (cAtom ⟨5, n, []⟩) (by rfl) (by rfl) (World.news_of_block (cs := #[.int .i64 5, .int .u64 n, .string ⟨#[]⟩]) (t := 62) (fr := (0, 0)) (heap_alloc_new WY _)) (by simp [cAtom, Value.oneCell']) (by omega) (by unfold maxLen; omega) (by omega) (by simp) (WY.heap.size + 1) (by simp) ?_; intro gg cap w1 hown1 hgrow hat hlt; have k7 := grown_cell hgrow c7 HR.out.1.ob.ne; have e7 := grown_free hgrow c7 f7 HR.out.1.ob.ne))
    all_goals (go_wp2_with fail; go_meet; exact HR.out.1.afterOut hown1 (grown_alloc hgrow) (hat.elim .inl (fun e => .inr (by omega))))
  case rest =>
    obtain ⟨vo', hy, hyf, hyn⟩ := hcut
    have hbn2 : wc.heap[w2.heap.size + 1]? = some (.cells #[.int .i64 5, .int .i64 (x.at_ : Nat), .int .u64 (l : Nat), .string ⟨#[]⟩, .bool false] 108 (0, 0)) := (hyf.block _ HR.out.2.2 hnf).trans HBN.out
    have xb0 := cellOf hbn2 0 rfl
    have xb1 := cellOf hbn2 1 rfl
    have xb2 := cellOf hbn2 2 rfl
    have xb3 := cellOf hbn2 3 rfl
    have xb4 := cellOf hbn2 4 rfl
    have HY := Px.hid (And.intro hy (And.intro hyf hyn))
    clear hy hyf hyn c7 f7 ya0 ya1 ya2 hbn2
    have hb2 : b < wc.heap.size := HY.out.1.lt
    have c6 : wc.cell? ⟨b, 6, none⟩ = some vs := HY.out.1.cells.2.2.2.2.2.1
    have f6 := HY.out.1.free 6
    obtain ⟨j0, hj0, hy0, hy1, hy2⟩ := info_parts Tryd.infoDFm
    have HS := Px.hid (show wc.ownsRow 0 108 5 vs x.stack.length (x.stack.reverse.flatMap cFm) by have := HY.out.1.stack; unfold Owns at this; rw [List.length_reverse] at this; exact this)
    go_upto_region 32 with fail
    go_region_law
      ((refine step_append_lies _ (by rfl) _ _ _ (by rfl) 0 108 j0 _ 5 48 Tryd.underlying81 hj0 hy0 hy1 hy2 rfl (by omega) vs x.stack.length (x.stack.reverse.flatMap cFm) (by rfl) ((HS.out.alloc _).drew) ⟨wc.heap.size, 0, none⟩ 1 1 (cFm ⟨5, x.at_, l, [], false⟩) (by rfl) (by rfl) (World.news_of_block (cs := #[.int .i64 5, .int .i64 (x.at_ : Nat), .int .u64 (l : Nat), .string ⟨#[]⟩, .bool false]) (t := 108) (fr := (0, 0)) (heap_alloc_new wc _)) (by simp [cFm, Value.oneCell']) (by omega) (by unfold maxLen; omega) (by omega) (by simp) (wc.heap.size + 1) (by simp) ?_; intro gg cap w1x hown1 hgrow hat hlt; have k6 := grown_cell hgrow c6 HY.out.1.sb.ne; have e6 := grown_free hgrow c6 f6 HY.out.1.sb.ne))
    all_goals go_wp2
    all_goals
      obtain ⟨vs', hz, hzf, hzn⟩ := HY.out.1.afterPush (a := ⟨5, x.at_, l, [], false⟩) hown1 (grown_alloc hgrow) (hat.elim .inl (fun e => .inr (by omega)))
      have hfA := HR.out.2.1.step (Fresh.refl _ _) HY.out.2.1
      have hnA := Fresh.trans (Fresh.refl (w1) (dfoot b vs vo)) HR.out.2.1.size HY.out.2.2
      refine bodyPost_ret (results_none rfl _ _ _) rfl ?_
      rw [HL.out] at hz
      exact ⟨rfl, _, ⟨_, _, hz, rfl⟩, hfA.step hnA hzf, Fresh.trans hnA hfA.size hzn⟩

set_option maxRecDepth 100000 in
set_option maxHeartbeats 4000000 in
theorem begin_k6_full (s : Bytes) (lim : Lim) (hs : s.length ≤ 140737488355327) (b n q : Nat) (x : D7.Dx) (vs vo : Value) (w : World) (h : DrRep w b s lim x vs vo) (hx : x.at_ ≤ 262144) (hok : DOk s lim x) (hh : D7.head s lim x.out.length x.at_ = .ok (6, n, q)) (hd : (x.stack.length : Int) = lim.d) :
    Calls Tryd.prog 51 #[.pointer (some ⟨b, 0, none⟩)] w fun r w' => r = panics (x.at_, 10) ∧ Fr (dfoot b vs vo) w w' := by
  have hol : x.out.length ≤ 1000000 := hok.2.2.1
  have hsl9 : x.stack.length ≤ 900 := hok.2.1
  have hdb : ((x.stack.length : Int) == lim.d) = true := by simpa using hd
  clear hd
  obtain ⟨c, hc, hcb, hkc, hi, h27, h7, he, hqe⟩ := head_ok hh
  have hw := dwant_yes b x.at_ s lim x vs vo w h c hc
  have HW := Px.hid hw
  have HH := Px.hid h
  obtain ⟨_, _, c2, _, c5, _, c7⟩ := h.cells
  obtain ⟨oa, oc, hov, _⟩ := h.out.len
  rw [hov] at c7
  have HOV := Px.hid hov
  obtain ⟨a, ha⟩ : ∃ a, a = c % 32 := ⟨_, rfl⟩
  have hq : (c : Int) / 32 = 6 := by omega
  have hmd : (c : Int) % 32 = (a : Int) := by omega
  have ha32 : a < 32 := by omega
  rw [← ha] at h27 he h7 hqe
  have hib : ((x.out.length : Int) == lim.i) = false := by simpa using hi
  have z27 : ¬ (27 : Int) < a := by omega
  have z7 : True := trivial
  clear h7 hkc
  have ep1 : ((x.at_ + 1 : Nat) : Int) = (x.at_ : Int) + 1 := by omega
  have f5 := HH.out.free 5
  have hst1 := hok.1
  have HE := Px.hid (And.intro he (And.intro hqe (And.intro hs (And.intro h27 hok))))
  clear ha hw hc h hov hi he h27 hqe hh hs hok hst1
  go_enter Tryd.func51, Tryd.ntmps51
  go_wp2_with fail
  refine HW.out.mono ?_
  rintro r w1 ⟨rfl, rfl⟩
  go_wp2_with fail
  go_quiet (fail)
  have hmv := (HH.out.drewN nq).move (x.at_ + 1)
  rw [ep1] at hmv
  have HMV := Px.hid (And.intro hmv ((Fr.drewN (Fr.refl (It b) w1) nq).setCell (p := ⟨b, 5, none⟩) (.inl rfl) (.int .i64 ((x.at_ : Int) + 1))))
  clear hmv
  go_wp2_with fail
  refine (arg_any b x.at_ a s lim _ vs vo _ HMV.out.1 (show x.at_ + 1 ≤ 1000000 by omega) HE.out.2.2.2.1).mono ?_
  intro r w2 hpost
  unfold ArgPost at hpost
  rw [show argD s lim x.at_ a ({ x with at_ := x.at_ + 1 } : D7.Dx).at_ = .ok n from HE.out.1] at hpost
  obtain ⟨rfl, hrep, hf⟩ := hpost
  have HX := Px.hid (And.intro (show DrRep w2 b s lim { x with at_ := q } vs vo from by rw [HE.out.2.1]; exact hrep) (It.dfoot (vs := vs) (vo := vo) (HMV.out.2.trans hf (fun _ _ h => h))))
  clear hrep hf HMV c2 c5 c7 f5
  have hnf : ¬ dfoot b vs vo (w2.heap.size + 1) := fun e => by have := HX.out.1.footLt _ e; omega
  go_upto_region 29 with fail
  obtain ⟨WX, hWX⟩ : ∃ WX, WX = ((w2.alloc (.cells #[.int .i64 6, .int .u64 (n : Nat), .string ⟨#[]⟩] 62 (0, 0))).alloc (.cells #[.int .i64 6, .int .i64 (x.at_ : Nat), .int .u64 1, .string ⟨#[]⟩, .bool false] 108 (0, 0))) := ⟨_, rfl⟩
  rw [← hWX]
  have HR := Px.hid (show DrRep WX b s lim { x with at_ := q } vs vo ∧ Fr (dfoot b vs vo) w1 WX ∧ w2.heap.size + 1 < WX.heap.size from by rw [hWX]; exact ⟨(HX.out.1.alloc _).alloc _, (HX.out.2.alloc _).alloc _, by simp⟩)
  have xa0 : WX.cell? ⟨w2.heap.size, 0, none⟩ = some (.int .i64 6) := by rw [hWX]; exact cell_alloc (cellOf (heap_alloc_new w2 _) 0 rfl)
  have xa1 : WX.cell? ⟨w2.heap.size, 1, none⟩ = some (.int .u64 (n : Nat)) := by rw [hWX]; exact cell_alloc (cellOf (heap_alloc_new w2 _) 1 rfl)
  have xa2 : WX.cell? ⟨w2.heap.size, 2, none⟩ = some (.string ⟨#[]⟩) := by rw [hWX]; exact cell_alloc (cellOf (heap_alloc_new w2 _) 2 rfl)
  have hbn : WX.heap[w2.heap.size + 1]? = some (.cells #[.int .i64 6, .int .i64 (x.at_ : Nat), .int .u64 1, .string ⟨#[]⟩, .bool false] 108 (0, 0)) := by
    rw [hWX]
    have := heap_alloc_new (w2.alloc (.cells #[.int .i64 6, .int .u64 (n : Nat), .string ⟨#[]⟩] 62 (0, 0))) (.cells #[.int .i64 6, .int .i64 (x.at_ : Nat), .int .u64 1, .string ⟨#[]⟩, .bool false] 108 (0, 0))
    simpa using this
  have HBN := Px.hid hbn
  clear hWX HX hbn
  obtain ⟨_, c1, _, _, _, c6, _⟩ := HR.out.1.cells
  obtain ⟨sa, sc, hsv⟩ := HR.out.1.stackLen
  rw [hsv] at c6
  clear hsv
  go_quiet (fail)
  go_wp2
  exact ⟨rfl, rfl, HR.out.2.1.drewN nq⟩

set_option maxRecDepth 100000 in
set_option maxHeartbeats 4000000 in
theorem begin_k6 (s : Bytes) (lim : Lim) (hs : s.length ≤ 140737488355327) (b n q : Nat) (x : D7.Dx) (vs vo : Value) (w : World) (h : DrRep w b s lim x vs vo) (hx : x.at_ ≤ 262144) (hok : DOk s lim x) (hh : D7.head s lim x.out.length x.at_ = .ok (6, n, q)) (hd : ¬ (x.stack.length : Int) = lim.d) :
    Calls Tryd.prog 51 #[.pointer (some ⟨b, 0, none⟩)] w fun r w' => BegPost w b s lim (dfoot b vs vo) (.ok { at_ := q, stack := ⟨6, x.at_, 1, [], false⟩ :: x.stack, out := x.out ++ [⟨6, n, []⟩] }) r w' := by
  have hol : x.out.length ≤ 1000000 := hok.2.2.1
  have hsl9 : x.stack.length ≤ 900 := hok.2.1
  have hdb : ((x.stack.length : Int) == lim.d) = false := by simpa using hd
  clear hd
  obtain ⟨c, hc, hcb, hkc, hi, h27, h7, he, hqe⟩ := head_ok hh
  have hw := dwant_yes b x.at_ s lim x vs vo w h c hc
  have HW := Px.hid hw
  have HH := Px.hid h
  obtain ⟨_, _, c2, _, c5, _, c7⟩ := h.cells
  obtain ⟨oa, oc, hov, _⟩ := h.out.len
  rw [hov] at c7
  have HOV := Px.hid hov
  obtain ⟨a, ha⟩ : ∃ a, a = c % 32 := ⟨_, rfl⟩
  have hq : (c : Int) / 32 = 6 := by omega
  have hmd : (c : Int) % 32 = (a : Int) := by omega
  have ha32 : a < 32 := by omega
  rw [← ha] at h27 he h7 hqe
  have hib : ((x.out.length : Int) == lim.i) = false := by simpa using hi
  have z27 : ¬ (27 : Int) < a := by omega
  have z7 : True := trivial
  clear h7 hkc
  have ep1 : ((x.at_ + 1 : Nat) : Int) = (x.at_ : Int) + 1 := by omega
  have f5 := HH.out.free 5
  have hst1 := hok.1
  have HE := Px.hid (And.intro he (And.intro hqe (And.intro hs (And.intro h27 hok))))
  clear ha hw hc h hov hi he h27 hqe hh hs hok hst1
  go_enter Tryd.func51, Tryd.ntmps51
  go_wp2_with fail
  refine HW.out.mono ?_
  rintro r w1 ⟨rfl, rfl⟩
  go_wp2_with fail
  go_quiet (fail)
  have hmv := (HH.out.drewN nq).move (x.at_ + 1)
  rw [ep1] at hmv
  have HMV := Px.hid (And.intro hmv ((Fr.drewN (Fr.refl (It b) w1) nq).setCell (p := ⟨b, 5, none⟩) (.inl rfl) (.int .i64 ((x.at_ : Int) + 1))))
  clear hmv
  go_wp2_with fail
  refine (arg_any b x.at_ a s lim _ vs vo _ HMV.out.1 (show x.at_ + 1 ≤ 1000000 by omega) HE.out.2.2.2.1).mono ?_
  intro r w2 hpost
  unfold ArgPost at hpost
  rw [show argD s lim x.at_ a ({ x with at_ := x.at_ + 1 } : D7.Dx).at_ = .ok n from HE.out.1] at hpost
  obtain ⟨rfl, hrep, hf⟩ := hpost
  have HX := Px.hid (And.intro (show DrRep w2 b s lim { x with at_ := q } vs vo from by rw [HE.out.2.1]; exact hrep) (It.dfoot (vs := vs) (vo := vo) (HMV.out.2.trans hf (fun _ _ h => h))))
  clear hrep hf HMV c2 c5 c7 f5
  have hnf : ¬ dfoot b vs vo (w2.heap.size + 1) := fun e => by have := HX.out.1.footLt _ e; omega
  go_upto_region 29 with fail
  obtain ⟨WX, hWX⟩ : ∃ WX, WX = ((w2.alloc (.cells #[.int .i64 6, .int .u64 (n : Nat), .string ⟨#[]⟩] 62 (0, 0))).alloc (.cells #[.int .i64 6, .int .i64 (x.at_ : Nat), .int .u64 1, .string ⟨#[]⟩, .bool false] 108 (0, 0))) := ⟨_, rfl⟩
  rw [← hWX]
  have HR := Px.hid (show DrRep WX b s lim { x with at_ := q } vs vo ∧ Fr (dfoot b vs vo) w1 WX ∧ w2.heap.size + 1 < WX.heap.size from by rw [hWX]; exact ⟨(HX.out.1.alloc _).alloc _, (HX.out.2.alloc _).alloc _, by simp⟩)
  have xa0 : WX.cell? ⟨w2.heap.size, 0, none⟩ = some (.int .i64 6) := by rw [hWX]; exact cell_alloc (cellOf (heap_alloc_new w2 _) 0 rfl)
  have xa1 : WX.cell? ⟨w2.heap.size, 1, none⟩ = some (.int .u64 (n : Nat)) := by rw [hWX]; exact cell_alloc (cellOf (heap_alloc_new w2 _) 1 rfl)
  have xa2 : WX.cell? ⟨w2.heap.size, 2, none⟩ = some (.string ⟨#[]⟩) := by rw [hWX]; exact cell_alloc (cellOf (heap_alloc_new w2 _) 2 rfl)
  have hbn : WX.heap[w2.heap.size + 1]? = some (.cells #[.int .i64 6, .int .i64 (x.at_ : Nat), .int .u64 1, .string ⟨#[]⟩, .bool false] 108 (0, 0)) := by
    rw [hWX]
    have := heap_alloc_new (w2.alloc (.cells #[.int .i64 6, .int .u64 (n : Nat), .string ⟨#[]⟩] 62 (0, 0))) (.cells #[.int .i64 6, .int .i64 (x.at_ : Nat), .int .u64 1, .string ⟨#[]⟩, .bool false] 108 (0, 0))
    simpa using this
  have HBN := Px.hid hbn
  clear hWX HX hbn
  obtain ⟨_, c1, _, _, _, c6, _⟩ := HR.out.1.cells
  obtain ⟨sa, sc, hsv⟩ := HR.out.1.stackLen
  rw [hsv] at c6
  clear hsv
  go_quiet (fail)
  obtain ⟨l, hl⟩ : ∃ l : Nat, l = 1 := ⟨_, rfl⟩
  have HLV := Px.hid (show (1 : Int) = (l : Int) by omega)
  have HL := Px.hid hl
  clear hl
  obtain ⟨WY, hWY⟩ : ∃ WY, WY = WX.drewN nq := ⟨_, rfl⟩
  have HR := Px.hid (show DrRep WY b s lim { x with at_ := q } vs vo ∧ Fr (dfoot b vs vo) w1 WY ∧ w2.heap.size + 1 < WY.heap.size from by rw [hWY]; exact ⟨HR.out.1.drewN nq, HR.out.2.1.drewN nq, HR.out.2.2⟩)
  have HBN := Px.hid (show WY.heap[w2.heap.size + 1]? = some (.cells #[.int .i64 6, .int .i64 (x.at_ : Nat), .int .u64 (l : Nat), .string ⟨#[]⟩, .bool false] 108 (0, 0)) from by rw [hWY, ← HLV.out]; exact HBN.out)
  have ya0 : WY.cell? ⟨w2.heap.size, 0, none⟩ = some (.int .i64 6) := by rw [hWY]; exact xa0
  have ya1 : WY.cell? ⟨w2.heap.size, 1, none⟩ = some (.int .u64 (n : Nat)) := by rw [hWY]; exact xa1
  have ya2 : WY.cell? ⟨w2.heap.size, 2, none⟩ = some (.string ⟨#[]⟩) := by rw [hWY]; exact xa2
  rw [← hWY]
  clear hWY xa0 xa1 xa2 c1 c6
  have c7 : WY.cell? ⟨b, 7, none⟩ = some vo := HR.out.1.cells.2.2.2.2.2.2
  have f7 := HR.out.1.free 7
  have hb : b < WY.heap.size := HR.out.1.lt
  obtain ⟨i0, hi0, hz0, hz1, hz2⟩ := info_parts Tryd.infoAtom
  go_upto_region 31 with fail
  go_cut [] (fun wx => DAfter WY wx b s lim { x with at_ := q } ⟨6, n, []⟩ vs vo)
  case first =>
    go_region_law
      ((refine step_append_lies _ (by rfl) _ _ _ (by rfl) 0 62 i0 _ 3 32 Tryd.underlying50 hi0 hz0 hz1 hz2 rfl (by omega) vo x.out.length (x.out.flatMap cAtom) (by rfl) ((HR.out.1.out.alloc _).drew) ⟨WY.heap.size, 0, none⟩ 1 1 (cAtom ⟨6, n, []⟩) (by rfl) (by rfl) (World.news_of_block (cs := #[.int .i64 6, .int .u64 n, .string ⟨#[]⟩]) (t := 62) (fr := (0, 0)) (heap_alloc_new WY _)) (by simp [cAtom, Value.oneCell']) (by omega) (by unfold maxLen; omega) (by omega) (by simp) (WY.heap.size + 1) (by simp) ?_; intro gg cap w1 hown1 hgrow hat hlt; have k7 := grown_cell hgrow c7 HR.out.1.ob.ne; have e7 := grown_free hgrow c7 f7 HR.out.1.ob.ne))
    all_goals (go_wp2_with fail; go_meet; exact HR.out.1.afterOut hown1 (grown_alloc hgrow) (hat.elim .inl (fun e => .inr (by omega))))
  case rest =>
    obtain ⟨vo', hy, hyf, hyn⟩ := hcut
    have hbn2 : wc.heap[w2.heap.size + 1]? = some (.cells #[.int .i64 6, .int .i64 (x.at_ : Nat), .int .u64 (l : Nat), .string ⟨#[]⟩, .bool false] 108 (0, 0)) := (hyf.block _ HR.out.2.2 hnf).trans HBN.out
    have xb0 := cellOf hbn2 0 rfl
    have xb1 := cellOf hbn2 1 rfl
    have xb2 := cellOf hbn2 2 rfl
    have xb3 := cellOf hbn2 3 rfl
    have xb4 := cellOf hbn2 4 rfl
    have HY := Px.hid (And.intro hy (And.intro hyf hyn))
    clear hy hyf hyn c7 f7 ya0 ya1 ya2 hbn2
    have hb2 : b < wc.heap.size := HY.out.1.lt
    have c6 : wc.cell? ⟨b, 6, none⟩ = some vs := HY.out.1.cells.2.2.2.2.2.1
    have f6 := HY.out.1.free 6
    obtain ⟨j0, hj0, hy0, hy1, hy2⟩ := info_parts Tryd.infoDFm
    have HS := Px.hid (show wc.ownsRow 0 108 5 vs x.stack.length (x.stack.reverse.flatMap cFm) by have := HY.out.1.stack; unfold Owns at this; rw [List.length_reverse] at this; exact this)
    go_upto_region 32 with fail
    go_region_law
      ((refine step_append_lies _ (by rfl) _ _ _ (by rfl) 0 108 j0 _ 5 48 Tryd.underlying81 hj0 hy0 hy1 hy2 rfl (by omega) vs x.stack.length (x.stack.reverse.flatMap cFm) (by rfl) ((HS.out.alloc _).drew) ⟨wc.heap.size, 0, none⟩ 1 1 (cFm ⟨6, x.at_, l, [], false⟩) (by rfl) (by rfl) (World.news_of_block (cs := #[.int .i64 6, .int .i64 (x.at_ : Nat), .int .u64 (l : Nat), .string ⟨#[]⟩, .bool false]) (t := 108) (fr := (0, 0)) (heap_alloc_new wc _)) (by simp [cFm, Value.oneCell']) (by omega) (by unfold maxLen; omega) (by omega) (by simp) (wc.heap.size + 1) (by simp) ?_; intro gg cap w1x hown1 hgrow hat hlt; have k6 := grown_cell hgrow c6 HY.out.1.sb.ne; have e6 := grown_free hgrow c6 f6 HY.out.1.sb.ne))
    all_goals go_wp2
    all_goals
      obtain ⟨vs', hz, hzf, hzn⟩ := HY.out.1.afterPush (a := ⟨6, x.at_, l, [], false⟩) hown1 (grown_alloc hgrow) (hat.elim .inl (fun e => .inr (by omega)))
      have hfA := HR.out.2.1.step (Fresh.refl _ _) HY.out.2.1
      have hnA := Fresh.trans (Fresh.refl (w1) (dfoot b vs vo)) HR.out.2.1.size HY.out.2.2
      refine bodyPost_ret (results_none rfl _ _ _) rfl ?_
      rw [HL.out] at hz
      exact ⟨rfl, _, ⟨_, _, hz, rfl⟩, hfA.step hnA hzf, Fresh.trans hnA hfA.size hzn⟩

end Go.Proofs.YtddiabaagpmkgaaDoor
