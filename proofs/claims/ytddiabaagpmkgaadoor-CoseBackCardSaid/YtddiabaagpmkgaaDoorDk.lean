/-
  The walk over the program's begin (package cbor) where an item is a text.
-/
import Derived.Test.YtddiabaagpmkgaaDoorDd
namespace Go.Proofs.YtddiabaagpmkgaaDoor
open Go.RowKit Go.Px

theorem room_want {s : Bytes} {lim : Lim} {p : Nat} (hb : 1 ≤ lim.b) (c : Nat) : D7.want s lim (p + D7.room s lim p) ≠ .ok c := by
  unfold D7.want D7.room
  intro h
  by_cases h1 : s.length ≤ p + (min s.length lim.b.toNat - p)
  · rw [if_pos h1] at h; cases h
  · rw [if_neg h1] at h
    by_cases h2 : lim.b ≤ ((p + (min s.length lim.b.toNat - p) : Nat) : Int)
    · rw [if_pos h2] at h; cases h
    · omega
theorem take_ok {s : Bytes} {lim : Lim} {p n : Nat} {t : Bytes} (hb : 1 ≤ lim.b) (hp : p ≤ s.length) (h : D7.take s lim p n = .ok t) : ¬ D7.room s lim p < n ∧ p + n ≤ s.length ∧ t = (s.take (p + n)).drop p := by
  unfold D7.take at h
  by_cases hc : D7.room s lim p < n
  · rw [if_pos hc] at h
    cases hw : D7.want s lim (p + D7.room s lim p) with
    | error e => rw [hw] at h; cases h
    | ok c => exact absurd hw (room_want hb c)
  · rw [if_neg hc] at h
    refine ⟨hc, ?_, by simpa using h.symm⟩
    unfold D7.room at hc
    omega

set_option maxRecDepth 100000 in
set_option maxHeartbeats 4000000 in
theorem begin_k2bad (s : Bytes) (lim : Lim) (hs : s.length ≤ 140737488355327) (hlb : 1 ≤ lim.b) (hlb2 : lim.b ≤ 262144) (b n q : Nat) (x : D7.Dx) (vs vo : Value) (w : World) (h : DrRep w b s lim x vs vo) (hx : x.at_ ≤ 262144) (hok : DOk s lim x) (hqs : q ≤ s.length) (hqb : (q : Int) ≤ lim.b) (hh : D7.head s lim x.out.length x.at_ = .ok (2, n, q)) (e : D7.Flt) (het : D7.take s lim q n = .error e) :
    Calls Tryd.prog 51 #[.pointer (some ⟨b, 0, none⟩)] w fun r w' => r = panics e ∧ Fr (dfoot b vs vo) w w' := by
  have HT := Px.hid (And.intro hlb (And.intro hlb2 (And.intro hqs (And.intro hqb het))))
  have HS := Px.hid hs
  clear hlb hlb2 hqs hqb het
  have hol : x.out.length ≤ 1000000 := hok.2.2.1
  obtain ⟨c, hc, hcb, hkc, hi, h27, h7, he, hqe⟩ := head_ok hh
  have hw := dwant_yes b x.at_ s lim x vs vo w h c hc
  have HW := Px.hid hw
  have HH := Px.hid h
  obtain ⟨_, _, c2, _, c5, _, c7⟩ := h.cells
  obtain ⟨oa, oc, hov, _⟩ := h.out.len
  rw [hov] at c7
  have HOV := Px.hid hov
  obtain ⟨a, ha⟩ : ∃ a, a = c % 32 := ⟨_, rfl⟩
  have hq : (c : Int) / 32 = 2 := by omega
  have hmd : (c : Int) % 32 = (a : Int) := by omega
  have ha32 : a < 32 := by omega
  rw [← ha] at h27 he h7 hqe
  have hib : ((x.out.length : Int) == lim.i) = false := by simpa using hi
  have z27 : ¬ (27 : Int) < a := by omega
  have z7 : True := trivial
  clear h7 hkc
  have ep1 : ((x.at_ + 1 : Nat) : Int) = (x.at_ : Int) + 1 := by omega
  have f5 := HH.out.free 5
  have hst1 := hok.1
  have HE := Px.hid (And.intro he (And.intro hqe (And.intro hs (And.intro h27 hok))))
  clear ha hw hc h hov hi he h27 hqe hh hs hok hst1
  go_enter Tryd.func51, Tryd.ntmps51
  go_wp2_with fail
  refine HW.out.mono ?_
  rintro r w1 ⟨rfl, rfl⟩
  go_wp2_with fail
  go_quiet (fail)
  have hmv := (HH.out.drewN nq).move (x.at_ + 1)
  rw [ep1] at hmv
  have HMV := Px.hid (And.intro hmv ((Fr.drewN (Fr.refl (It b) w1) nq).setCell (p := ⟨b, 5, none⟩) (.inl rfl) (.int .i64 ((x.at_ : Int) + 1))))
  clear hmv
  go_wp2_with fail
  refine (arg_any b x.at_ a s lim _ vs vo _ HMV.out.1 (show x.at_ + 1 ≤ 1000000 by omega) HE.out.2.2.2.1).mono ?_
  intro r w2 hpost
  unfold ArgPost at hpost
  rw [show argD s lim x.at_ a ({ x with at_ := x.at_ + 1 } : D7.Dx).at_ = .ok n from HE.out.1] at hpost
  obtain ⟨rfl, hrep, hf⟩ := hpost
  have HX := Px.hid (And.intro (show DrRep w2 b s lim { x with at_ := q } vs vo from by rw [HE.out.2.1]; exact hrep) (It.dfoot (vs := vs) (vo := vo) (HMV.out.2.trans hf (fun _ _ h => h))))
  clear hrep hf HMV c2 c5 c7 f5
  go_upto_region 19 with fail
  obtain ⟨WX, hWX⟩ : ∃ WX, WX = ((w2.alloc (.cells #[.int .i64 2, .int .u64 0, .string ⟨#[]⟩] 62 (0, 0))).alloc (.cells #[.int .i64 2, .int .i64 (x.at_ : Nat), .int .u64 1, .string ⟨#[]⟩, .bool false] 108 (0, 0))) := ⟨_, rfl⟩
  rw [← hWX]
  have hnf0 : ¬ dfoot b vs vo w2.heap.size := fun e => by have := HX.out.1.footLt _ e; omega
  have HR := Px.hid (show DrRep WX b s lim { x with at_ := q } vs vo ∧ Fr (dfoot b vs vo) w1 WX ∧ WX.heap[w2.heap.size]? = some (.cells #[.int .i64 2, .int .u64 0, .string ⟨#[]⟩] 62 (0, 0)) ∧ w2.heap.size < WX.heap.size from by
    rw [hWX]
    exact ⟨(HX.out.1.alloc _).alloc _, (HX.out.2.alloc _).alloc _, (Below.heap_alloc _ _ _ (by simp)).trans (heap_alloc_new w2 _), by simp; omega⟩)
  have xa0 : WX.cell? ⟨w2.heap.size, 0, none⟩ = some (.int .i64 2) := cellOf HR.out.2.2.1 0 rfl
  have xa2 : WX.cell? ⟨w2.heap.size, 2, none⟩ = some (.string ⟨#[]⟩) := cellOf HR.out.2.2.1 2 rfl
  have hnf := Px.hid hnf0
  have HWS := Px.hid (show w1.heap.size ≤ w2.heap.size from HX.out.2.size)
  clear hWX HX hnf0
  go_wp2_with fail
  refine (dtake_no b n s lim _ _ _ _ HR.out.1 HS.out HT.out.1 HT.out.2.1 HT.out.2.2.1 HT.out.2.2.2.1 e HT.out.2.2.2.2).mono ?_
  rintro r w3 ⟨rfl, hsm⟩
  have HF := Px.hid (Fr.trans HR.out.2.1 hsm (fun _ _ x => x.elim))
  clear hsm
  unfold panics
  go_wp2
  exact ⟨rfl, rfl, HF.out⟩

set_option maxRecDepth 100000 in
set_option maxHeartbeats 4000000 in
theorem begin_k2 (s : Bytes) (lim : Lim) (hs : s.length ≤ 140737488355327) (hlb : 1 ≤ lim.b) (hlb2 : lim.b ≤ 262144) (b n q : Nat) (x : D7.Dx) (vs vo : Value) (w : World) (h : DrRep w b s lim x vs vo) (hx : x.at_ ≤ 262144) (hok : DOk s lim x) (hqs : q ≤ s.length) (hqb : (q : Int) ≤ lim.b) (hh : D7.head s lim x.out.length x.at_ = .ok (2, n, q)) (t : Bytes) (het : D7.take s lim q n = .ok t)  :
    Calls Tryd.prog 51 #[.pointer (some ⟨b, 0, none⟩)] w fun r w' => BegPost w b s lim (dfoot b vs vo) (D7.ended s { at_ := q + n, stack := x.stack, out := x.out ++ [⟨2, 0, t⟩] } x.at_) r w' := by
  obtain ⟨hrn, hqn, htt⟩ := take_ok hlb hqs het
  have HT := Px.hid (And.intro hlb (And.intro hlb2 (And.intro hqs (And.intro hqb het))))
  have HN := Px.hid (And.intro hrn hqn)
  have HS := Px.hid hs
  have htl : t.length ≤ 9223372036854775807 := by rw [htt]; simp; omega
  clear hlb hlb2 hqs hqb het hrn hqn htt
  have hol : x.out.length ≤ 1000000 := hok.2.2.1
  obtain ⟨c, hc, hcb, hkc, hi, h27, h7, he, hqe⟩ := head_ok hh
  have hw := dwant_yes b x.at_ s lim x vs vo w h c hc
  have HW := Px.hid hw
  have HH := Px.hid h
  obtain ⟨_, _, c2, _, c5, _, c7⟩ := h.cells
  obtain ⟨oa, oc, hov, _⟩ := h.out.len
  rw [hov] at c7
  have HOV := Px.hid hov
  obtain ⟨a, ha⟩ : ∃ a, a = c % 32 := ⟨_, rfl⟩
  have hq : (c : Int) / 32 = 2 := by omega
  have hmd : (c : Int) % 32 = (a : Int) := by omega
  have ha32 : a < 32 := by omega
  rw [← ha] at h27 he h7 hqe
  have hib : ((x.out.length : Int) == lim.i) = false := by simpa using hi
  have z27 : ¬ (27 : Int) < a := by omega
  have z7 : True := trivial
  clear h7 hkc
  have ep1 : ((x.at_ + 1 : Nat) : Int) = (x.at_ : Int) + 1 := by omega
  have f5 := HH.out.free 5
  have hst1 := hok.1
  have HE := Px.hid (And.intro he (And.intro hqe (And.intro hs (And.intro h27 hok))))
  clear ha hw hc h hov hi he h27 hqe hh hs hok hst1
  go_enter Tryd.func51, Tryd.ntmps51
  go_wp2_with fail
  refine HW.out.mono ?_
  rintro r w1 ⟨rfl, rfl⟩
  go_wp2_with fail
  go_quiet (fail)
  have hmv := (HH.out.drewN nq).move (x.at_ + 1)
  rw [ep1] at hmv
  have HMV := Px.hid (And.intro hmv ((Fr.drewN (Fr.refl (It b) w1) nq).setCell (p := ⟨b, 5, none⟩) (.inl rfl) (.int .i64 ((x.at_ : Int) + 1))))
  clear hmv
  go_wp2_with fail
  refine (arg_any b x.at_ a s lim _ vs vo _ HMV.out.1 (show x.at_ + 1 ≤ 1000000 by omega) HE.out.2.2.2.1).mono ?_
  intro r w2 hpost
  unfold ArgPost at hpost
  rw [show argD s lim x.at_ a ({ x with at_ := x.at_ + 1 } : D7.Dx).at_ = .ok n from HE.out.1] at hpost
  obtain ⟨rfl, hrep, hf⟩ := hpost
  have HX := Px.hid (And.intro (show DrRep w2 b s lim { x with at_ := q } vs vo from by rw [HE.out.2.1]; exact hrep) (It.dfoot (vs := vs) (vo := vo) (HMV.out.2.trans hf (fun _ _ h => h))))
  clear hrep hf HMV c2 c5 c7 f5
  go_upto_region 19 with fail
  obtain ⟨WX, hWX⟩ : ∃ WX, WX = ((w2.alloc (.cells #[.int .i64 2, .int .u64 0, .string ⟨#[]⟩] 62 (0, 0))).alloc (.cells #[.int .i64 2, .int .i64 (x.at_ : Nat), .int .u64 1, .string ⟨#[]⟩, .bool false] 108 (0, 0))) := ⟨_, rfl⟩
  rw [← hWX]
  have hnf0 : ¬ dfoot b vs vo w2.heap.size := fun e => by have := HX.out.1.footLt _ e; omega
  have HR := Px.hid (show DrRep WX b s lim { x with at_ := q } vs vo ∧ Fr (dfoot b vs vo) w1 WX ∧ WX.heap[w2.heap.size]? = some (.cells #[.int .i64 2, .int .u64 0, .string ⟨#[]⟩] 62 (0, 0)) ∧ w2.heap.size < WX.heap.size from by
    rw [hWX]
    exact ⟨(HX.out.1.alloc _).alloc _, (HX.out.2.alloc _).alloc _, (Below.heap_alloc _ _ _ (by simp)).trans (heap_alloc_new w2 _), by simp; omega⟩)
  have xa0 : WX.cell? ⟨w2.heap.size, 0, none⟩ = some (.int .i64 2) := cellOf HR.out.2.2.1 0 rfl
  have xa2 : WX.cell? ⟨w2.heap.size, 2, none⟩ = some (.string ⟨#[]⟩) := cellOf HR.out.2.2.1 2 rfl
  have hnf := Px.hid hnf0
  have HWS := Px.hid (show w1.heap.size ≤ w2.heap.size from HX.out.2.size)
  clear hWX HX hnf0
  go_wp2_with fail
  refine (dtake_yes b n s lim _ _ _ _ HR.out.1 HS.out HT.out.1 HT.out.2.1 HT.out.2.2.1 HT.out.2.2.2.1 t HT.out.2.2.2.2 HN.out.1).mono ?_
  rintro r w3 ⟨rfl, hrp, hfr⟩
  have HR := Px.hid (show DrRep w3 b s lim { x with at_ := q + n } vs vo ∧ Fr (dfoot b vs vo) w1 w3 ∧ w3.heap[w2.heap.size]? = some (.cells #[.int .i64 2, .int .u64 0, .string ⟨#[]⟩] 62 (0, 0)) ∧ w2.heap.size < w3.heap.size from
    ⟨hrp, Fr.trans HR.out.2.1 hfr (fun _ _ e => .inl e), (hfr.block _ HR.out.2.2.2 (fun e => hnf.out (.inl e))).trans HR.out.2.2.1, Nat.lt_of_lt_of_le HR.out.2.2.2 hfr.size⟩)
  clear xa0 xa2
  have xa0 : w3.cell? ⟨w2.heap.size, 0, none⟩ = some (.int .i64 2) := cellOf HR.out.2.2.1 0 rfl
  have xa1 : w3.cell? ⟨w2.heap.size, 1, none⟩ = some (.int .u64 0) := cellOf HR.out.2.2.1 1 rfl
  have xa2 : w3.cell? ⟨w2.heap.size, 2, none⟩ = some (.string ⟨#[]⟩) := cellOf HR.out.2.2.1 2 rfl
  have xf2 := freeOf HR.out.2.2.1 2
  clear hrp hfr
  go_upto_region 22 with fail
  obtain ⟨WY, hWY⟩ : ∃ WY, WY = w3.setCell ⟨w2.heap.size, 2, none⟩ (S t) := ⟨_, rfl⟩
  rw [show w3.setCell ⟨w2.heap.size, 2, none⟩ (.string ⟨t.toArray⟩) = WY from hWY.symm]
  have hne : ∀ j, dfoot b vs vo j → WY.heap[j]? = w3.heap[j]? := fun j hj => by rw [hWY]; exact (Fr.setCell (Fr.refl (fun i => i = w2.heap.size) w3) (p := ⟨w2.heap.size, 2, none⟩) (.inl rfl) (S t)).block j (HR.out.1.footLt j hj) (fun e => hnf.out (e ▸ hj))
  have HR := Px.hid (show DrRep WY b s lim { x with at_ := q + n } vs vo ∧ Fr (dfoot b vs vo) w1 WY ∧ WY.heap[w2.heap.size]? = some (.cells #[.int .i64 2, .int .u64 0, S t] 62 (0, 0)) ∧ w2.heap.size < WY.heap.size from
    ⟨HR.out.1.keep hne, by rw [hWY]; exact HR.out.2.1.setCell (.inr HWS.out) _, by rw [hWY, heap_setCell_same _ w2.heap.size 2 _ _ _ HR.out.2.2.1]; rfl, by rw [hWY]; simpa using HR.out.2.2.2⟩)
  clear hWY hne xa0 xa1 xa2 xf2
  have xa0 : WY.cell? ⟨w2.heap.size, 0, none⟩ = some (.int .i64 2) := cellOf HR.out.2.2.1 0 rfl
  have xa1 : WY.cell? ⟨w2.heap.size, 1, none⟩ = some (.int .u64 0) := cellOf HR.out.2.2.1 1 rfl
  have xa2 : WY.cell? ⟨w2.heap.size, 2, none⟩ = some (S t) := cellOf HR.out.2.2.1 2 rfl
  have c7 : WY.cell? ⟨b, 7, none⟩ = some vo := HR.out.1.cells.2.2.2.2.2.2
  have f7 := HR.out.1.free 7
  have hb : b < WY.heap.size := HR.out.1.lt
  obtain ⟨i0, hi0, hz0, hz1, hz2⟩ := info_parts Tryd.infoAtom
  go_cut [] (fun wx => DAfter WY wx b s lim { x with at_ := q + n } ⟨2, 0, t⟩ vs vo)
  case first =>
    go_region_law
      ((refine step_append_lies _ (by rfl) _ _ _ (by rfl) 0 62 i0 _ 3 32 Tryd.underlying50 hi0 hz0 hz1 hz2 rfl (by omega) vo x.out.length (x.out.flatMap cAtom) (by rfl) ((HR.out.1.out.alloc _).drew) ⟨WY.heap.size, 0, none⟩ 1 1 (cAtom ⟨2, 0, t⟩) (by rfl) (by rfl) (World.news_of_block (cs := #[.int .i64 2, .int .u64 0, S t]) (t := 62) (fr := (0, 0)) (heap_alloc_new WY _)) (by simp [cAtom, Value.oneCell']) (by omega) (by unfold maxLen; omega) (by omega) (by simp) (WY.heap.size + 1) (by simp) ?_; intro gg cap w1 hown1 hgrow hat hlt; have k7 := grown_cell hgrow c7 HR.out.1.ob.ne; have e7 := grown_free hgrow c7 f7 HR.out.1.ob.ne))
    all_goals (go_wp2_with fail; go_meet; exact HR.out.1.afterOut hown1 (grown_alloc hgrow) (hat.elim .inl (fun e => .inr (by omega))))
  case rest =>
    obtain ⟨vo', hy, hyf, hyn⟩ := hcut
    have HY := Px.hid (And.intro hy (And.intro hyf hyn))
    clear hy hyf hyn c7 f7 xa0 xa1 xa2
    go_wp2_with fail
    refine (dended_any b x.at_ s lim _ _ _ ⟨_, _, HY.out.1, rfl⟩ (show x.at_ ≤ q + n by have := HE.out.2.1; omega) HN.out.2 (fun f rest e => HE.out.2.2.2.2.1 f (by rw [show x.stack = f :: rest from e]; simp)) (show x.stack.length ≤ 1000 by have := HE.out.2.2.2.2.2.1; omega)).mono ?_
    intro r w3 hpost
    have hB := begin_fin (HR.out.2.1.step (Fresh.refl _ _) HY.out.2.1) (Fresh.trans (Fresh.refl _ _) HR.out.2.1.size HY.out.2.2) hpost
    unfold EndPost at hpost
    cases hres : D7.ended s { at_ := q + n, stack := x.stack, out := x.out ++ [⟨2, 0, t⟩] } x.at_ with
    | error e =>
      rw [hres] at hpost hB
      obtain ⟨rfl, _⟩ := hpost
      have HB := Px.hid hB
      have HRES := Px.hid hres
      clear hB hres
      unfold panics
      go_wp2
      exact ⟨rfl, by rw [HRES.out]; exact HB.out⟩
    | ok y =>
      rw [hres] at hpost hB
      obtain ⟨rfl, _⟩ := hpost
      have HB := Px.hid hB
      have HRES := Px.hid hres
      clear hB hres
      go_wp2
      refine bodyPost_ret (results_none rfl _ _ _) rfl ?_
      rw [HRES.out]
      exact HB.out

set_option maxRecDepth 100000 in
set_option maxHeartbeats 4000000 in
theorem begin_k3bad (s : Bytes) (lim : Lim) (hs : s.length ≤ 140737488355327) (hlb : 1 ≤ lim.b) (hlb2 : lim.b ≤ 262144) (b n q : Nat) (x : D7.Dx) (vs vo : Value) (w : World) (h : DrRep w b s lim x vs vo) (hx : x.at_ ≤ 262144) (hok : DOk s lim x) (hqs : q ≤ s.length) (hqb : (q : Int) ≤ lim.b) (hh : D7.head s lim x.out.length x.at_ = .ok (3, n, q)) (e : D7.Flt) (het : D7.take s lim q n = .error e) :
    Calls Tryd.prog 51 #[.pointer (some ⟨b, 0, none⟩)] w fun r w' => r = panics e ∧ Fr (dfoot b vs vo) w w' := by
  have HT := Px.hid (And.intro hlb (And.intro hlb2 (And.intro hqs (And.intro hqb het))))
  have HS := Px.hid hs
  clear hlb hlb2 hqs hqb het
  have hol : x.out.length ≤ 1000000 := hok.2.2.1
  obtain ⟨c, hc, hcb, hkc, hi, h27, h7, he, hqe⟩ := head_ok hh
  have hw := dwant_yes b x.at_ s lim x vs vo w h c hc
  have HW := Px.hid hw
  have HH := Px.hid h
  obtain ⟨_, _, c2, _, c5, _, c7⟩ := h.cells
  obtain ⟨oa, oc, hov, _⟩ := h.out.len
  rw [hov] at c7
  have HOV := Px.hid hov
  obtain ⟨a, ha⟩ : ∃ a, a = c % 32 := ⟨_, rfl⟩
  have hq : (c : Int) / 32 = 3 := by omega
  have hmd : (c : Int) % 32 = (a : Int) := by omega
  have ha32 : a < 32 := by omega
  rw [← ha] at h27 he h7 hqe
  have hib : ((x.out.length : Int) == lim.i) = false := by simpa using hi
  have z27 : ¬ (27 : Int) < a := by omega
  have z7 : True := trivial
  clear h7 hkc
  have ep1 : ((x.at_ + 1 : Nat) : Int) = (x.at_ : Int) + 1 := by omega
  have f5 := HH.out.free 5
  have hst1 := hok.1
  have HE := Px.hid (And.intro he (And.intro hqe (And.intro hs (And.intro h27 hok))))
  clear ha hw hc h hov hi he h27 hqe hh hs hok hst1
  go_enter Tryd.func51, Tryd.ntmps51
  go_wp2_with fail
  refine HW.out.mono ?_
  rintro r w1 ⟨rfl, rfl⟩
  go_wp2_with fail
  go_quiet (fail)
  have hmv := (HH.out.drewN nq).move (x.at_ + 1)
  rw [ep1] at hmv
  have HMV := Px.hid (And.intro hmv ((Fr.drewN (Fr.refl (It b) w1) nq).setCell (p := ⟨b, 5, none⟩) (.inl rfl) (.int .i64 ((x.at_ : Int) + 1))))
  clear hmv
  go_wp2_with fail
  refine (arg_any b x.at_ a s lim _ vs vo _ HMV.out.1 (show x.at_ + 1 ≤ 1000000 by omega) HE.out.2.2.2.1).mono ?_
  intro r w2 hpost
  unfold ArgPost at hpost
  rw [show argD s lim x.at_ a ({ x with at_ := x.at_ + 1 } : D7.Dx).at_ = .ok n from HE.out.1] at hpost
  obtain ⟨rfl, hrep, hf⟩ := hpost
  have HX := Px.hid (And.intro (show DrRep w2 b s lim { x with at_ := q } vs vo from by rw [HE.out.2.1]; exact hrep) (It.dfoot (vs := vs) (vo := vo) (HMV.out.2.trans hf (fun _ _ h => h))))
  clear hrep hf HMV c2 c5 c7 f5
  go_upto_region 19 with fail
  obtain ⟨WX, hWX⟩ : ∃ WX, WX = ((w2.alloc (.cells #[.int .i64 3, .int .u64 0, .string ⟨#[]⟩] 62 (0, 0))).alloc (.cells #[.int .i64 3, .int .i64 (x.at_ : Nat), .int .u64 1, .string ⟨#[]⟩, .bool false] 108 (0, 0))) := ⟨_, rfl⟩
  rw [← hWX]
  have hnf0 : ¬ dfoot b vs vo w2.heap.size := fun e => by have := HX.out.1.footLt _ e; omega
  have HR := Px.hid (show DrRep WX b s lim { x with at_ := q } vs vo ∧ Fr (dfoot b vs vo) w1 WX ∧ WX.heap[w2.heap.size]? = some (.cells #[.int .i64 3, .int .u64 0, .string ⟨#[]⟩] 62 (0, 0)) ∧ w2.heap.size < WX.heap.size from by
    rw [hWX]
    exact ⟨(HX.out.1.alloc _).alloc _, (HX.out.2.alloc _).alloc _, (Below.heap_alloc _ _ _ (by simp)).trans (heap_alloc_new w2 _), by simp; omega⟩)
  have xa0 : WX.cell? ⟨w2.heap.size, 0, none⟩ = some (.int .i64 3) := cellOf HR.out.2.2.1 0 rfl
  have xa2 : WX.cell? ⟨w2.heap.size, 2, none⟩ = some (.string ⟨#[]⟩) := cellOf HR.out.2.2.1 2 rfl
  have hnf := Px.hid hnf0
  have HWS := Px.hid (show w1.heap.size ≤ w2.heap.size from HX.out.2.size)
  clear hWX HX hnf0
  go_wp2_with fail
  refine (dtake_no b n s lim _ _ _ _ HR.out.1 HS.out HT.out.1 HT.out.2.1 HT.out.2.2.1 HT.out.2.2.2.1 e HT.out.2.2.2.2).mono ?_
  rintro r w3 ⟨rfl, hsm⟩
  have HF := Px.hid (Fr.trans HR.out.2.1 hsm (fun _ _ x => x.elim))
  clear hsm
  unfold panics
  go_wp2
  exact ⟨rfl, rfl, HF.out⟩

set_option maxRecDepth 100000 in
set_option maxHeartbeats 4000000 in
theorem begin_k3 (s : Bytes) (lim : Lim) (hs : s.length ≤ 140737488355327) (hlb : 1 ≤ lim.b) (hlb2 : lim.b ≤ 262144) (b n q : Nat) (x : D7.Dx) (vs vo : Value) (w : World) (h : DrRep w b s lim x vs vo) (hx : x.at_ ≤ 262144) (hok : DOk s lim x) (hqs : q ≤ s.length) (hqb : (q : Int) ≤ lim.b) (hh : D7.head s lim x.out.length x.at_ = .ok (3, n, q)) (t : Bytes) (het : D7.take s lim q n = .ok t) (hT : ∀ w2, Fr (dfoot b vs vo) w w2 → Tabs w2) (hvd : Lib.validD t = true) :
    Calls Tryd.prog 51 #[.pointer (some ⟨b, 0, none⟩)] w fun r w' => BegPost w b s lim (dfoot b vs vo) (D7.ended s { at_ := q + n, stack := x.stack, out := x.out ++ [⟨3, 0, t⟩] } x.at_) r w' := by
  obtain ⟨hrn, hqn, htt⟩ := take_ok hlb hqs het
  have HT := Px.hid (And.intro hlb (And.intro hlb2 (And.intro hqs (And.intro hqb het))))
  have HN := Px.hid (And.intro hrn hqn)
  have HS := Px.hid hs
  have htl : t.length ≤ 9223372036854775807 := by rw [htt]; simp; omega
  clear hlb hlb2 hqs hqb het hrn hqn htt
  have HV := Px.hid (And.intro hT (And.intro hvd htl))
  clear hT hvd htl
  have hol : x.out.length ≤ 1000000 := hok.2.2.1
  obtain ⟨c, hc, hcb, hkc, hi, h27, h7, he, hqe⟩ := head_ok hh
  have hw := dwant_yes b x.at_ s lim x vs vo w h c hc
  have HW := Px.hid hw
  have HH := Px.hid h
  obtain ⟨_, _, c2, _, c5, _, c7⟩ := h.cells
  obtain ⟨oa, oc, hov, _⟩ := h.out.len
  rw [hov] at c7
  have HOV := Px.hid hov
  obtain ⟨a, ha⟩ : ∃ a, a = c % 32 := ⟨_, rfl⟩
  have hq : (c : Int) / 32 = 3 := by omega
  have hmd : (c : Int) % 32 = (a : Int) := by omega
  have ha32 : a < 32 := by omega
  rw [← ha] at h27 he h7 hqe
  have hib : ((x.out.length : Int) == lim.i) = false := by simpa using hi
  have z27 : ¬ (27 : Int) < a := by omega
  have z7 : True := trivial
  clear h7 hkc
  have ep1 : ((x.at_ + 1 : Nat) : Int) = (x.at_ : Int) + 1 := by omega
  have f5 := HH.out.free 5
  have hst1 := hok.1
  have HE := Px.hid (And.intro he (And.intro hqe (And.intro hs (And.intro h27 hok))))
  clear ha hw hc h hov hi he h27 hqe hh hs hok hst1
  go_enter Tryd.func51, Tryd.ntmps51
  go_wp2_with fail
  refine HW.out.mono ?_
  rintro r w1 ⟨rfl, rfl⟩
  go_wp2_with fail
  go_quiet (fail)
  have hmv := (HH.out.drewN nq).move (x.at_ + 1)
  rw [ep1] at hmv
  have HMV := Px.hid (And.intro hmv ((Fr.drewN (Fr.refl (It b) w1) nq).setCell (p := ⟨b, 5, none⟩) (.inl rfl) (.int .i64 ((x.at_ : Int) + 1))))
  clear hmv
  go_wp2_with fail
  refine (arg_any b x.at_ a s lim _ vs vo _ HMV.out.1 (show x.at_ + 1 ≤ 1000000 by omega) HE.out.2.2.2.1).mono ?_
  intro r w2 hpost
  unfold ArgPost at hpost
  rw [show argD s lim x.at_ a ({ x with at_ := x.at_ + 1 } : D7.Dx).at_ = .ok n from HE.out.1] at hpost
  obtain ⟨rfl, hrep, hf⟩ := hpost
  have HX := Px.hid (And.intro (show DrRep w2 b s lim { x with at_ := q } vs vo from by rw [HE.out.2.1]; exact hrep) (It.dfoot (vs := vs) (vo := vo) (HMV.out.2.trans hf (fun _ _ h => h))))
  clear hrep hf HMV c2 c5 c7 f5
  go_upto_region 19 with fail
  obtain ⟨WX, hWX⟩ : ∃ WX, WX = ((w2.alloc (.cells #[.int .i64 3, .int .u64 0, .string ⟨#[]⟩] 62 (0, 0))).alloc (.cells #[.int .i64 3, .int .i64 (x.at_ : Nat), .int .u64 1, .string ⟨#[]⟩, .bool false] 108 (0, 0))) := ⟨_, rfl⟩
  rw [← hWX]
  have hnf0 : ¬ dfoot b vs vo w2.heap.size := fun e => by have := HX.out.1.footLt _ e; omega
  have HR := Px.hid (show DrRep WX b s lim { x with at_ := q } vs vo ∧ Fr (dfoot b vs vo) w1 WX ∧ WX.heap[w2.heap.size]? = some (.cells #[.int .i64 3, .int .u64 0, .string ⟨#[]⟩] 62 (0, 0)) ∧ w2.heap.size < WX.heap.size from by
    rw [hWX]
    exact ⟨(HX.out.1.alloc _).alloc _, (HX.out.2.alloc _).alloc _, (Below.heap_alloc _ _ _ (by simp)).trans (heap_alloc_new w2 _), by simp; omega⟩)
  have xa0 : WX.cell? ⟨w2.heap.size, 0, none⟩ = some (.int .i64 3) := cellOf HR.out.2.2.1 0 rfl
  have xa2 : WX.cell? ⟨w2.heap.size, 2, none⟩ = some (.string ⟨#[]⟩) := cellOf HR.out.2.2.1 2 rfl
  have hnf := Px.hid hnf0
  have HWS := Px.hid (show w1.heap.size ≤ w2.heap.size from HX.out.2.size)
  clear hWX HX hnf0
  go_wp2_with fail
  refine (dtake_yes b n s lim _ _ _ _ HR.out.1 HS.out HT.out.1 HT.out.2.1 HT.out.2.2.1 HT.out.2.2.2.1 t HT.out.2.2.2.2 HN.out.1).mono ?_
  rintro r w3 ⟨rfl, hrp, hfr⟩
  have HR := Px.hid (show DrRep w3 b s lim { x with at_ := q + n } vs vo ∧ Fr (dfoot b vs vo) w1 w3 ∧ w3.heap[w2.heap.size]? = some (.cells #[.int .i64 3, .int .u64 0, .string ⟨#[]⟩] 62 (0, 0)) ∧ w2.heap.size < w3.heap.size from
    ⟨hrp, Fr.trans HR.out.2.1 hfr (fun _ _ e => .inl e), (hfr.block _ HR.out.2.2.2 (fun e => hnf.out (.inl e))).trans HR.out.2.2.1, Nat.lt_of_lt_of_le HR.out.2.2.2 hfr.size⟩)
  clear xa0 xa2
  have xa0 : w3.cell? ⟨w2.heap.size, 0, none⟩ = some (.int .i64 3) := cellOf HR.out.2.2.1 0 rfl
  have xa1 : w3.cell? ⟨w2.heap.size, 1, none⟩ = some (.int .u64 0) := cellOf HR.out.2.2.1 1 rfl
  have xa2 : w3.cell? ⟨w2.heap.size, 2, none⟩ = some (.string ⟨#[]⟩) := cellOf HR.out.2.2.1 2 rfl
  have xf2 := freeOf HR.out.2.2.1 2
  clear hrp hfr
  go_upto_region 20 with fail
  obtain ⟨WY, hWY⟩ : ∃ WY, WY = w3.setCell ⟨w2.heap.size, 2, none⟩ (S t) := ⟨_, rfl⟩
  rw [show w3.setCell ⟨w2.heap.size, 2, none⟩ (.string ⟨t.toArray⟩) = WY from hWY.symm]
  have hne : ∀ j, dfoot b vs vo j → WY.heap[j]? = w3.heap[j]? := fun j hj => by rw [hWY]; exact (Fr.setCell (Fr.refl (fun i => i = w2.heap.size) w3) (p := ⟨w2.heap.size, 2, none⟩) (.inl rfl) (S t)).block j (HR.out.1.footLt j hj) (fun e => hnf.out (e ▸ hj))
  have HR := Px.hid (show DrRep WY b s lim { x with at_ := q + n } vs vo ∧ Fr (dfoot b vs vo) w1 WY ∧ WY.heap[w2.heap.size]? = some (.cells #[.int .i64 3, .int .u64 0, S t] 62 (0, 0)) ∧ w2.heap.size < WY.heap.size from
    ⟨HR.out.1.keep hne, by rw [hWY]; exact HR.out.2.1.setCell (.inr HWS.out) _, by rw [hWY, heap_setCell_same _ w2.heap.size 2 _ _ _ HR.out.2.2.1]; rfl, by rw [hWY]; simpa using HR.out.2.2.2⟩)
  clear hWY hne xa0 xa1 xa2 xf2
  have xa2 : WY.cell? ⟨w2.heap.size, 2, none⟩ = some (S t) := cellOf HR.out.2.2.1 2 rfl
  go_wp2_with fail
  refine (valid_any _ _ HV.out.2.2 (HV.out.1 _ HR.out.2.1)).mono ?_
  rintro e WZ ⟨rfl, hbl⟩
  have HR := Px.hid (show DrRep WZ b s lim { x with at_ := q + n } vs vo ∧ Fr (dfoot b vs vo) w1 WZ ∧ WZ.heap[w2.heap.size]? = some (.cells #[.int .i64 3, .int .u64 0, S t] 62 (0, 0)) ∧ w2.heap.size < WZ.heap.size from
    ⟨HR.out.1.keep (fun j hj => hbl.block j (HR.out.1.footLt j hj)), Fr.trans HR.out.2.1 (Fr.below hbl) (fun _ _ x => x), (hbl.block _ HR.out.2.2.2).trans HR.out.2.2.1, Nat.lt_of_lt_of_le HR.out.2.2.2 hbl.size⟩)
  clear hbl xa2
  rw [HV.out.2.1]
  go_upto_region 22 with fail
  have xa0 : WZ.cell? ⟨w2.heap.size, 0, none⟩ = some (.int .i64 3) := cellOf HR.out.2.2.1 0 rfl
  have xa1 : WZ.cell? ⟨w2.heap.size, 1, none⟩ = some (.int .u64 0) := cellOf HR.out.2.2.1 1 rfl
  have xa2 : WZ.cell? ⟨w2.heap.size, 2, none⟩ = some (S t) := cellOf HR.out.2.2.1 2 rfl
  have c7 : WZ.cell? ⟨b, 7, none⟩ = some vo := HR.out.1.cells.2.2.2.2.2.2
  have f7 := HR.out.1.free 7
  have hb : b < WZ.heap.size := HR.out.1.lt
  obtain ⟨i0, hi0, hz0, hz1, hz2⟩ := info_parts Tryd.infoAtom
  go_cut [] (fun wx => DAfter WZ wx b s lim { x with at_ := q + n } ⟨3, 0, t⟩ vs vo)
  case first =>
    go_region_law
      ((refine step_append_lies _ (by rfl) _ _ _ (by rfl) 0 62 i0 _ 3 32 Tryd.underlying50 hi0 hz0 hz1 hz2 rfl (by omega) vo x.out.length (x.out.flatMap cAtom) (by rfl) ((HR.out.1.out.alloc _).drew) ⟨WZ.heap.size, 0, none⟩ 1 1 (cAtom ⟨3, 0, t⟩) (by rfl) (by rfl) (World.news_of_block (cs := #[.int .i64 3, .int .u64 0, S t]) (t := 62) (fr := (0, 0)) (heap_alloc_new WZ _)) (by simp [cAtom, Value.oneCell']) (by omega) (by unfold maxLen; omega) (by omega) (by simp) (WZ.heap.size + 1) (by simp) ?_; intro gg cap w1 hown1 hgrow hat hlt; have k7 := grown_cell hgrow c7 HR.out.1.ob.ne; have e7 := grown_free hgrow c7 f7 HR.out.1.ob.ne))
    all_goals (go_wp2_with fail; go_meet; exact HR.out.1.afterOut hown1 (grown_alloc hgrow) (hat.elim .inl (fun e => .inr (by omega))))
  case rest =>
    obtain ⟨vo', hy, hyf, hyn⟩ := hcut
    have HY := Px.hid (And.intro hy (And.intro hyf hyn))
    clear hy hyf hyn c7 f7 xa0 xa1 xa2
    go_wp2_with fail
    refine (dended_any b x.at_ s lim _ _ _ ⟨_, _, HY.out.1, rfl⟩ (show x.at_ ≤ q + n by have := HE.out.2.1; omega) HN.out.2 (fun f rest e => HE.out.2.2.2.2.1 f (by rw [show x.stack = f :: rest from e]; simp)) (show x.stack.length ≤ 1000 by have := HE.out.2.2.2.2.2.1; omega)).mono ?_
    intro r w3 hpost
    have hB := begin_fin (HR.out.2.1.step (Fresh.refl _ _) HY.out.2.1) (Fresh.trans (Fresh.refl _ _) HR.out.2.1.size HY.out.2.2) hpost
    unfold EndPost at hpost
    cases hres : D7.ended s { at_ := q + n, stack := x.stack, out := x.out ++ [⟨3, 0, t⟩] } x.at_ with
    | error e =>
      rw [hres] at hpost hB
      obtain ⟨rfl, _⟩ := hpost
      have HB := Px.hid hB
      have HRES := Px.hid hres
      clear hB hres
      unfold panics
      go_wp2
      exact ⟨rfl, by rw [HRES.out]; exact HB.out⟩
    | ok y =>
      rw [hres] at hpost hB
      obtain ⟨rfl, _⟩ := hpost
      have HB := Px.hid hB
      have HRES := Px.hid hres
      clear hB hres
      go_wp2
      refine bodyPost_ret (results_none rfl _ _ _) rfl ?_
      rw [HRES.out]
      exact HB.out

set_option maxRecDepth 100000 in
set_option maxHeartbeats 4000000 in
theorem begin_k3_inv (s : Bytes) (lim : Lim) (hs : s.length ≤ 140737488355327) (hlb : 1 ≤ lim.b) (hlb2 : lim.b ≤ 262144) (b n q : Nat) (x : D7.Dx) (vs vo : Value) (w : World) (h : DrRep w b s lim x vs vo) (hx : x.at_ ≤ 262144) (hok : DOk s lim x) (hqs : q ≤ s.length) (hqb : (q : Int) ≤ lim.b) (hh : D7.head s lim x.out.length x.at_ = .ok (3, n, q)) (t : Bytes) (het : D7.take s lim q n = .ok t) (hT : ∀ w2, Fr (dfoot b vs vo) w w2 → Tabs w2) (hvd : Lib.validD t = false) :
    Calls Tryd.prog 51 #[.pointer (some ⟨b, 0, none⟩)] w fun r w' => r = panics (x.at_, 9) ∧ Fr (dfoot b vs vo) w w' := by
  obtain ⟨hrn, hqn, htt⟩ := take_ok hlb hqs het
  have HT := Px.hid (And.intro hlb (And.intro hlb2 (And.intro hqs (And.intro hqb het))))
  have HN := Px.hid (And.intro hrn hqn)
  have HS := Px.hid hs
  have htl : t.length ≤ 9223372036854775807 := by rw [htt]; simp; omega
  clear hlb hlb2 hqs hqb het hrn hqn htt
  have HV := Px.hid (And.intro hT (And.intro hvd htl))
  clear hT hvd htl
  have hol : x.out.length ≤ 1000000 := hok.2.2.1
  obtain ⟨c, hc, hcb, hkc, hi, h27, h7, he, hqe⟩ := head_ok hh
  have hw := dwant_yes b x.at_ s lim x vs vo w h c hc
  have HW := Px.hid hw
  have HH := Px.hid h
  obtain ⟨_, _, c2, _, c5, _, c7⟩ := h.cells
  obtain ⟨oa, oc, hov, _⟩ := h.out.len
  rw [hov] at c7
  have HOV := Px.hid hov
  obtain ⟨a, ha⟩ : ∃ a, a = c % 32 := ⟨_, rfl⟩
  have hq : (c : Int) / 32 = 3 := by omega
  have hmd : (c : Int) % 32 = (a : Int) := by omega
  have ha32 : a < 32 := by omega
  rw [← ha] at h27 he h7 hqe
  have hib : ((x.out.length : Int) == lim.i) = false := by simpa using hi
  have z27 : ¬ (27 : Int) < a := by omega
  have z7 : True := trivial
  clear h7 hkc
  have ep1 : ((x.at_ + 1 : Nat) : Int) = (x.at_ : Int) + 1 := by omega
  have f5 := HH.out.free 5
  have hst1 := hok.1
  have HE := Px.hid (And.intro he (And.intro hqe (And.intro hs (And.intro h27 hok))))
  clear ha hw hc h hov hi he h27 hqe hh hs hok hst1
  go_enter Tryd.func51, Tryd.ntmps51
  go_wp2_with fail
  refine HW.out.mono ?_
  rintro r w1 ⟨rfl, rfl⟩
  go_wp2_with fail
  go_quiet (fail)
  have hmv := (HH.out.drewN nq).move (x.at_ + 1)
  rw [ep1] at hmv
  have HMV := Px.hid (And.intro hmv ((Fr.drewN (Fr.refl (It b) w1) nq).setCell (p := ⟨b, 5, none⟩) (.inl rfl) (.int .i64 ((x.at_ : Int) + 1))))
  clear hmv
  go_wp2_with fail
  refine (arg_any b x.at_ a s lim _ vs vo _ HMV.out.1 (show x.at_ + 1 ≤ 1000000 by omega) HE.out.2.2.2.1).mono ?_
  intro r w2 hpost
  unfold ArgPost at hpost
  rw [show argD s lim x.at_ a ({ x with at_ := x.at_ + 1 } : D7.Dx).at_ = .ok n from HE.out.1] at hpost
  obtain ⟨rfl, hrep, hf⟩ := hpost
  have HX := Px.hid (And.intro (show DrRep w2 b s lim { x with at_ := q } vs vo from by rw [HE.out.2.1]; exact hrep) (It.dfoot (vs := vs) (vo := vo) (HMV.out.2.trans hf (fun _ _ h => h))))
  clear hrep hf HMV c2 c5 c7 f5
  go_upto_region 19 with fail
  obtain ⟨WX, hWX⟩ : ∃ WX, WX = ((w2.alloc (.cells #[.int .i64 3, .int .u64 0, .string ⟨#[]⟩] 62 (0, 0))).alloc (.cells #[.int .i64 3, .int .i64 (x.at_ : Nat), .int .u64 1, .string ⟨#[]⟩, .bool false] 108 (0, 0))) := ⟨_, rfl⟩
  rw [← hWX]
  have hnf0 : ¬ dfoot b vs vo w2.heap.size := fun e => by have := HX.out.1.footLt _ e; omega
  have HR := Px.hid (show DrRep WX b s lim { x with at_ := q } vs vo ∧ Fr (dfoot b vs vo) w1 WX ∧ WX.heap[w2.heap.size]? = some (.cells #[.int .i64 3, .int .u64 0, .string ⟨#[]⟩] 62 (0, 0)) ∧ w2.heap.size < WX.heap.size from by
    rw [hWX]
    exact ⟨(HX.out.1.alloc _).alloc _, (HX.out.2.alloc _).alloc _, (Below.heap_alloc _ _ _ (by simp)).trans (heap_alloc_new w2 _), by simp; omega⟩)
  have xa0 : WX.cell? ⟨w2.heap.size, 0, none⟩ = some (.int .i64 3) := cellOf HR.out.2.2.1 0 rfl
  have xa2 : WX.cell? ⟨w2.heap.size, 2, none⟩ = some (.string ⟨#[]⟩) := cellOf HR.out.2.2.1 2 rfl
  have hnf := Px.hid hnf0
  have HWS := Px.hid (show w1.heap.size ≤ w2.heap.size from HX.out.2.size)
  clear hWX HX hnf0
  go_wp2_with fail
  refine (dtake_yes b n s lim _ _ _ _ HR.out.1 HS.out HT.out.1 HT.out.2.1 HT.out.2.2.1 HT.out.2.2.2.1 t HT.out.2.2.2.2 HN.out.1).mono ?_
  rintro r w3 ⟨rfl, hrp, hfr⟩
  have HR := Px.hid (show DrRep w3 b s lim { x with at_ := q + n } vs vo ∧ Fr (dfoot b vs vo) w1 w3 ∧ w3.heap[w2.heap.size]? = some (.cells #[.int .i64 3, .int .u64 0, .string ⟨#[]⟩] 62 (0, 0)) ∧ w2.heap.size < w3.heap.size from
    ⟨hrp, Fr.trans HR.out.2.1 hfr (fun _ _ e => .inl e), (hfr.block _ HR.out.2.2.2 (fun e => hnf.out (.inl e))).trans HR.out.2.2.1, Nat.lt_of_lt_of_le HR.out.2.2.2 hfr.size⟩)
  clear xa0 xa2
  have xa0 : w3.cell? ⟨w2.heap.size, 0, none⟩ = some (.int .i64 3) := cellOf HR.out.2.2.1 0 rfl
  have xa1 : w3.cell? ⟨w2.heap.size, 1, none⟩ = some (.int .u64 0) := cellOf HR.out.2.2.1 1 rfl
  have xa2 : w3.cell? ⟨w2.heap.size, 2, none⟩ = some (.string ⟨#[]⟩) := cellOf HR.out.2.2.1 2 rfl
  have xf2 := freeOf HR.out.2.2.1 2
  clear hrp hfr
  go_upto_region 20 with fail
  obtain ⟨WY, hWY⟩ : ∃ WY, WY = w3.setCell ⟨w2.heap.size, 2, none⟩ (S t) := ⟨_, rfl⟩
  rw [show w3.setCell ⟨w2.heap.size, 2, none⟩ (.string ⟨t.toArray⟩) = WY from hWY.symm]
  have hne : ∀ j, dfoot b vs vo j → WY.heap[j]? = w3.heap[j]? := fun j hj => by rw [hWY]; exact (Fr.setCell (Fr.refl (fun i => i = w2.heap.size) w3) (p := ⟨w2.heap.size, 2, none⟩) (.inl rfl) (S t)).block j (HR.out.1.footLt j hj) (fun e => hnf.out (e ▸ hj))
  have HR := Px.hid (show DrRep WY b s lim { x with at_ := q + n } vs vo ∧ Fr (dfoot b vs vo) w1 WY ∧ WY.heap[w2.heap.size]? = some (.cells #[.int .i64 3, .int .u64 0, S t] 62 (0, 0)) ∧ w2.heap.size < WY.heap.size from
    ⟨HR.out.1.keep hne, by rw [hWY]; exact HR.out.2.1.setCell (.inr HWS.out) _, by rw [hWY, heap_setCell_same _ w2.heap.size 2 _ _ _ HR.out.2.2.1]; rfl, by rw [hWY]; simpa using HR.out.2.2.2⟩)
  clear hWY hne xa0 xa1 xa2 xf2
  have xa2 : WY.cell? ⟨w2.heap.size, 2, none⟩ = some (S t) := cellOf HR.out.2.2.1 2 rfl
  go_wp2_with fail
  refine (valid_any _ _ HV.out.2.2 (HV.out.1 _ HR.out.2.1)).mono ?_
  rintro e WZ ⟨rfl, hbl⟩
  have HR := Px.hid (show DrRep WZ b s lim { x with at_ := q + n } vs vo ∧ Fr (dfoot b vs vo) w1 WZ ∧ WZ.heap[w2.heap.size]? = some (.cells #[.int .i64 3, .int .u64 0, S t] 62 (0, 0)) ∧ w2.heap.size < WZ.heap.size from
    ⟨HR.out.1.keep (fun j hj => hbl.block j (HR.out.1.footLt j hj)), Fr.trans HR.out.2.1 (Fr.below hbl) (fun _ _ x => x), (hbl.block _ HR.out.2.2.2).trans HR.out.2.2.1, Nat.lt_of_lt_of_le HR.out.2.2.2 hbl.size⟩)
  clear hbl xa2
  rw [HV.out.2.1]
  go_wp2
  exact ⟨rfl, rfl, HR.out.2.1⟩

end Go.Proofs.YtddiabaagpmkgaaDoor
