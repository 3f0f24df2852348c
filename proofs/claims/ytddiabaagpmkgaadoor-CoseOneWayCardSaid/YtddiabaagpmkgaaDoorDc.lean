/-
  The walk over the program's begin (package cbor) where an item is read, kind by kind.
-/
import Derived.Test.YtddiabaagpmkgaaDoorDb
namespace Go.Proofs.YtddiabaagpmkgaaDoor
open Go.RowKit Go.Px

section
variable {w w' : World} {b : Nat} {s : Bytes} {lim : Lim} {x : D7.Dx} {vs vo : Value}
theorem DrRep.alloc (h : DrRep w b s lim x vs vo) (o : Obj) : DrRep (w.alloc o) b s lim x vs vo := h.keep fun k hk => Below.heap_alloc w o k (h.footLt k hk)
def DAfter (w w' : World) (b : Nat) (s : Bytes) (lim : Lim) (x : D7.Dx) (a : Atom) (vs vo : Value) : Prop :=
  ∃ vo', DrRep w' b s lim { x with out := x.out ++ [a] } vs vo' ∧ Fr (dfoot b vs vo) w w' ∧ Fresh w (dfoot b vs vo) (dfoot b vs vo')
theorem DrRep.afterOut (h : DrRep w b s lim x vs vo) {g cap : Nat} {a : Atom}
    (hown : w'.ownsRow 0 62 3 (.slice (some ⟨g, 0, none⟩) (x.out.length + 1) cap) (x.out.length + 1) (x.out.flatMap cAtom ++ cAtom a))
    (hg : w.grownBy w' vo.ownBlock) (hat : vo.ownBlock = some g ∨ w.heap.size ≤ g) :
    DAfter w (w'.setCell ⟨b, 7, none⟩ (.slice (some ⟨g, 0, none⟩) (x.out.length + 1) cap)) b s lim x a vs vo := by
  have hgb : g ≠ b := by rcases hat with e | e; exact fun x => h.ob g e (by rw [x]); have := h.lt; omega
  have hb' : w'.heap[b]? = some (.cells (drCells s lim x.at_ vs vo) 83 (0, 0)) := (hg.block b h.lt (fun e => h.ob b e.symm rfl)).trans h.blk
  refine ⟨.slice (some ⟨g, 0, none⟩) (x.out.length + 1) cap, ⟨?_, ?_, ?_, h.sb, ?_, ?_⟩, ((Fr.refl _ w).grown hg (fun k e => .inl (.inr (.inr e)))).setCell (.inl (.inl rfl)) _, ?_⟩
  · rw [heap_setCell_same w' b 7 _ _ _ hb']; rfl
  · exact (h.stack.grown hg h.so).setCell (p := ⟨b, 7, none⟩) h.sb.ne _
  · exact (owns_append hown).setCell (p := ⟨b, 7, none⟩) (by simpa [Value.ownBlock] using hgb) _
  · intro k hk; simp [Value.ownBlock] at hk; subst hk; simpa using Ne.symm hgb
  · intro k hk e
    rcases hat with y | y
    · exact h.so k hk (by rw [y]; exact e)
    · have := h.stack.lt hk; simp [Value.ownBlock] at e; omega
  · rintro k (rfl | hk | hk)
    · exact .inl (.inl rfl)
    · exact .inl (.inr (.inl hk))
    · simp only [Value.ownBlock, Option.some.injEq] at hk
      subst hk
      rcases hat with e | e
      · exact .inl (.inr (.inr e))
      · exact .inr e
def DPush (w w' : World) (b : Nat) (s : Bytes) (lim : Lim) (x : D7.Dx) (a : D7.Fm) (vs vo : Value) : Prop :=
  ∃ vs', DrRep w' b s lim { x with stack := a :: x.stack } vs' vo ∧ Fr (dfoot b vs vo) w w' ∧ Fresh w (dfoot b vs vo) (dfoot b vs' vo)
theorem DrRep.afterPush (h : DrRep w b s lim x vs vo) {g cap : Nat} {a : D7.Fm}
    (hown : w'.ownsRow 0 108 5 (.slice (some ⟨g, 0, none⟩) (x.stack.length + 1) cap) (x.stack.length + 1) (x.stack.reverse.flatMap cFm ++ cFm a))
    (hg : w.grownBy w' vs.ownBlock) (hat : vs.ownBlock = some g ∨ w.heap.size ≤ g) :
    DPush w (w'.setCell ⟨b, 6, none⟩ (.slice (some ⟨g, 0, none⟩) (x.stack.length + 1) cap)) b s lim x a vs vo := by
  have hgb : g ≠ b := by rcases hat with e | e; exact fun x => h.sb g e (by rw [x]); have := h.lt; omega
  have hb' : w'.heap[b]? = some (.cells (drCells s lim x.at_ vs vo) 83 (0, 0)) := (hg.block b h.lt (fun e => h.sb b e.symm rfl)).trans h.blk
  have hrl : x.stack.reverse.length = x.stack.length := List.length_reverse
  refine ⟨.slice (some ⟨g, 0, none⟩) (x.stack.length + 1) cap, ⟨?_, ?_, ?_, ?_, h.ob, ?_⟩, ((Fr.refl _ w).grown hg (fun k e => .inl (.inr (.inl e)))).setCell (.inl (.inl rfl)) _, ?_⟩
  · rw [heap_setCell_same w' b 6 _ _ _ hb']; rfl
  · have := owns_append (l := x.stack.reverse) (c := cFm) (a := a) (w := w') (T := 108) (sz := 5) (g := g) (cap := cap) (by rw [hrl]; exact hown)
    rw [hrl] at this
    have e : ({ x with stack := a :: x.stack } : D7.Dx).stack.reverse = x.stack.reverse ++ [a] := by simp
    rw [e]
    exact this.setCell (p := ⟨b, 6, none⟩) (by simpa [Value.ownBlock] using hgb) _
  · exact (h.out.grown hg h.so.symm).setCell (p := ⟨b, 6, none⟩) h.ob.ne _
  · intro k hk; simp [Value.ownBlock] at hk; subst hk; simpa using Ne.symm hgb
  · intro k hk e
    simp [Value.ownBlock] at hk
    subst hk
    rcases hat with y | y
    · exact h.so _ y e
    · have := h.out.lt e; omega
  · rintro k (rfl | hk | hk)
    · exact .inl (.inl rfl)
    · simp only [Value.ownBlock, Option.some.injEq] at hk
      subst hk
      rcases hat with e | e
      · exact .inl (.inr (.inl e))
      · exact .inr e
    · exact .inl (.inr (.inr hk))
end
theorem begin_fin {w w1 w2 : World} {b : Nat} {s : Bytes} {lim : Lim} {F F1 : Nat → Prop} {res : Except D7.Flt D7.Dx} {r : Ending} (hf : Fr F w w1) (hn : Fresh w F F1) (h : EndPost w1 b s lim F1 res r w2) : BegPost w b s lim F res r w2 := by
  unfold EndPost at h
  unfold BegPost
  cases res with
  | error e => exact ⟨h.1, hf.step hn h.2⟩
  | ok y => exact ⟨h.1, F1, h.2.1, hf.step hn h.2.2, hn⟩
/-- What must hold of a reader that reads on. -/
def DOk (s : Bytes) (lim : Lim) (x : D7.Dx) : Prop := (∀ f ∈ x.stack, 0 < f.left ∧ f.left < 18446744073709551616) ∧ x.stack.length ≤ 900 ∧ x.out.length ≤ 1000000 ∧ x.at_ ≤ s.length ∧ lim.may = true

set_option maxRecDepth 100000 in
set_option maxHeartbeats 4000000 in
theorem begin_k0 (s : Bytes) (lim : Lim) (hs : s.length ≤ 140737488355327) (b n q : Nat) (x : D7.Dx) (vs vo : Value) (w : World) (h : DrRep w b s lim x vs vo) (hx : x.at_ ≤ 262144) (hok : DOk s lim x) (hqs : q ≤ s.length) (hh : D7.head s lim x.out.length x.at_ = .ok (0, n, q)) :
    Calls Tryd.prog 51 #[.pointer (some ⟨b, 0, none⟩)] w fun r w' => BegPost w b s lim (dfoot b vs vo) (D7.ended s { at_ := q, stack := x.stack, out := x.out ++ [⟨0, n, []⟩] } x.at_) r w' := by
  have hol : x.out.length ≤ 1000000 := hok.2.2.1
  obtain ⟨c, hc, hcb, hkc, hi, h27, h7, he, hqe⟩ := head_ok hh
  have hw := dwant_yes b x.at_ s lim x vs vo w h c hc
  have HW := Px.hid hw
  have HH := Px.hid h
  obtain ⟨_, _, c2, _, c5, _, c7⟩ := h.cells
  obtain ⟨oa, oc, hov, _⟩ := h.out.len
  rw [hov] at c7
  have HOV := Px.hid hov
  obtain ⟨a, ha⟩ : ∃ a, a = c % 32 := ⟨_, rfl⟩
  have hq : (c : Int) / 32 = 0 := by omega
  have hmd : (c : Int) % 32 = (a : Int) := by omega
  have ha32 : a < 32 := by omega
  rw [← ha] at h27 he h7 hqe
  have hib : ((x.out.length : Int) == lim.i) = false := by simpa using hi
  have z27 : ¬ (27 : Int) < a := by omega
  have z7 : True := trivial
  clear h7 hkc
  have ep1 : ((x.at_ + 1 : Nat) : Int) = (x.at_ : Int) + 1 := by omega
  have f5 := HH.out.free 5
  have hst1 := hok.1
  have HE := Px.hid (And.intro he (And.intro hqe (And.intro hs (And.intro h27 hok))))
  clear ha hw hc h hov hi he h27 hqe hh hs hok hst1
  go_enter Tryd.func51, Tryd.ntmps51
  go_wp2_with fail
  refine HW.out.mono ?_
  rintro r w1 ⟨rfl, rfl⟩
  go_wp2_with fail
  go_quiet (fail)
  have hmv := (HH.out.drewN nq).move (x.at_ + 1)
  rw [ep1] at hmv
  have HMV := Px.hid (And.intro hmv ((Fr.drewN (Fr.refl (It b) w1) nq).setCell (p := ⟨b, 5, none⟩) (.inl rfl) (.int .i64 ((x.at_ : Int) + 1))))
  clear hmv
  go_wp2_with fail
  refine (arg_any b x.at_ a s lim _ vs vo _ HMV.out.1 (show x.at_ + 1 ≤ 1000000 by omega) HE.out.2.2.2.1).mono ?_
  intro r w2 hpost
  unfold ArgPost at hpost
  rw [show argD s lim x.at_ a ({ x with at_ := x.at_ + 1 } : D7.Dx).at_ = .ok n from HE.out.1] at hpost
  obtain ⟨rfl, hrep, hf⟩ := hpost
  have HX := Px.hid (And.intro (show DrRep w2 b s lim { x with at_ := q } vs vo from by rw [HE.out.2.1]; exact hrep) (It.dfoot (vs := vs) (vo := vo) (HMV.out.2.trans hf (fun _ _ h => h))))
  clear hrep hf HMV c2 c5 c7 f5
  go_upto_region 14 with fail
  obtain ⟨WX, hWX⟩ : ∃ WX, WX = ((w2.alloc (.cells #[.int .i64 0, .int .u64 (n : Nat), .string ⟨#[]⟩] 62 (0, 0))).alloc (.cells #[.int .i64 0, .int .i64 (x.at_ : Nat), .int .u64 1, .string ⟨#[]⟩, .bool false] 108 (0, 0))) := ⟨_, rfl⟩
  rw [← hWX]
  have HR := Px.hid (show DrRep WX b s lim { x with at_ := q } vs vo ∧ Fr (dfoot b vs vo) w1 WX from by rw [hWX]; exact ⟨(HX.out.1.alloc _).alloc _, (HX.out.2.alloc _).alloc _⟩)
  have xa0 : WX.cell? ⟨w2.heap.size, 0, none⟩ = some (.int .i64 0) := by rw [hWX]; exact cell_alloc (cellOf (heap_alloc_new w2 _) 0 rfl)
  have xa1 : WX.cell? ⟨w2.heap.size, 1, none⟩ = some (.int .u64 (n : Nat)) := by rw [hWX]; exact cell_alloc (cellOf (heap_alloc_new w2 _) 1 rfl)
  have xa2 : WX.cell? ⟨w2.heap.size, 2, none⟩ = some (.string ⟨#[]⟩) := by rw [hWX]; exact cell_alloc (cellOf (heap_alloc_new w2 _) 2 rfl)
  clear hWX HX
  have c7 : WX.cell? ⟨b, 7, none⟩ = some vo := HR.out.1.cells.2.2.2.2.2.2
  have f7 := HR.out.1.free 7
  have hb : b < WX.heap.size := HR.out.1.lt
  obtain ⟨i0, hi0, hz0, hz1, hz2⟩ := info_parts Tryd.infoAtom
  go_cut [] (fun wx => DAfter WX wx b s lim { x with at_ := q } ⟨0, n, []⟩ vs vo)
  case first =>
    go_region_law
      ((refine step_append_lies _ (by rfl) _ _ _ (by rfl) 0 62 i0 _ 3 32 Tryd.underlying50 hi0 hz0 hz1 hz2 rfl (by omega) vo x.out.length (x.out.flatMap cAtom) (by rfl) ((HR.out.1.out.alloc _).drew) ⟨WX.heap.size, 0, none⟩ 1 1 (cAtom ⟨0, n, []⟩) (by rfl) (by rfl) (World.news_of_block (cs := #[.int .i64 0, .int .u64 n, .string ⟨#[]⟩]) (t := 62) (fr := (0, 0)) (heap_alloc_new WX _)) (by simp [cAtom, Value.oneCell']) (by omega) (by unfold maxLen; omega) (by omega) (by simp) (WX.heap.size + 1) (by simp) ?_; intro gg cap w1 hown1 hgrow hat hlt; have k7 := grown_cell hgrow c7 HR.out.1.ob.ne; have e7 := grown_free hgrow c7 f7 HR.out.1.ob.ne))
    all_goals (go_wp2_with fail; go_meet; exact HR.out.1.afterOut hown1 (grown_alloc hgrow) (hat.elim .inl (fun e => .inr (by omega))))
  case rest =>
    obtain ⟨vo', hy, hyf, hyn⟩ := hcut
    have HY := Px.hid (And.intro hy (And.intro hyf hyn))
    clear hy hyf hyn c7 f7 xa0 xa1 xa2
    go_wp2_with fail
    refine (dended_any b x.at_ s lim _ _ _ ⟨_, _, HY.out.1, rfl⟩ (show x.at_ ≤ q by have := HE.out.2.1; omega) hqs (fun f rest e => HE.out.2.2.2.2.1 f (by rw [show x.stack = f :: rest from e]; simp)) (show x.stack.length ≤ 1000 by have := HE.out.2.2.2.2.2.1; omega)).mono ?_
    intro r w3 hpost
    have hB := begin_fin (HR.out.2.step (Fresh.refl _ _) HY.out.2.1) (Fresh.trans (Fresh.refl _ _) HR.out.2.size HY.out.2.2) hpost
    unfold EndPost at hpost
    cases hres : D7.ended s { at_ := q, stack := x.stack, out := x.out ++ [⟨0, n, []⟩] } x.at_ with
    | error e =>
      rw [hres] at hpost hB
      obtain ⟨rfl, _⟩ := hpost
      have HB := Px.hid hB
      have HRES := Px.hid hres
      clear hB hres
      unfold panics
      go_wp2
      exact ⟨rfl, by rw [HRES.out]; exact HB.out⟩
    | ok y =>
      rw [hres] at hpost hB
      obtain ⟨rfl, _⟩ := hpost
      have HB := Px.hid hB
      have HRES := Px.hid hres
      clear hB hres
      go_wp2
      refine bodyPost_ret (results_none rfl _ _ _) rfl ?_
      rw [HRES.out]
      exact HB.out

set_option maxRecDepth 100000 in
set_option maxHeartbeats 4000000 in
theorem begin_k1 (s : Bytes) (lim : Lim) (hs : s.length ≤ 140737488355327) (b n q : Nat) (x : D7.Dx) (vs vo : Value) (w : World) (h : DrRep w b s lim x vs vo) (hx : x.at_ ≤ 262144) (hok : DOk s lim x) (hqs : q ≤ s.length) (hh : D7.head s lim x.out.length x.at_ = .ok (1, n, q)) :
    Calls Tryd.prog 51 #[.pointer (some ⟨b, 0, none⟩)] w fun r w' => BegPost w b s lim (dfoot b vs vo) (D7.ended s { at_ := q, stack := x.stack, out := x.out ++ [⟨1, n, []⟩] } x.at_) r w' := by
  have hol : x.out.length ≤ 1000000 := hok.2.2.1
  obtain ⟨c, hc, hcb, hkc, hi, h27, h7, he, hqe⟩ := head_ok hh
  have hw := dwant_yes b x.at_ s lim x vs vo w h c hc
  have HW := Px.hid hw
  have HH := Px.hid h
  obtain ⟨_, _, c2, _, c5, _, c7⟩ := h.cells
  obtain ⟨oa, oc, hov, _⟩ := h.out.len
  rw [hov] at c7
  have HOV := Px.hid hov
  obtain ⟨a, ha⟩ : ∃ a, a = c % 32 := ⟨_, rfl⟩
  have hq : (c : Int) / 32 = 1 := by omega
  have hmd : (c : Int) % 32 = (a : Int) := by omega
  have ha32 : a < 32 := by omega
  rw [← ha] at h27 he h7 hqe
  have hib : ((x.out.length : Int) == lim.i) = false := by simpa using hi
  have z27 : ¬ (27 : Int) < a := by omega
  have z7 : True := trivial
  clear h7 hkc
  have ep1 : ((x.at_ + 1 : Nat) : Int) = (x.at_ : Int) + 1 := by omega
  have f5 := HH.out.free 5
  have hst1 := hok.1
  have HE := Px.hid (And.intro he (And.intro hqe (And.intro hs (And.intro h27 hok))))
  clear ha hw hc h hov hi he h27 hqe hh hs hok hst1
  go_enter Tryd.func51, Tryd.ntmps51
  go_wp2_with fail
  refine HW.out.mono ?_
  rintro r w1 ⟨rfl, rfl⟩
  go_wp2_with fail
  go_quiet (fail)
  have hmv := (HH.out.drewN nq).move (x.at_ + 1)
  rw [ep1] at hmv
  have HMV := Px.hid (And.intro hmv ((Fr.drewN (Fr.refl (It b) w1) nq).setCell (p := ⟨b, 5, none⟩) (.inl rfl) (.int .i64 ((x.at_ : Int) + 1))))
  clear hmv
  go_wp2_with fail
  refine (arg_any b x.at_ a s lim _ vs vo _ HMV.out.1 (show x.at_ + 1 ≤ 1000000 by omega) HE.out.2.2.2.1).mono ?_
  intro r w2 hpost
  unfold ArgPost at hpost
  rw [show argD s lim x.at_ a ({ x with at_ := x.at_ + 1 } : D7.Dx).at_ = .ok n from HE.out.1] at hpost
  obtain ⟨rfl, hrep, hf⟩ := hpost
  have HX := Px.hid (And.intro (show DrRep w2 b s lim { x with at_ := q } vs vo from by rw [HE.out.2.1]; exact hrep) (It.dfoot (vs := vs) (vo := vo) (HMV.out.2.trans hf (fun _ _ h => h))))
  clear hrep hf HMV c2 c5 c7 f5
  go_upto_region 14 with fail
  obtain ⟨WX, hWX⟩ : ∃ WX, WX = ((w2.alloc (.cells #[.int .i64 1, .int .u64 (n : Nat), .string ⟨#[]⟩] 62 (0, 0))).alloc (.cells #[.int .i64 1, .int .i64 (x.at_ : Nat), .int .u64 1, .string ⟨#[]⟩, .bool false] 108 (0, 0))) := ⟨_, rfl⟩
  rw [← hWX]
  have HR := Px.hid (show DrRep WX b s lim { x with at_ := q } vs vo ∧ Fr (dfoot b vs vo) w1 WX from by rw [hWX]; exact ⟨(HX.out.1.alloc _).alloc _, (HX.out.2.alloc _).alloc _⟩)
  have xa0 : WX.cell? ⟨w2.heap.size, 0, none⟩ = some (.int .i64 1) := by rw [hWX]; exact cell_alloc (cellOf (heap_alloc_new w2 _) 0 rfl)
  have xa1 : WX.cell? ⟨w2.heap.size, 1, none⟩ = some (.int .u64 (n : Nat)) := by rw [hWX]; exact cell_alloc (cellOf (heap_alloc_new w2 _) 1 rfl)
  have xa2 : WX.cell? ⟨w2.heap.size, 2, none⟩ = some (.string ⟨#[]⟩) := by rw [hWX]; exact cell_alloc (cellOf (heap_alloc_new w2 _) 2 rfl)
  clear hWX HX
  have c7 : WX.cell? ⟨b, 7, none⟩ = some vo := HR.out.1.cells.2.2.2.2.2.2
  have f7 := HR.out.1.free 7
  have hb : b < WX.heap.size := HR.out.1.lt
  obtain ⟨i0, hi0, hz0, hz1, hz2⟩ := info_parts Tryd.infoAtom
  go_cut [] (fun wx => DAfter WX wx b s lim { x with at_ := q } ⟨1, n, []⟩ vs vo)
  case first =>
    go_region_law
      ((refine step_append_lies _ (by rfl) _ _ _ (by rfl) 0 62 i0 _ 3 32 Tryd.underlying50 hi0 hz0 hz1 hz2 rfl (by omega) vo x.out.length (x.out.flatMap cAtom) (by rfl) ((HR.out.1.out.alloc _).drew) ⟨WX.heap.size, 0, none⟩ 1 1 (cAtom ⟨1, n, []⟩) (by rfl) (by rfl) (World.news_of_block (cs := #[.int .i64 1, .int .u64 n, .string ⟨#[]⟩]) (t := 62) (fr := (0, 0)) (heap_alloc_new WX _)) (by simp [cAtom, Value.oneCell']) (by omega) (by unfold maxLen; omega) (by omega) (by simp) (WX.heap.size + 1) (by simp) ?_; intro gg cap w1 hown1 hgrow hat hlt; have k7 := grown_cell hgrow c7 HR.out.1.ob.ne; have e7 := grown_free hgrow c7 f7 HR.out.1.ob.ne))
    all_goals (go_wp2_with fail; go_meet; exact HR.out.1.afterOut hown1 (grown_alloc hgrow) (hat.elim .inl (fun e => .inr (by omega))))
  case rest =>
    obtain ⟨vo', hy, hyf, hyn⟩ := hcut
    have HY := Px.hid (And.intro hy (And.intro hyf hyn))
    clear hy hyf hyn c7 f7 xa0 xa1 xa2
    go_wp2_with fail
    refine (dended_any b x.at_ s lim _ _ _ ⟨_, _, HY.out.1, rfl⟩ (show x.at_ ≤ q by have := HE.out.2.1; omega) hqs (fun f rest e => HE.out.2.2.2.2.1 f (by rw [show x.stack = f :: rest from e]; simp)) (show x.stack.length ≤ 1000 by have := HE.out.2.2.2.2.2.1; omega)).mono ?_
    intro r w3 hpost
    have hB := begin_fin (HR.out.2.step (Fresh.refl _ _) HY.out.2.1) (Fresh.trans (Fresh.refl _ _) HR.out.2.size HY.out.2.2) hpost
    unfold EndPost at hpost
    cases hres : D7.ended s { at_ := q, stack := x.stack, out := x.out ++ [⟨1, n, []⟩] } x.at_ with
    | error e =>
      rw [hres] at hpost hB
      obtain ⟨rfl, _⟩ := hpost
      have HB := Px.hid hB
      have HRES := Px.hid hres
      clear hB hres
      unfold panics
      go_wp2
      exact ⟨rfl, by rw [HRES.out]; exact HB.out⟩
    | ok y =>
      rw [hres] at hpost hB
      obtain ⟨rfl, _⟩ := hpost
      have HB := Px.hid hB
      have HRES := Px.hid hres
      clear hB hres
      go_wp2
      refine bodyPost_ret (results_none rfl _ _ _) rfl ?_
      rw [HRES.out]
      exact HB.out

set_option maxRecDepth 100000 in
set_option maxHeartbeats 4000000 in
theorem begin_k7 (s : Bytes) (lim : Lim) (hs : s.length ≤ 140737488355327) (b n q : Nat) (x : D7.Dx) (vs vo : Value) (w : World) (h : DrRep w b s lim x vs vo) (hx : x.at_ ≤ 262144) (hok : DOk s lim x) (hqs : q ≤ s.length) (hh : D7.head s lim x.out.length x.at_ = .ok (7, n, q)) :
    Calls Tryd.prog 51 #[.pointer (some ⟨b, 0, none⟩)] w fun r w' => BegPost w b s lim (dfoot b vs vo) (D7.ended s { at_ := q, stack := x.stack, out := x.out ++ [⟨7, n, []⟩] } x.at_) r w' := by
  have hol : x.out.length ≤ 1000000 := hok.2.2.1
  obtain ⟨c, hc, hcb, hkc, hi, h27, h7, he, hqe⟩ := head_ok hh
  have hw := dwant_yes b x.at_ s lim x vs vo w h c hc
  have HW := Px.hid hw
  have HH := Px.hid h
  obtain ⟨_, _, c2, _, c5, _, c7⟩ := h.cells
  obtain ⟨oa, oc, hov, _⟩ := h.out.len
  rw [hov] at c7
  have HOV := Px.hid hov
  obtain ⟨a, ha⟩ : ∃ a, a = c % 32 := ⟨_, rfl⟩
  have hq : (c : Int) / 32 = 7 := by omega
  have hmd : (c : Int) % 32 = (a : Int) := by omega
  have ha32 : a < 32 := by omega
  rw [← ha] at h27 he h7 hqe
  have hib : ((x.out.length : Int) == lim.i) = false := by simpa using hi
  have z27 : ¬ (27 : Int) < a := by omega
  have z20 : ¬ (a : Int) < 20 := by have := h7 rfl; omega
  have z23 : ¬ (23 : Int) < a := by have := h7 rfl; omega
  clear hkc
  have ep1 : ((x.at_ + 1 : Nat) : Int) = (x.at_ : Int) + 1 := by omega
  have f5 := HH.out.free 5
  have hst1 := hok.1
  have HE := Px.hid (And.intro he (And.intro hqe (And.intro hs (And.intro h27 hok))))
  clear ha hw hc h hov hi he h7 h27 hqe hh hs hok hst1
  go_enter Tryd.func51, Tryd.ntmps51
  go_wp2_with fail
  refine HW.out.mono ?_
  rintro r w1 ⟨rfl, rfl⟩
  go_wp2_with fail
  go_quiet (fail)
  have hmv := (HH.out.drewN nq).move (x.at_ + 1)
  rw [ep1] at hmv
  have HMV := Px.hid (And.intro hmv ((Fr.drewN (Fr.refl (It b) w1) nq).setCell (p := ⟨b, 5, none⟩) (.inl rfl) (.int .i64 ((x.at_ : Int) + 1))))
  clear hmv
  go_wp2_with fail
  refine (arg_any b x.at_ a s lim _ vs vo _ HMV.out.1 (show x.at_ + 1 ≤ 1000000 by omega) HE.out.2.2.2.1).mono ?_
  intro r w2 hpost
  unfold ArgPost at hpost
  rw [show argD s lim x.at_ a ({ x with at_ := x.at_ + 1 } : D7.Dx).at_ = .ok n from HE.out.1] at hpost
  obtain ⟨rfl, hrep, hf⟩ := hpost
  have HX := Px.hid (And.intro (show DrRep w2 b s lim { x with at_ := q } vs vo from by rw [HE.out.2.1]; exact hrep) (It.dfoot (vs := vs) (vo := vo) (HMV.out.2.trans hf (fun _ _ h => h))))
  clear hrep hf HMV c2 c5 c7 f5
  go_upto_region 14 with fail
  obtain ⟨WX, hWX⟩ : ∃ WX, WX = ((w2.alloc (.cells #[.int .i64 7, .int .u64 (n : Nat), .string ⟨#[]⟩] 62 (0, 0))).alloc (.cells #[.int .i64 7, .int .i64 (x.at_ : Nat), .int .u64 1, .string ⟨#[]⟩, .bool false] 108 (0, 0))) := ⟨_, rfl⟩
  rw [← hWX]
  have HR := Px.hid (show DrRep WX b s lim { x with at_ := q } vs vo ∧ Fr (dfoot b vs vo) w1 WX from by rw [hWX]; exact ⟨(HX.out.1.alloc _).alloc _, (HX.out.2.alloc _).alloc _⟩)
  have xa0 : WX.cell? ⟨w2.heap.size, 0, none⟩ = some (.int .i64 7) := by rw [hWX]; exact cell_alloc (cellOf (heap_alloc_new w2 _) 0 rfl)
  have xa1 : WX.cell? ⟨w2.heap.size, 1, none⟩ = some (.int .u64 (n : Nat)) := by rw [hWX]; exact cell_alloc (cellOf (heap_alloc_new w2 _) 1 rfl)
  have xa2 : WX.cell? ⟨w2.heap.size, 2, none⟩ = some (.string ⟨#[]⟩) := by rw [hWX]; exact cell_alloc (cellOf (heap_alloc_new w2 _) 2 rfl)
  clear hWX HX
  have c7 : WX.cell? ⟨b, 7, none⟩ = some vo := HR.out.1.cells.2.2.2.2.2.2
  have f7 := HR.out.1.free 7
  have hb : b < WX.heap.size := HR.out.1.lt
  obtain ⟨i0, hi0, hz0, hz1, hz2⟩ := info_parts Tryd.infoAtom
  go_cut [] (fun wx => DAfter WX wx b s lim { x with at_ := q } ⟨7, n, []⟩ vs vo)
  case first =>
    go_region_law
      ((refine step_append_lies _ (by rfl) _ _ _ (by rfl) 0 62 i0 _ 3 32 Tryd.underlying50 hi0 hz0 hz1 hz2 rfl (by omega) vo x.out.length (x.out.flatMap cAtom) (by rfl) ((HR.out.1.out.alloc _).drew) ⟨WX.heap.size, 0, none⟩ 1 1 (cAtom ⟨7, n, []⟩) (by rfl) (by rfl) (World.news_of_block (cs := #[.int .i64 7, .int .u64 n, .string ⟨#[]⟩]) (t := 62) (fr := (0, 0)) (heap_alloc_new WX _)) (by simp [cAtom, Value.oneCell']) (by omega) (by unfold maxLen; omega) (by omega) (by simp) (WX.heap.size + 1) (by simp) ?_; intro gg cap w1 hown1 hgrow hat hlt; have k7 := grown_cell hgrow c7 HR.out.1.ob.ne; have e7 := grown_free hgrow c7 f7 HR.out.1.ob.ne))
    all_goals (go_wp2_with fail; go_meet; exact HR.out.1.afterOut hown1 (grown_alloc hgrow) (hat.elim .inl (fun e => .inr (by omega))))
  case rest =>
    obtain ⟨vo', hy, hyf, hyn⟩ := hcut
    have HY := Px.hid (And.intro hy (And.intro hyf hyn))
    clear hy hyf hyn c7 f7 xa0 xa1 xa2
    go_wp2_with fail
    refine (dended_any b x.at_ s lim _ _ _ ⟨_, _, HY.out.1, rfl⟩ (show x.at_ ≤ q by have := HE.out.2.1; omega) hqs (fun f rest e => HE.out.2.2.2.2.1 f (by rw [show x.stack = f :: rest from e]; simp)) (show x.stack.length ≤ 1000 by have := HE.out.2.2.2.2.2.1; omega)).mono ?_
    intro r w3 hpost
    have hB := begin_fin (HR.out.2.step (Fresh.refl _ _) HY.out.2.1) (Fresh.trans (Fresh.refl _ _) HR.out.2.size HY.out.2.2) hpost
    unfold EndPost at hpost
    cases hres : D7.ended s { at_ := q, stack := x.stack, out := x.out ++ [⟨7, n, []⟩] } x.at_ with
    | error e =>
      rw [hres] at hpost hB
      obtain ⟨rfl, _⟩ := hpost
      have HB := Px.hid hB
      have HRES := Px.hid hres
      clear hB hres
      unfold panics
      go_wp2
      exact ⟨rfl, by rw [HRES.out]; exact HB.out⟩
    | ok y =>
      rw [hres] at hpost hB
      obtain ⟨rfl, _⟩ := hpost
      have HB := Px.hid hB
      have HRES := Px.hid hres
      clear hB hres
      go_wp2
      refine bodyPost_ret (results_none rfl _ _ _) rfl ?_
      rw [HRES.out]
      exact HB.out

end Go.Proofs.YtddiabaagpmkgaaDoor
