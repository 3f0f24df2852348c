/-
  The walk over jsonfeed's value where an object or an array begins (printed by gen_yf.py).
-/
import Derived.Test.YtahojodgmjmpnaaYeJ
namespace Go.Proofs.Ytahojodgmjmpnaa
open Go.RowKit Go.Px
theorem After.then {w w1 w2 : World} {b : Nat} {f f' : J6.Feed} {F : Nat → Prop} (h : After w w1 b f F) (k : ∀ F1, FeedAt w1 b f F1 → After w1 w2 b f' F1) : After w w2 b f' F := by
  obtain ⟨F1, h1, h2, h3⟩ := h
  obtain ⟨F2, k1, k2, k3⟩ := k F1 h1
  exact ⟨F2, k1, h2.step h3 k2, Fresh.trans h3 h2.size k3⟩
theorem After.setNext {w w1 : World} {b : Nat} {f : J6.Feed} {F : Nat → Prop} (h : After w w1 b f F) (n : Nat) : After w (w1.setCell ⟨b, 7, none⟩ (.int .i64 (n : Nat))) b { f with next := n } F :=
  h.then fun _ ⟨vo, vs, tv, tb, ps, h, e⟩ => ⟨_, ⟨vo, vs, tv, tb, ps, h.set 7 (.int .i64 (n : Nat)) { f with next := n } rfl rfl rfl rfl, e⟩, by rw [e]; exact (Fr.refl _ _).setCell (p := ⟨b, 7, none⟩) (.inl (.inl rfl)) _, Fresh.refl _ _⟩
theorem After.c7 {w w1 : World} {b : Nat} {f : J6.Feed} {F : Nat → Prop} (h : After w w1 b f F) : w1.cell? ⟨b, 7, none⟩ = some (.int .i64 (f.next : Nat)) ∧ w1.frozen? ⟨b, 7, none⟩ = false := by
  obtain ⟨F1, ⟨vo, vs, tv, tb, ps, h, _⟩, _, _⟩ := h
  exact ⟨cellOf h.blk 7 rfl, h.free 7⟩
set_option maxRecDepth 100000 in
set_option maxHeartbeats 4000000 in
theorem value_obj_deep (b : Nat) (f : J6.Feed) (F : Nat → Prop) (w : World) (h : FeedAt w b f F) (hok : J6.OkK 0 f) (hn1 : 1 ≤ f.n) (hdp : (f.stack.length : Int) = f.lim.d) :
    Calls Try.prog 41 #[.pointer (some ⟨b, 0, none⟩), .int .u8 123] w fun r w' => r = .returned (.tuple #[]) ∧ After w w' b (J6.valueOn f 123 ⟨6, 0, []⟩ .none) F := by
  have HR : J6.valueOn f 123 ⟨6, 0, []⟩ .none = J6.wrong f (f.n - 1 : Nat) 10 := if_pos (by simpa using hdp)
  have hm := J6.may_parts6 hok.may
  have hnb := hok.nb
  have hw1 : IntKind.i64.wrap ((f.n : Int) - 1) = (f.n : Int) - 1 := IntWalk.i64_in _ ⟨by omega, by omega⟩
  have HP := Px.hid (show ((f.n - 1 : Nat) : Int) = (f.n : Int) - 1 by omega)
  have HFA := Px.hid h
  obtain ⟨vo, vs, tv, tb, ps, h, hF⟩ := h
  have hb : b < w.heap.size := h.lt
  have c6 : w.cell? ⟨b, 6, none⟩ = some vs := cellOf h.blk 6 rfl
  obtain ⟨sa, sc, hsv, _⟩ := h.stackLen
  rw [hsv] at c6
  have c0 : w.cell? ⟨b, 0, none⟩ = some (.int .i64 f.lim.d) := cellOf h.blk 0 rfl
  have c4 : w.cell? ⟨b, 4, none⟩ = some (.int .i64 (f.n : Nat)) := cellOf h.blk 4 rfl
  rw [← hdp] at c0
  obtain ⟨L, hL⟩ : ∃ L, L = f.stack.length := ⟨_, rfl⟩
  rw [← hL] at c6 c0
  have HR := Px.hid HR
  clear h hok hm hnb hn1 hdp hF hsv hL
  go_enter Try.func41, Try.ntmps41
  go_wp2_with fail
  go_quiet (fail)
  go_wp2_with (go_at_call 19; refine (wrong_any b ((f.n : Int) - 1) 10 f F _ (HFA.out.same (((Fr.refl _ w).alloc (.cells #[.int .i64 6, .int .i64 0, .string ⟨#[]⟩] 64 (0, 0))).drewN nq))).mono ?_; rintro e w' ⟨rfl, hF, hfr⟩)
  refine bodyPost_ret (results_none rfl _ _ _) rfl ?_
  rw [HR.out]
  refine ⟨rfl, F, ?_, (((Fr.refl F w).alloc (.cells #[.int .i64 6, .int .i64 0, .string ⟨#[]⟩] 64 (0, 0))).drewN nq).step (Fresh.refl _ _) hfr, Fresh.refl _ _⟩
  show FeedAt w' b (J6.wrong f (f.n - 1 : Nat) 10) _
  rw [HP.out]
  exact hF
set_option maxRecDepth 100000 in
set_option maxHeartbeats 4000000 in
theorem value_obj (b : Nat) (f : J6.Feed) (F : Nat → Prop) (w : World) (h : FeedAt w b f F) (hok : J6.OkK 0 f) (hn1 : 1 ≤ f.n) (hnow : f.now = .none) (hdp : ¬ (f.stack.length : Int) = f.lim.d) :
    Calls Try.prog 41 #[.pointer (some ⟨b, 0, none⟩), .int .u8 123] w fun r w' => r = .returned (.tuple #[]) ∧ After w w' b (J6.valueOn f 123 ⟨6, 0, []⟩ .none) F := by
  have hone := one_ok b f ⟨6, 0, []⟩ F hok hn1
  have hkeep := hok.one ⟨6, 0, []⟩ rfl
  have hgn := hkeep.2.2.1
  have hgs := hkeep.2.2.2.2.2.1
  have hm := J6.may_parts6 hok.may
  have hol := hok.ol
  have hsd := hok.sd
  have hr : J6.valueOn f 123 ⟨6, 0, []⟩ .none = match J6.one f ⟨6, 0, []⟩ with
      | (false, g) => g
      | (true, g) => { g with now := .none, stack := ⟨f.out.length, 0, []⟩ :: g.stack, next := 3 } := if_neg (by simpa using hdp)
  have hd : ((f.stack.length : Int) == f.lim.d) = false := by simpa using hdp
  have hsl : f.stack.length ≤ 32 := by omega
  have hoL : f.out.length ≤ 4096 := by omega
  obtain ⟨⟨r1, g⟩, hres⟩ : ∃ r, J6.one f ⟨6, 0, []⟩ = r := ⟨_, rfl⟩
  simp only [hres] at hone hgn hgs
  rw [hres] at hr
  rw [hnow] at hgn
  have HFA := Px.hid h
  obtain ⟨vo, vs, tv, tb, ps, h, hF⟩ := h
  have hb : b < w.heap.size := h.lt
  obtain ⟨oa, oc, hov, _⟩ := h.parts.out.len
  have c5 : w.cell? ⟨b, 5, none⟩ = some vo := cellOf h.blk 5 rfl
  obtain ⟨L, hL⟩ : ∃ L, L = f.out.length := ⟨_, rfl⟩
  rw [hov, ← hL] at c5
  rw [← hL] at hr hoL
  have c6 : w.cell? ⟨b, 6, none⟩ = some vs := cellOf h.blk 6 rfl
  obtain ⟨sa, sc, hsv, _⟩ := h.stackLen
  obtain ⟨M, hM⟩ : ∃ M, M = f.stack.length := ⟨_, rfl⟩
  rw [hsv, ← hM] at c6
  rw [← hM] at hd hsl
  have hgl : g.stack.length ≤ 32 := by rw [hgs, ← hM]; exact hsl
  have c0 : w.cell? ⟨b, 0, none⟩ = some (.int .i64 f.lim.d) := cellOf h.blk 0 rfl
  have HO := Px.hid (And.intro hone hgn)
  have HR := Px.hid hr
  have hX : ∀ W, Same w W → W.cell? ⟨b, 5, none⟩ = some (.slice oa L oc) := fun W hW => (hW.cell (p := ⟨b, 5, none⟩) hb (fun x => x)).trans c5
  have HX := Px.hid hX
  clear hr h hone hkeep hok hres hov hgn hn1 hnow hF hsv hdp hol hsd hm hgs hM hL hX
  go_enter Try.func41, Try.ntmps41
  go_wp2_with fail
  go_quiet (fail)
  have hS : Same w ((w.alloc (.cells #[.int .i64 6, .int .i64 0, .string ⟨#[]⟩] 64 (0, 0))).drewN nq) := ((Fr.refl _ w).alloc (.cells #[.int .i64 6, .int .i64 0, .string ⟨#[]⟩] 64 (0, 0))).drewN nq
  have hv0 : ((w.alloc (.cells #[.int .i64 6, .int .i64 0, .string ⟨#[]⟩] 64 (0, 0))).drewN nq).heap[w.heap.size]? = some (.cells #[.int .i64 6, .int .i64 0, .string ⟨#[]⟩] 64 (0, 0)) := heap_alloc_new w _
  obtain ⟨W0, hW0⟩ : ∃ W0, W0 = (w.alloc (.cells #[.int .i64 6, .int .i64 0, .string ⟨#[]⟩] 64 (0, 0))).drewN nq := ⟨_, rfl⟩
  rw [← hW0] at hS hv0 ⊢
  have c5' := HX.out W0 hS
  have v0 : W0.cell? ⟨w.heap.size, 0, none⟩ = some (.int .i64 6) := cellOf hv0 0 rfl
  have v1 : W0.cell? ⟨w.heap.size, 1, none⟩ = some (.int .i64 0) := cellOf hv0 1 rfl
  have v2 : W0.cell? ⟨w.heap.size, 2, none⟩ = some (.string ⟨#[]⟩) := cellOf hv0 2 rfl
  have HS := Px.hid hS
  clear hW0 hv0 c5 c6 c0 hS
  go_wp2_with fail
  refine (HO.out.1 W0 (HFA.out.same HS.out)).mono ?_
  rintro e w' ⟨rfl, hA⟩
  have HA := Px.hid (After.ofFr (HS.out.fr F) hA)
  clear hA c5' v0 v1 v2
  cases r1 with
  | false =>
    go_wp2
    refine bodyPost_ret (results_none rfl _ _ _) rfl ?_
    rw [HR.out]
    exact ⟨rfl, HA.out⟩
  | true =>
    have c8 : w'.cell? ⟨b, 8, none⟩ = some .nilIface := by obtain ⟨F', h1, _, _⟩ := HA.out; exact (h1.c8 HO.out.2).1
    have f8 : w'.frozen? ⟨b, 8, none⟩ = false := by obtain ⟨F', h1, _, _⟩ := HA.out; exact (h1.c8 HO.out.2).2
    have hA2 : After w (w'.setCell ⟨b, 8, none⟩ .nilIface) b g F := HA.out.then fun _ ⟨vo, vs, tv, tb, ps, h, e⟩ => by
      have ht : tv = .nilIface := by have := h.parts.tok; rw [HO.out.2] at this; exact this.1
      subst ht
      exact ⟨_, ⟨vo, vs, _, tb, ps, h.set 8 .nilIface g rfl rfl rfl rfl, e⟩, by rw [e]; exact (Fr.refl _ _).setCell (p := ⟨b, 8, none⟩) (.inl (.inl rfl)) _, Fresh.refl _ _⟩
    have HA2 := Px.hid hA2
    clear hA2
    go_upto_region 25 with fail
    obtain ⟨WB, hWB⟩ : ∃ WB, WB = w'.setCell ⟨b, 8, none⟩ .nilIface := ⟨_, rfl⟩
    rw [← hWB] at HA2 ⊢
    obtain ⟨F2, ⟨vo2, vs2, tv2, tb2, ps2, h2, hF2⟩, hfr2, hfn2⟩ := HA2.out
    have HB := Px.hid (And.intro h2 (And.intro hF2 (And.intro hfr2 hfn2)))
    clear hWB c8 f8 h2 hF2 hfr2 hfn2
    obtain ⟨i0, hi0, hz0, hz1, hz2⟩ := info_parts Try.infoFm
    obtain ⟨sa2, sc2, hsv2, _⟩ := HB.out.1.stackLen
    have HSV := Px.hid hsv2
    clear hsv2
    have HOW := Px.hid (show WB.ownsRow 0 92 3 vs2 g.stack.length (ps2.reverse.flatMap cFr) by
      have := HB.out.1.parts.stack
      have hl : ps2.reverse.length = g.stack.length := by rw [List.length_reverse, ← HB.out.1.parts.fms, List.length_map]
      unfold Owns at this
      rw [hl] at this
      exact this)
    have f6 := HB.out.1.free 6
    have hbl : b < WB.heap.size := HB.out.1.lt
    have c6 : WB.cell? ⟨b, 6, none⟩ = some vs2 := cellOf HB.out.1.blk 6 rfl
    have HOB := Px.hid (show vs2.ownBlock ≠ some b from fun e => HB.out.1.nb (mem_blocks.2 (.inr (.inl e))))
    go_wp2_with (at_builtin; go_must (refine wpList_append_lies _ rfl _ _ _ rfl 0 92 i0 _ 3 40 Try.underlying42 hi0 hz0 hz1 hz2 rfl (by omega) vs2 g.stack.length (ps2.reverse.flatMap cFr) (by rfl) (HOW.out.alloc _) ⟨WB.heap.size, 0, none⟩ 1 1 (cFr (⟨L, 0, []⟩, .slice none 0 0)) (by rfl) (by rfl) (World.news_of_block (cs := #[.int .i64 (L : Nat), .int .i64 0, .slice none 0 0]) (t := 92) (fr := (0, 0)) (heap_alloc_new WB _)) (by simp [cFr, Value.oneCell']) (by omega) (by unfold maxLen; omega) (by omega) (by simp) (WB.heap.size + 1) (by simp) ?_))
    intro gg cap w1 hown1 hgrow hat hlt
    have kb : w1.heap[b]? = WB.heap[b]? := (grown_alloc1 hgrow).block b hbl (fun e => HOB.out e.symm)
    have k6 : w1.cell? ⟨b, 6, none⟩ = some vs2 := (World.cell?_of_block (w := WB) kb).trans c6
    have e6 : w1.frozen? ⟨b, 6, none⟩ = false := (World.frozen?_of_block (w := WB) kb).trans f6
    have k7 : w1.cell? ⟨b, 7, none⟩ = some (.int .i64 (g.next : Nat)) := (World.cell?_of_block (w := WB) kb).trans (cellOf HB.out.1.blk 7 rfl)
    have e7 : w1.frozen? ⟨b, 7, none⟩ = false := (World.frozen?_of_block (w := WB) kb).trans (HB.out.1.free 7)
    have hA3 : After w (w1.setCell ⟨b, 6, none⟩ (.slice (some ⟨gg, 0, none⟩) (g.stack.length + 1) cap)) b { g with stack := ⟨L, 0, []⟩ :: g.stack } F := by
      obtain ⟨F3, k1, k2, k3⟩ := HB.out.1.afterPush (x := ⟨L, 0, []⟩) rfl hown1 (grown_alloc1 hgrow) (hat.imp id (fun e => by omega))
      rw [← HB.out.2.1] at k2 k3
      exact ⟨F3, k1, HB.out.2.2.1.step HB.out.2.2.2 k2, Fresh.trans HB.out.2.2.2 HB.out.2.2.1.size k3⟩
    have HA3 := Px.hid hA3
    clear hA3 c6 f6 kb hown1 hgrow hat hlt
    go_wp2
    go_end0
    rw [HR.out]
    refine ⟨rfl, ?_⟩
    have e : ({ g with now := .none, stack := ⟨L, 0, []⟩ :: g.stack, next := 3 } : J6.Feed) = { g with stack := ⟨L, 0, []⟩ :: g.stack, next := 3 } := by rw [← HO.out.2]
    show After w _ b { g with now := .none, stack := ⟨L, 0, []⟩ :: g.stack, next := 3 } F
    rw [e]
    exact (HA3.out.setNext 1).setNext 3
set_option maxRecDepth 100000 in
set_option maxHeartbeats 4000000 in
theorem value_arr_deep (b : Nat) (f : J6.Feed) (F : Nat → Prop) (w : World) (h : FeedAt w b f F) (hok : J6.OkK 0 f) (hn1 : 1 ≤ f.n) (hdp : (f.stack.length : Int) = f.lim.d) :
    Calls Try.prog 41 #[.pointer (some ⟨b, 0, none⟩), .int .u8 91] w fun r w' => r = .returned (.tuple #[]) ∧ After w w' b (J6.valueOn f 91 ⟨5, 0, []⟩ .none) F := by
  have HR : J6.valueOn f 91 ⟨5, 0, []⟩ .none = J6.wrong f (f.n - 1 : Nat) 10 := if_pos (by simpa using hdp)
  have hm := J6.may_parts6 hok.may
  have hnb := hok.nb
  have hw1 : IntKind.i64.wrap ((f.n : Int) - 1) = (f.n : Int) - 1 := IntWalk.i64_in _ ⟨by omega, by omega⟩
  have HP := Px.hid (show ((f.n - 1 : Nat) : Int) = (f.n : Int) - 1 by omega)
  have HFA := Px.hid h
  obtain ⟨vo, vs, tv, tb, ps, h, hF⟩ := h
  have hb : b < w.heap.size := h.lt
  have c6 : w.cell? ⟨b, 6, none⟩ = some vs := cellOf h.blk 6 rfl
  obtain ⟨sa, sc, hsv, _⟩ := h.stackLen
  rw [hsv] at c6
  have c0 : w.cell? ⟨b, 0, none⟩ = some (.int .i64 f.lim.d) := cellOf h.blk 0 rfl
  have c4 : w.cell? ⟨b, 4, none⟩ = some (.int .i64 (f.n : Nat)) := cellOf h.blk 4 rfl
  rw [← hdp] at c0
  obtain ⟨L, hL⟩ : ∃ L, L = f.stack.length := ⟨_, rfl⟩
  rw [← hL] at c6 c0
  have HR := Px.hid HR
  clear h hok hm hnb hn1 hdp hF hsv hL
  go_enter Try.func41, Try.ntmps41
  go_wp2_with fail
  go_quiet (fail)
  go_wp2_with (go_at_call 19; refine (wrong_any b ((f.n : Int) - 1) 10 f F _ (HFA.out.same (((Fr.refl _ w).alloc (.cells #[.int .i64 5, .int .i64 0, .string ⟨#[]⟩] 64 (0, 0))).drewN nq))).mono ?_; rintro e w' ⟨rfl, hF, hfr⟩)
  refine bodyPost_ret (results_none rfl _ _ _) rfl ?_
  rw [HR.out]
  refine ⟨rfl, F, ?_, (((Fr.refl F w).alloc (.cells #[.int .i64 5, .int .i64 0, .string ⟨#[]⟩] 64 (0, 0))).drewN nq).step (Fresh.refl _ _) hfr, Fresh.refl _ _⟩
  show FeedAt w' b (J6.wrong f (f.n - 1 : Nat) 10) _
  rw [HP.out]
  exact hF
set_option maxRecDepth 100000 in
set_option maxHeartbeats 4000000 in
theorem value_arr (b : Nat) (f : J6.Feed) (F : Nat → Prop) (w : World) (h : FeedAt w b f F) (hok : J6.OkK 0 f) (hn1 : 1 ≤ f.n) (hnow : f.now = .none) (hdp : ¬ (f.stack.length : Int) = f.lim.d) :
    Calls Try.prog 41 #[.pointer (some ⟨b, 0, none⟩), .int .u8 91] w fun r w' => r = .returned (.tuple #[]) ∧ After w w' b (J6.valueOn f 91 ⟨5, 0, []⟩ .none) F := by
  have hone := one_ok b f ⟨5, 0, []⟩ F hok hn1
  have hkeep := hok.one ⟨5, 0, []⟩ rfl
  have hgn := hkeep.2.2.1
  have hgs := hkeep.2.2.2.2.2.1
  have hm := J6.may_parts6 hok.may
  have hol := hok.ol
  have hsd := hok.sd
  have hr : J6.valueOn f 91 ⟨5, 0, []⟩ .none = match J6.one f ⟨5, 0, []⟩ with
      | (false, g) => g
      | (true, g) => { g with now := .none, stack := ⟨f.out.length, 0, []⟩ :: g.stack, next := 1 } := if_neg (by simpa using hdp)
  have hd : ((f.stack.length : Int) == f.lim.d) = false := by simpa using hdp
  have hsl : f.stack.length ≤ 32 := by omega
  have hoL : f.out.length ≤ 4096 := by omega
  obtain ⟨⟨r1, g⟩, hres⟩ : ∃ r, J6.one f ⟨5, 0, []⟩ = r := ⟨_, rfl⟩
  simp only [hres] at hone hgn hgs
  rw [hres] at hr
  rw [hnow] at hgn
  have HFA := Px.hid h
  obtain ⟨vo, vs, tv, tb, ps, h, hF⟩ := h
  have hb : b < w.heap.size := h.lt
  obtain ⟨oa, oc, hov, _⟩ := h.parts.out.len
  have c5 : w.cell? ⟨b, 5, none⟩ = some vo := cellOf h.blk 5 rfl
  obtain ⟨L, hL⟩ : ∃ L, L = f.out.length := ⟨_, rfl⟩
  rw [hov, ← hL] at c5
  rw [← hL] at hr hoL
  have c6 : w.cell? ⟨b, 6, none⟩ = some vs := cellOf h.blk 6 rfl
  obtain ⟨sa, sc, hsv, _⟩ := h.stackLen
  obtain ⟨M, hM⟩ : ∃ M, M = f.stack.length := ⟨_, rfl⟩
  rw [hsv, ← hM] at c6
  rw [← hM] at hd hsl
  have hgl : g.stack.length ≤ 32 := by rw [hgs, ← hM]; exact hsl
  have c0 : w.cell? ⟨b, 0, none⟩ = some (.int .i64 f.lim.d) := cellOf h.blk 0 rfl
  have HO := Px.hid (And.intro hone hgn)
  have HR := Px.hid hr
  have hX : ∀ W, Same w W → W.cell? ⟨b, 5, none⟩ = some (.slice oa L oc) := fun W hW => (hW.cell (p := ⟨b, 5, none⟩) hb (fun x => x)).trans c5
  have HX := Px.hid hX
  clear hr h hone hkeep hok hres hov hgn hn1 hnow hF hsv hdp hol hsd hm hgs hM hL hX
  go_enter Try.func41, Try.ntmps41
  go_wp2_with fail
  go_quiet (fail)
  have hS : Same w ((w.alloc (.cells #[.int .i64 5, .int .i64 0, .string ⟨#[]⟩] 64 (0, 0))).drewN nq) := ((Fr.refl _ w).alloc (.cells #[.int .i64 5, .int .i64 0, .string ⟨#[]⟩] 64 (0, 0))).drewN nq
  have hv0 : ((w.alloc (.cells #[.int .i64 5, .int .i64 0, .string ⟨#[]⟩] 64 (0, 0))).drewN nq).heap[w.heap.size]? = some (.cells #[.int .i64 5, .int .i64 0, .string ⟨#[]⟩] 64 (0, 0)) := heap_alloc_new w _
  obtain ⟨W0, hW0⟩ : ∃ W0, W0 = (w.alloc (.cells #[.int .i64 5, .int .i64 0, .string ⟨#[]⟩] 64 (0, 0))).drewN nq := ⟨_, rfl⟩
  rw [← hW0] at hS hv0 ⊢
  have c5' := HX.out W0 hS
  have v0 : W0.cell? ⟨w.heap.size, 0, none⟩ = some (.int .i64 5) := cellOf hv0 0 rfl
  have v1 : W0.cell? ⟨w.heap.size, 1, none⟩ = some (.int .i64 0) := cellOf hv0 1 rfl
  have v2 : W0.cell? ⟨w.heap.size, 2, none⟩ = some (.string ⟨#[]⟩) := cellOf hv0 2 rfl
  have HS := Px.hid hS
  clear hW0 hv0 c5 c6 c0 hS
  go_wp2_with fail
  refine (HO.out.1 W0 (HFA.out.same HS.out)).mono ?_
  rintro e w' ⟨rfl, hA⟩
  have HA := Px.hid (After.ofFr (HS.out.fr F) hA)
  clear hA c5' v0 v1 v2
  cases r1 with
  | false =>
    go_wp2
    refine bodyPost_ret (results_none rfl _ _ _) rfl ?_
    rw [HR.out]
    exact ⟨rfl, HA.out⟩
  | true =>
    have c8 : w'.cell? ⟨b, 8, none⟩ = some .nilIface := by obtain ⟨F', h1, _, _⟩ := HA.out; exact (h1.c8 HO.out.2).1
    have f8 : w'.frozen? ⟨b, 8, none⟩ = false := by obtain ⟨F', h1, _, _⟩ := HA.out; exact (h1.c8 HO.out.2).2
    have hA2 : After w (w'.setCell ⟨b, 8, none⟩ .nilIface) b g F := HA.out.then fun _ ⟨vo, vs, tv, tb, ps, h, e⟩ => by
      have ht : tv = .nilIface := by have := h.parts.tok; rw [HO.out.2] at this; exact this.1
      subst ht
      exact ⟨_, ⟨vo, vs, _, tb, ps, h.set 8 .nilIface g rfl rfl rfl rfl, e⟩, by rw [e]; exact (Fr.refl _ _).setCell (p := ⟨b, 8, none⟩) (.inl (.inl rfl)) _, Fresh.refl _ _⟩
    have HA2 := Px.hid hA2
    clear hA2
    go_upto_region 25 with fail
    obtain ⟨WB, hWB⟩ : ∃ WB, WB = w'.setCell ⟨b, 8, none⟩ .nilIface := ⟨_, rfl⟩
    rw [← hWB] at HA2 ⊢
    obtain ⟨F2, ⟨vo2, vs2, tv2, tb2, ps2, h2, hF2⟩, hfr2, hfn2⟩ := HA2.out
    have HB := Px.hid (And.intro h2 (And.intro hF2 (And.intro hfr2 hfn2)))
    clear hWB c8 f8 h2 hF2 hfr2 hfn2
    obtain ⟨i0, hi0, hz0, hz1, hz2⟩ := info_parts Try.infoFm
    obtain ⟨sa2, sc2, hsv2, _⟩ := HB.out.1.stackLen
    have HSV := Px.hid hsv2
    clear hsv2
    have HOW := Px.hid (show WB.ownsRow 0 92 3 vs2 g.stack.length (ps2.reverse.flatMap cFr) by
      have := HB.out.1.parts.stack
      have hl : ps2.reverse.length = g.stack.length := by rw [List.length_reverse, ← HB.out.1.parts.fms, List.length_map]
      unfold Owns at this
      rw [hl] at this
      exact this)
    have f6 := HB.out.1.free 6
    have hbl : b < WB.heap.size := HB.out.1.lt
    have c6 : WB.cell? ⟨b, 6, none⟩ = some vs2 := cellOf HB.out.1.blk 6 rfl
    have HOB := Px.hid (show vs2.ownBlock ≠ some b from fun e => HB.out.1.nb (mem_blocks.2 (.inr (.inl e))))
    go_wp2_with (at_builtin; go_must (refine wpList_append_lies _ rfl _ _ _ rfl 0 92 i0 _ 3 40 Try.underlying42 hi0 hz0 hz1 hz2 rfl (by omega) vs2 g.stack.length (ps2.reverse.flatMap cFr) (by rfl) (HOW.out.alloc _) ⟨WB.heap.size, 0, none⟩ 1 1 (cFr (⟨L, 0, []⟩, .slice none 0 0)) (by rfl) (by rfl) (World.news_of_block (cs := #[.int .i64 (L : Nat), .int .i64 0, .slice none 0 0]) (t := 92) (fr := (0, 0)) (heap_alloc_new WB _)) (by simp [cFr, Value.oneCell']) (by omega) (by unfold maxLen; omega) (by omega) (by simp) (WB.heap.size + 1) (by simp) ?_))
    intro gg cap w1 hown1 hgrow hat hlt
    have kb : w1.heap[b]? = WB.heap[b]? := (grown_alloc1 hgrow).block b hbl (fun e => HOB.out e.symm)
    have k6 : w1.cell? ⟨b, 6, none⟩ = some vs2 := (World.cell?_of_block (w := WB) kb).trans c6
    have e6 : w1.frozen? ⟨b, 6, none⟩ = false := (World.frozen?_of_block (w := WB) kb).trans f6
    have k7 : w1.cell? ⟨b, 7, none⟩ = some (.int .i64 (g.next : Nat)) := (World.cell?_of_block (w := WB) kb).trans (cellOf HB.out.1.blk 7 rfl)
    have e7 : w1.frozen? ⟨b, 7, none⟩ = false := (World.frozen?_of_block (w := WB) kb).trans (HB.out.1.free 7)
    have hA3 : After w (w1.setCell ⟨b, 6, none⟩ (.slice (some ⟨gg, 0, none⟩) (g.stack.length + 1) cap)) b { g with stack := ⟨L, 0, []⟩ :: g.stack } F := by
      obtain ⟨F3, k1, k2, k3⟩ := HB.out.1.afterPush (x := ⟨L, 0, []⟩) rfl hown1 (grown_alloc1 hgrow) (hat.imp id (fun e => by omega))
      rw [← HB.out.2.1] at k2 k3
      exact ⟨F3, k1, HB.out.2.2.1.step HB.out.2.2.2 k2, Fresh.trans HB.out.2.2.2 HB.out.2.2.1.size k3⟩
    have HA3 := Px.hid hA3
    clear hA3 c6 f6 kb hown1 hgrow hat hlt
    go_wp2
    go_end0
    rw [HR.out]
    refine ⟨rfl, ?_⟩
    have e : ({ g with now := .none, stack := ⟨L, 0, []⟩ :: g.stack, next := 1 } : J6.Feed) = { g with stack := ⟨L, 0, []⟩ :: g.stack, next := 1 } := by rw [← HO.out.2]
    show After w _ b { g with now := .none, stack := ⟨L, 0, []⟩ :: g.stack, next := 1 } F
    rw [e]
    exact HA3.out.setNext 1
end Go.Proofs.Ytahojodgmjmpnaa
