/-
  The walk over jsonfeed's one (printed by gen_yc.py).
-/
import Derived.Test.YtahojodgmjmpnaaYbJ
import Derived.BigRegion
namespace Go.Proofs.Ytahojodgmjmpnaa
open Go.RowKit Go.Px

def valV (v : Val) : Value := .agg #[.int .i64 v.kind, .int .i64 v.kids, S v.text]
theorem Try.infoVal : (Try.prog.info? 64).map (fun i => (i.zero, i.size, i.bytes)) = some (some (.agg #[.int .i64 0, .int .i64 0, .string ByteArray.empty]), 3, 32) := by kernel_rfl
/-- What an append to the list of values, and the store into its field, leave. -/
def AfterOut (w w' : World) (b : Nat) (f : J6.Feed) (a : Val) (vo vs tv : Value) (tb : List (Option Nat)) (ps : List (J6.Fm × Value)) : Prop :=
  ∃ vo', FeedRep w' b { f with out := f.out ++ [a] } vo' vs tv tb ps ∧ Fr (foot b (blocks vo vs tb ps)) w w' ∧ Fresh w (foot b (blocks vo vs tb ps)) (foot b (blocks vo' vs tb ps))
theorem FeedRep.afterOut {w w' : World} {b : Nat} {f : J6.Feed} {vo vs tv : Value} {tb : List (Option Nat)} {ps : List (J6.Fm × Value)} (h : FeedRep w b f vo vs tv tb ps) {g cap : Nat} {a : Val}
    (hown : w'.ownsRow 0 64 3 (.slice (some ⟨g, 0, none⟩) (f.out.length + 1) cap) (f.out.length + 1) (f.out.flatMap cVal ++ cVal a))
    (hg : w.grownBy w' vo.ownBlock) (hat : vo.ownBlock = some g ∨ w.heap.size ≤ g) :
    AfterOut w (w'.setCell ⟨b, 5, none⟩ (.slice (some ⟨g, 0, none⟩) (f.out.length + 1) cap)) b f a vo vs tv tb ps := by
  have hf : Fr (fun k => vo.ownBlock = some k) w w' := (Fr.refl _ w).grown hg (fun k e => .inl e)
  have hF : ∀ k, vo.ownBlock = some k → some k ∈ blocks vo vs tb ps := fun k e => mem_blocks.2 (.inl e)
  have hn0 : ∀ k, (Value.slice (some ⟨g, 0, none⟩) (f.out.length + 1) cap).ownBlock = some k → vo.ownBlock = some k ∨ w.heap.size ≤ k := fun k e => by
    simp only [Value.ownBlock, Option.some.injEq] at e
    subst e
    exact hat
  have hn : ∀ k, some k ∈ blocks (.slice (some ⟨g, 0, none⟩) (f.out.length + 1) cap) vs tb ps → some k ∈ blocks vo vs tb ps ∨ w.heap.size ≤ k := fun k e => by
    rcases mem_blocks.1 e with x | x
    · exact (hn0 k x).imp (fun y => mem_blocks.2 (.inl y)) id
    · exact .inl (mem_blocks.2 (.inr x))
  exact ⟨_, h.store hf hF (h.parts.putOut hf (fun _ e => e) (owns_append hown) hn0) hn 5 _ rfl, (Fr.foot hf hF).setCell (p := ⟨b, 5, none⟩) (.inl (.inl rfl)) _, Fresh.foot hn⟩
set_option maxRecDepth 100000 in
set_option maxHeartbeats 4000000 in
theorem one_full (b : Nat) (f : J6.Feed) (v : Val) (w : World) (vo vs tv : Value) (tb : List (Option Nat)) (ps : List (J6.Fm × Value)) (h : FeedRep w b f vo vs tv tb ps) (hn1 : 1 ≤ f.n) (hn2 : f.n ≤ 262144) (hi : (f.out.length : Int) = f.lim.i) :
    Calls Try.prog 42 #[.pointer (some ⟨b, 0, none⟩), valV v] w fun r w' => r = .returned (.bool (J6.one f v).1) ∧ After w w' b (J6.one f v).2 (foot b (blocks vo vs tb ps)) := by
  have c5 : w.cell? ⟨b, 5, none⟩ = some vo := cellOf h.blk 5 rfl
  have c1 : w.cell? ⟨b, 1, none⟩ = some (.int .i64 f.lim.i) := cellOf h.blk 1 rfl
  obtain ⟨oa, oc, hov, _⟩ := h.parts.out.len
  have hb : b < w.heap.size := h.lt
  rw [hov] at c5
  have c4 : w.cell? ⟨b, 4, none⟩ = some (.int .i64 (f.n : Nat)) := cellOf h.blk 4 rfl
  have HR := Px.hid (show J6.one f v = (false, J6.wrong f (f.n - 1 : Nat) 10) by unfold J6.one; rw [if_pos (by simpa using hi)])
  rw [← hi] at c1
  have HP := Px.hid (show ((f.n - 1 : Nat) : Int) = (f.n : Int) - 1 by omega)
  have hw1 : IntKind.i64.wrap ((f.n : Int) - 1) = (f.n : Int) - 1 := IntWalk.i64_in _ ⟨by omega, by omega⟩
  obtain ⟨L, hL⟩ : ∃ L, L = f.out.length := ⟨_, rfl⟩
  rw [← hL] at c5 c1
  have HX := Px.hid h
  clear h hov hi hL hn1
  unfold valV
  go_enter Try.func42, Try.ntmps42
  go_wp2_with fail
  go_quiet (fail)
  go_wp2_with (go_at_call 19; refine (wrong_any b ((f.n : Int) - 1) 10 f _ _ ⟨_, _, _, _, _, (HX.out.alloc _).drewN nq, rfl⟩).mono ?_; rintro e w' ⟨rfl, hF, hfr⟩)
  go_ret
  rw [HR.out]
  refine ⟨rfl, _, ?_, (((Fr.refl _ w).alloc _).drewN nq).step (Fresh.refl _ _) hfr, Fresh.refl _ _⟩
  show FeedAt w' b (J6.wrong f (f.n - 1 : Nat) 10) _
  rw [HP.out]
  exact hF
set_option maxRecDepth 100000 in
set_option maxHeartbeats 4000000 in
theorem one_nil (b : Nat) (f : J6.Feed) (v : Val) (w : World) (vo vs tv : Value) (tb : List (Option Nat)) (ps : List (J6.Fm × Value)) (h : FeedRep w b f vo vs tv tb ps) (hol : f.out.length ≤ 4096) (hi : ¬ (f.out.length : Int) = f.lim.i) (hst : f.stack = []) :
    Calls Try.prog 42 #[.pointer (some ⟨b, 0, none⟩), valV v] w fun r w' => r = .returned (.bool (J6.one f v).1) ∧ After w w' b (J6.one f v).2 (foot b (blocks vo vs tb ps)) := by
  have c5 : w.cell? ⟨b, 5, none⟩ = some vo := cellOf h.blk 5 rfl
  have c1 : w.cell? ⟨b, 1, none⟩ = some (.int .i64 f.lim.i) := cellOf h.blk 1 rfl
  obtain ⟨oa, oc, hov, _⟩ := h.parts.out.len
  have hb : b < w.heap.size := h.lt
  rw [hov] at c5
  have c6 : w.cell? ⟨b, 6, none⟩ = some vs := cellOf h.blk 6 rfl
  obtain ⟨sa, sc, hsv, _⟩ := h.stackLen
  have HSV := Px.hid (show vs = .slice sa 0 sc by rw [hsv, hst]; rfl)
  have HR := Px.hid (show J6.one f v = (true, { f with out := f.out ++ [v] }) by unfold J6.one; rw [if_neg (by simpa using hi), hst])
  have HX := Px.hid h
  have hd : ((f.out.length : Int) == f.lim.i) = false := by simpa using hi
  clear h hov hi hst hsv
  unfold valV
  go_enter Try.func42, Try.ntmps42
  go_wp2_with fail
  go_quiet (fail)
  have HB := Px.hid (And.intro ((HX.out.alloc (.cells #[.int .i64 v.kind, .int .i64 v.kids, S v.text] 64 (0, 0))).drewN nq) (((Fr.refl (foot b (blocks vo vs tb ps)) w).alloc (.cells #[.int .i64 v.kind, .int .i64 v.kids, S v.text] 64 (0, 0))).drewN nq))
  have hv0 : ((w.alloc (.cells #[.int .i64 v.kind, .int .i64 v.kids, S v.text] 64 (0, 0))).drewN nq).heap[w.heap.size]? = some (.cells #[.int .i64 v.kind, .int .i64 v.kids, S v.text] 64 (0, 0)) := heap_alloc_new w _
  obtain ⟨WB, hWB⟩ : ∃ WB, WB = (w.alloc (.cells #[.int .i64 v.kind, .int .i64 v.kids, S v.text] 64 (0, 0))).drewN nq := ⟨_, rfl⟩
  rw [← hWB] at HB hv0 ⊢
  have v0 : WB.cell? ⟨w.heap.size, 0, none⟩ = some (.int .i64 v.kind) := cellOf hv0 0 rfl
  have v1 : WB.cell? ⟨w.heap.size, 1, none⟩ = some (.int .i64 v.kids) := cellOf hv0 1 rfl
  have v2 : WB.cell? ⟨w.heap.size, 2, none⟩ = some (S v.text) := cellOf hv0 2 rfl
  clear hWB hv0 c5 c1 c6
  have c6 : WB.cell? ⟨b, 6, none⟩ = some (.slice sa 0 sc) := by rw [← HSV.out]; exact cellOf HB.out.1.blk 6 rfl
  obtain ⟨i0, hi0, hz0, hz1, hz2⟩ := info_parts Try.infoVal
  have HOW := Px.hid (show WB.ownsRow 0 64 3 vo f.out.length (f.out.flatMap cVal) from HB.out.1.parts.out)
  have f5 := HB.out.1.free 5
  have hbl : b < WB.heap.size := HB.out.1.lt
  have c5 : WB.cell? ⟨b, 5, none⟩ = some vo := cellOf HB.out.1.blk 5 rfl
  have HOB := Px.hid (show vo.ownBlock ≠ some b from fun e => HB.out.1.nb (mem_blocks.2 (.inl e)))
  go_upto_region 7 with fail
  go_cut [] (fun wx => AfterOut WB wx b f v vo vs tv tb ps)
  case first =>
    go_region_law
      ((refine step_append_lies _ (by rfl) _ _ _ (by rfl) 0 64 i0 _ 3 32 Try.underlying32 hi0 hz0 hz1 hz2 rfl (by omega) vo f.out.length (f.out.flatMap cVal) (by rfl) ((HOW.out.alloc _).drew)
            ⟨WB.heap.size, 0, none⟩ 1 1 (cVal v) (by rfl) (by rfl) (World.news_of_block (cs := #[.int .i64 v.kind, .int .i64 v.kids, S v.text]) (t := 64) (fr := (0, 0)) (heap_alloc_new WB _)) (by simp [cVal, Value.oneCell'])
            (by omega) (by unfold maxLen; omega) (by omega) (by simp) (WB.heap.size + 1) (by simp) ?_; intro gg cap w1 hown1 hgrow hat hlt; have k5 := grown_cell hgrow c5 HOB.out; have e5 := grown_free hgrow c5 f5 HOB.out))
    all_goals (go_wp2_with fail; go_meet; exact HB.out.1.afterOut hown1 (grown_alloc hgrow) (hat.imp id (fun e => by omega)))
  case rest =>
    obtain ⟨vo', hy, hyf, hyn⟩ := hcut
    go_wp2
    go_ret
    rw [HR.out]
    exact ⟨rfl, _, ⟨_, _, _, _, _, hy, rfl⟩, HB.out.2.step (Fresh.refl _ _) hyf, Fresh.trans (Fresh.refl _ _) HB.out.2.size hyn⟩
set_option maxRecDepth 100000 in
set_option maxHeartbeats 4000000 in
theorem one_cons (b : Nat) (f : J6.Feed) (v : Val) (w : World) (vo vs tv : Value) (tb : List (Option Nat)) (ps : List (J6.Fm × Value)) (h : FeedRep w b f vo vs tv tb ps) (hol : f.out.length ≤ 4096) (hi : ¬ (f.out.length : Int) = f.lim.i) (x : J6.Fm) (rest : List J6.Fm) (hst : f.stack = x :: rest) (hsl : f.stack.length ≤ 32) (hx : x.no < f.out.length) (hkd : ∀ a ∈ f.out, 0 ≤ a.kids ∧ a.kids ≤ 4096) :
    Calls Try.prog 42 #[.pointer (some ⟨b, 0, none⟩), valV v] w fun r w' => r = .returned (.bool (J6.one f v).1) ∧ After w w' b (J6.one f v).2 (foot b (blocks vo vs tb ps)) := by
  have c5 : w.cell? ⟨b, 5, none⟩ = some vo := cellOf h.blk 5 rfl
  have c1 : w.cell? ⟨b, 1, none⟩ = some (.int .i64 f.lim.i) := cellOf h.blk 1 rfl
  obtain ⟨oa, oc, hov, _⟩ := h.parts.out.len
  have hb : b < w.heap.size := h.lt
  rw [hov] at c5
  obtain ⟨vn, ps2, hps, hm, g, cap', hsv, h1, h2, k0, k1, k2, kf⟩ := h.top hst
  obtain ⟨y, hy⟩ : ∃ y, f.out[x.no]? = some y := ⟨_, List.getElem?_eq_getElem hx⟩
  obtain ⟨go, co, hvo, o1, o2, q0, q1, q2, qf⟩ := h.val hy
  have hyk := hkd y (List.mem_of_getElem? hy)
  have hpl : ps2.length ≤ 32 := by have := congrArg List.length hm; rw [List.length_map] at this; rw [hst] at hsl; simp at hsl; omega
  have n0 : (0 : Int) < (ps2.length : Int) + 1 := by omega
  have hwk : IntKind.i64.wrap (y.kids + 1) = y.kids + 1 := IntWalk.i64_in _ ⟨by omega, by omega⟩
  have HR := Px.hid (show J6.one f v = (true, { f with out := f.out.set x.no { y with kids := y.kids + 1 } ++ [v] }) by unfold J6.one; rw [if_neg (by simpa using hi), hst]; simp only; unfold R6.bump; rw [modify_set f.out x.no y _ hy])
  have HX := Px.hid h
  have hd : ((f.out.length : Int) == f.lim.i) = false := by simpa using hi
  have HV := Px.hid (And.intro hsv (And.intro hvo hy))
  have HK := Px.hid (And.intro k0 (And.intro q1 (And.intro kf qf)))
  unfold maxLen at h2 o2
  obtain ⟨L, hL⟩ : ∃ L, L = f.out.length := ⟨_, rfl⟩
  rw [← hL] at c5 hd hx hol o1
  have HL := Px.hid hL
  clear h hov hi hst hsv hvo hy hps hm hkd hyk k0 k1 k2 kf q0 q1 q2 qf hsl hL
  unfold valV
  go_enter Try.func42, Try.ntmps42
  go_wp2_with fail
  go_quiet (fail)
  have HA := Px.hid (And.intro ((HX.out.alloc (.cells #[.int .i64 v.kind, .int .i64 v.kids, S v.text] 64 (0, 0))).drewN nq) (((Fr.refl (foot b (blocks vo vs tb ps)) w).alloc (.cells #[.int .i64 v.kind, .int .i64 v.kids, S v.text] 64 (0, 0))).drewN nq))
  have hv0 : ((w.alloc (.cells #[.int .i64 v.kind, .int .i64 v.kids, S v.text] 64 (0, 0))).drewN nq).heap[w.heap.size]? = some (.cells #[.int .i64 v.kind, .int .i64 v.kids, S v.text] 64 (0, 0)) := heap_alloc_new w _
  obtain ⟨WA, hWA⟩ : ∃ WA, WA = (w.alloc (.cells #[.int .i64 v.kind, .int .i64 v.kids, S v.text] 64 (0, 0))).drewN nq := ⟨_, rfl⟩
  rw [← hWA] at HA hv0 ⊢
  have v0 : WA.cell? ⟨w.heap.size, 0, none⟩ = some (.int .i64 v.kind) := cellOf hv0 0 rfl
  have v1 : WA.cell? ⟨w.heap.size, 1, none⟩ = some (.int .i64 v.kids) := cellOf hv0 1 rfl
  have v2 : WA.cell? ⟨w.heap.size, 2, none⟩ = some (S v.text) := cellOf hv0 2 rfl
  clear c5 c1
  have VLT := Px.hid (show go ≠ w.heap.size from fun e => by have := HX.out.parts.lt (k := go) (mem_blocks.2 (.inl (by rw [HV.out.2.1]; rfl))); omega)
  have HV0 := Px.hid hv0
  have c6 : WA.cell? ⟨b, 6, none⟩ = some (.slice (some ⟨g, 0, none⟩) (ps2.length + 1) cap') := by rw [← HV.out.1]; exact cellOf HA.out.1.blk 6 rfl
  have c5 : WA.cell? ⟨b, 5, none⟩ = some (.slice (some ⟨go, 0, none⟩) L co) := by rw [HL.out, ← HV.out.2.1]; exact cellOf HA.out.1.blk 5 rfl
  have k0 : WA.cell? ⟨g, ps2.length * 3, none⟩ = some (.int .i64 (x.no : Nat)) := by rw [hWA]; exact cell_alloc (w := w) HK.out.1
  have q1 : WA.cell? ⟨go, x.no * 3 + 1, none⟩ = some (.int .i64 y.kids) := by rw [hWA]; exact cell_alloc (w := w) HK.out.2.1
  have qf : WA.frozen? ⟨go, x.no * 3 + 1, none⟩ = false := by rw [hWA]; exact (frozen_alloc_some (w := w) (by rw [HK.out.2.1]; rfl)).trans (HK.out.2.2.2 _)
  clear hv0 v0 v1 v2 hWA
  go_upto_region 6 with fail
  go_region
  have hS : FeedRep (WA.setCell ⟨go, x.no * 3 + 1, none⟩ (.int .i64 (y.kids + 1))) b { f with out := f.out.set x.no { y with kids := y.kids + 1 } } vo vs tv tb ps := by
    rw [HV.out.2.1]
    have hA := HA.out.1
    rw [HV.out.2.1] at hA
    exact hA.setVal HV.out.2.2 1 (by decide) _ rfl
  have HB := Px.hid (And.intro hS.drew ((HA.out.2.setCell (p := ⟨go, x.no * 3 + 1, none⟩) (.inl (.inr (mem_blocks.2 (.inl (by rw [HV.out.2.1]; rfl))))) (.int .i64 (y.kids + 1))).drew))
  have hv0 : (WA.setCell ⟨go, x.no * 3 + 1, none⟩ (.int .i64 (y.kids + 1))).drew.heap[w.heap.size]? = some (.cells #[.int .i64 v.kind, .int .i64 v.kids, S v.text] 64 (0, 0)) := (heap_setCell_other WA ⟨go, x.no * 3 + 1, none⟩ w.heap.size _ (fun e => VLT.out e.symm)).trans HV0.out
  obtain ⟨WB, hWB⟩ : ∃ WB, WB = (WA.setCell ⟨go, x.no * 3 + 1, none⟩ (.int .i64 (y.kids + 1))).drew := ⟨_, rfl⟩
  rw [← hWB] at HB hv0 ⊢
  have v0 : WB.cell? ⟨w.heap.size, 0, none⟩ = some (.int .i64 v.kind) := cellOf hv0 0 rfl
  have v1 : WB.cell? ⟨w.heap.size, 1, none⟩ = some (.int .i64 v.kids) := cellOf hv0 1 rfl
  have v2 : WB.cell? ⟨w.heap.size, 2, none⟩ = some (S v.text) := cellOf hv0 2 rfl
  obtain ⟨f1, hf1⟩ : ∃ f1 : J6.Feed, f1 = { f with out := f.out.set x.no { y with kids := y.kids + 1 } } := ⟨_, rfl⟩
  have HR := Px.hid (show J6.one f v = (true, { f1 with out := f1.out ++ [v] }) by rw [HR.out, hf1])
  rw [← hf1] at HB
  have hol1 : f1.out.length ≤ 4096 := by rw [hf1]; simp only [List.length_set]; rw [← HL.out]; exact hol
  clear hWB hv0 hf1 hS HV0 VLT HK HV HA c5 c6 k0 q1 qf h1 h2 o1 o2 hx hol hwk n0 hpl hd HX HL
  obtain ⟨i0, hi0, hz0, hz1, hz2⟩ := info_parts Try.infoVal
  have HOW := Px.hid (show WB.ownsRow 0 64 3 vo f1.out.length (f1.out.flatMap cVal) from HB.out.1.parts.out)
  have f5 := HB.out.1.free 5
  have hbl : b < WB.heap.size := HB.out.1.lt
  have c5 : WB.cell? ⟨b, 5, none⟩ = some vo := cellOf HB.out.1.blk 5 rfl
  have HOB := Px.hid (show vo.ownBlock ≠ some b from fun e => HB.out.1.nb (mem_blocks.2 (.inl e)))
  go_upto_region 7 with fail
  go_cut [] (fun wx => AfterOut WB wx b f1 v vo vs tv tb ps)
  case first =>
    go_region_law
      ((refine step_append_lies _ (by rfl) _ _ _ (by rfl) 0 64 i0 _ 3 32 Try.underlying32 hi0 hz0 hz1 hz2 rfl (by omega) vo f1.out.length (f1.out.flatMap cVal) (by rfl) ((HOW.out.alloc _).drew)
            ⟨WB.heap.size, 0, none⟩ 1 1 (cVal v) (by rfl) (by rfl) (World.news_of_block (cs := #[.int .i64 v.kind, .int .i64 v.kids, S v.text]) (t := 64) (fr := (0, 0)) (heap_alloc_new WB _)) (by simp [cVal, Value.oneCell'])
            (by omega) (by unfold maxLen; omega) (by omega) (by simp) (WB.heap.size + 1) (by simp) ?_; intro gg cap w1 hown1 hgrow hat hlt; have k5 := grown_cell hgrow c5 HOB.out; have e5 := grown_free hgrow c5 f5 HOB.out))
    all_goals (go_wp2_with fail; go_meet; exact HB.out.1.afterOut hown1 (grown_alloc hgrow) (hat.imp id (fun e => by omega)))
  case rest =>
    obtain ⟨vo', hy, hyf, hyn⟩ := hcut
    go_wp2
    go_ret
    rw [HR.out]
    exact ⟨rfl, _, ⟨_, _, _, _, _, hy, rfl⟩, HB.out.2.step (Fresh.refl _ _) hyf, Fresh.trans (Fresh.refl _ _) HB.out.2.size hyn⟩
theorem one_any (b : Nat) (f : J6.Feed) (v : Val) (F : Nat → Prop) (w : World) (h : FeedAt w b f F) (hn1 : 1 ≤ f.n) (hn2 : f.n ≤ 262144) (hol : f.out.length ≤ 4096) (hsl : f.stack.length ≤ 32) (hno : ∀ x ∈ f.stack, x.no < f.out.length) (hkd : ∀ a ∈ f.out, 0 ≤ a.kids ∧ a.kids ≤ 4096) :
    Calls Try.prog 42 #[.pointer (some ⟨b, 0, none⟩), valV v] w fun r w' => r = .returned (.bool (J6.one f v).1) ∧ After w w' b (J6.one f v).2 F := by
  obtain ⟨vo, vs, tv, tb, ps, h, rfl⟩ := h
  by_cases hi : (f.out.length : Int) = f.lim.i
  · exact one_full b f v w vo vs tv tb ps h hn1 hn2 hi
  · rcases hst : f.stack with _ | ⟨x, rest⟩
    · exact one_nil b f v w vo vs tv tb ps h hol hi hst
    · exact one_cons b f v w vo vs tv tb ps h hol hi x rest hst hsl (hno x (by rw [hst]; exact List.mem_cons_self ..)) hkd
end Go.Proofs.Ytahojodgmjmpnaa
