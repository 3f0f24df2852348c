/-
  The walk over jsonfeed's value where a number begins, and where nothing does; value, whole (printed by gen_yg.py).
-/
import Derived.Test.YtahojodgmjmpnaaYfJ
namespace Go.Proofs.Ytahojodgmjmpnaa
open Go.RowKit Go.Px
set_option maxRecDepth 100000 in
set_option maxHeartbeats 4000000 in
theorem value_minus (b : Nat) (c : UInt8) (z : Nat) (hz : z = c.toNat) (f : J6.Feed) (F : Nat → Prop) (w : World) (h : FeedAt w b f F) (hok : J6.OkK 0 f) (hn1 : 1 ≤ f.n) (hnow : f.now = .none) (hm : z = 45) :
    Calls Try.prog 41 #[.pointer (some ⟨b, 0, none⟩), .int .u8 45] w fun r w' => r = .returned (.tuple #[]) ∧ After w w' b (J6.valueOn f c.toNat ⟨3, 0, []⟩ (.num (J6.numTake 0 [] c).2.1 (J6.numTake 0 [] c).2.2)) F := by
  have hcn : (c == 45 || R6.digit c.toNat) = true := by
    have : c = 45 := UInt8.toNat_inj.1 (by rw [← hz, hm]; rfl)
    rw [this]; rfl
  obtain ⟨k, _, hnt, _⟩ := J6.num_first hcn
  have hone := one_ok b f ⟨3, 0, []⟩ F hok hn1
  have hkeep := hok.one ⟨3, 0, []⟩ rfl
  have hgn := hkeep.2.2.1
  have hr : J6.valueOn f c.toNat ⟨3, 0, []⟩ (.num (J6.numTake 0 [] c).2.1 (J6.numTake 0 [] c).2.2) = match J6.one f ⟨3, 0, []⟩ with
      | (false, g) => g
      | (true, g) => { g with now := .num k [c] } := by rw [hnt]; rfl
  obtain ⟨⟨r1, g⟩, hres⟩ : ∃ r, J6.one f ⟨3, 0, []⟩ = r := ⟨_, rfl⟩
  simp only [hres] at hone hgn
  rw [hres] at hr
  rw [hnow] at hgn
  have hFlt := h.lt
  have hFb := h.own
  have HFA := Px.hid h
  obtain ⟨vo, vs, tv, tb, ps, h, hF⟩ := h
  have hb : b < w.heap.size := h.lt
  obtain ⟨oa, oc, hov, _⟩ := h.parts.out.len
  have c5 : w.cell? ⟨b, 5, none⟩ = some vo := cellOf h.blk 5 rfl
  obtain ⟨L, hL⟩ : ∃ L, L = f.out.length := ⟨_, rfl⟩
  rw [hov, ← hL] at c5
  have c6 : w.cell? ⟨b, 6, none⟩ = some vs := cellOf h.blk 6 rfl
  obtain ⟨sa, sc, hsv, _⟩ := h.stackLen
  obtain ⟨M, hM⟩ : ∃ M, M = f.stack.length := ⟨_, rfl⟩
  rw [hsv, ← hM] at c6
  have c0 : w.cell? ⟨b, 0, none⟩ = some (.int .i64 f.lim.d) := cellOf h.blk 0 rfl
  have HX := Px.hid (And.intro hFlt (And.intro hFb hgn))
  have HO := Px.hid hone
  have HR := Px.hid hr
  have HZ := Px.hid (And.intro hz hnt)
  have hX : ∀ W, Same w W → W.cell? ⟨b, 5, none⟩ = some (.slice oa L oc) := fun W hW => (hW.cell (p := ⟨b, 5, none⟩) hb (fun x => x)).trans c5
  have hY : ∀ W, Same w W → W.cell? ⟨b, 6, none⟩ = some (.slice sa M sc) := fun W hW => (hW.cell (p := ⟨b, 6, none⟩) hb (fun x => x)).trans c6
  have hZ : ∀ W, Same w W → W.cell? ⟨b, 0, none⟩ = some (.int .i64 f.lim.d) := fun W hW => (hW.cell (p := ⟨b, 0, none⟩) hb (fun x => x)).trans c0
  have HC := Px.hid (And.intro hX (And.intro hY hZ))
  have hcz : .int .u8 45 = Value.int .u8 (c.toNat : Nat) := by rw [← hz, hm]; rfl
  have HCZ := Px.hid hcz
  clear hr h hone hkeep hok hres hov hFlt hFb hgn hn1 hnow hF hsv hL hM hX hY hZ hz hnt hcn hcz c5 c6 c0 hm
  go_enter Try.func41, Try.ntmps41
  go_wp2_with fail
  have ht0 : ((w.alloc (.cells #[.int .i64 0, .int .i64 0, .string ⟨#[]⟩] 64 (0, 0))).alloc (.cells #[.int .i64 0, .slice none 0 0] 62 (0, 0))).heap[w.heap.size + 1]? = some (.cells #[.int .i64 0, .slice none 0 0] 62 (0, 0)) := by have := heap_alloc_new (w.alloc (.cells #[.int .i64 0, .int .i64 0, .string ⟨#[]⟩] 64 (0, 0))) (.cells #[.int .i64 0, .slice none 0 0] 62 (0, 0)); simp only [World.size_alloc] at this; exact this
  have HN := Px.hid (num_take (w.heap.size + 1) 0 [] (.slice none 0 0) c (by omega) (by simp) _ ⟨ht0, owns_nil _ _ _ _, fun j hj => by simp [Value.ownBlock] at hj⟩)
  clear ht0
  rw [HCZ.out]
  refine HN.out.mono ?_
  rw [HZ.out.2]
  rintro e w1 ⟨rfl, vt', hna, hfr1, hfn1⟩
  have hnf : ∀ j, nfoot (w.heap.size + 1) (.slice none 0 0) j → j = w.heap.size + 1 := by
    rintro j (x | x)
    · exact x
    · simp [Value.ownBlock] at x
  have hS1 : Same w w1 := ((((Fr.refl (fun _ => False) w).alloc (.cells #[.int .i64 0, .int .i64 0, .string ⟨#[]⟩] 64 (0, 0))).alloc (.cells #[.int .i64 0, .slice none 0 0] 62 (0, 0)))).trans hfr1 (fun j hj x => by have := hnf j x; omega)
  have hv0 : w1.heap[w.heap.size]? = some (.cells #[.int .i64 0, .int .i64 0, .string ⟨#[]⟩] 64 (0, 0)) := (hfr1.block w.heap.size (by simp; omega) (fun x => by have := hnf _ x; omega)).trans ((Below.heap_alloc (w.alloc (.cells #[.int .i64 0, .int .i64 0, .string ⟨#[]⟩] 64 (0, 0))) (.cells #[.int .i64 0, .slice none 0 0] 62 (0, 0)) w.heap.size (by simp)).trans (heap_alloc_new w _))
  have v0 : w1.cell? ⟨w.heap.size, 0, none⟩ = some (.int .i64 0) := cellOf hv0 0 rfl
  have v1 : w1.cell? ⟨w.heap.size, 1, none⟩ = some (.int .i64 0) := cellOf hv0 1 rfl
  have v2 : w1.cell? ⟨w.heap.size, 2, none⟩ = some (.string ⟨#[]⟩) := cellOf hv0 2 rfl
  have g0 : w1.frozen? ⟨w.heap.size, 0, none⟩ = false := freeOf hv0 0
  have hown : ∀ j, some j ∈ [some (w.heap.size + 1), vt'.ownBlock] → w.heap.size + 1 ≤ j := fun j hj => by
    simp only [List.mem_cons, Option.some.injEq, List.not_mem_nil, or_false] at hj
    rcases hj with rfl | hj
    · omega
    · rcases hfn1 j (.inr hj.symm) with x | x
      · have := hnf j x; omega
      · simp at x; omega
  have H1 := Px.hid (And.intro hS1 (And.intro hv0 (And.intro (tok_num w1 _ _ _ _ hna) hown)))
  have hcs := hS1.size
  have hc5 := HC.out.1 w1 hS1
  have hc6 := HC.out.2.1 w1 hS1
  have hc0 := HC.out.2.2 w1 hS1
  clear hS1 hv0 hna hfr1 hfn1 hown hnf
  go_wp2_with fail
  go_quiet (fail)
  have hS0 : Same w ((w1.setCell ⟨w.heap.size, 0, none⟩ (.int .i64 3)).drewN nq) := (Fr.setCell H1.out.1 (p := ⟨w.heap.size, 0, none⟩) (.inr (Nat.le_refl _)) (.int .i64 3)).drewN nq
  have hv0' : ((w1.setCell ⟨w.heap.size, 0, none⟩ (.int .i64 3)).drewN nq).heap[w.heap.size]? = some (.cells #[.int .i64 3, .int .i64 0, .string ⟨#[]⟩] 64 (0, 0)) := (heap_setCell_same w1 _ 0 _ _ _ H1.out.2.1).trans rfl
  have hT0 : TokIs ((w1.setCell ⟨w.heap.size, 0, none⟩ (.int .i64 3)).drewN nq) (.iface 58 (.pointer (some ⟨w.heap.size + 1, 0, none⟩))) [some (w.heap.size + 1), vt'.ownBlock] (.num k [c]) :=
    H1.out.2.2.1.keep fun j hj => heap_setCell_other w1 ⟨w.heap.size, 0, none⟩ j _ (fun e => by have h1 := H1.out.2.2.2 j hj; have e : j = w.heap.size := e; omega)
  obtain ⟨W0, hW0⟩ : ∃ W0, W0 = (w1.setCell ⟨w.heap.size, 0, none⟩ (.int .i64 3)).drewN nq := ⟨_, rfl⟩
  rw [← hW0] at hS0 hv0' hT0 ⊢
  have c5' := HC.out.1 W0 hS0
  have u0 : W0.cell? ⟨w.heap.size, 0, none⟩ = some (.int .i64 3) := cellOf hv0' 0 rfl
  have u1 : W0.cell? ⟨w.heap.size, 1, none⟩ = some (.int .i64 0) := cellOf hv0' 1 rfl
  have u2 : W0.cell? ⟨w.heap.size, 2, none⟩ = some (.string ⟨#[]⟩) := cellOf hv0' 2 rfl
  have HS := Px.hid hS0
  have HT := Px.hid hT0
  clear hW0 hS0 hv0' hT0 v0 v1 v2 g0 hc5 hc6 hc0 hcs
  go_wp2_with fail
  refine (HO.out W0 (HFA.out.same HS.out)).mono ?_
  rintro e w' ⟨rfl, hA⟩
  have HA := Px.hid hA
  clear hA c5' u0 u1 u2
  cases r1 with
  | false =>
    go_wp2
    refine bodyPost_ret (results_none rfl _ _ _) rfl ?_
    rw [HR.out]
    exact ⟨rfl, HA.out.ofFr (HS.out.fr F)⟩
  | true =>
    have c8 : w'.cell? ⟨b, 8, none⟩ = some .nilIface := by obtain ⟨F', h1, _, _⟩ := HA.out; exact (h1.c8 HX.out.2.2).1
    have f8 : w'.frozen? ⟨b, 8, none⟩ = false := by obtain ⟨F', h1, _, _⟩ := HA.out; exact (h1.c8 HX.out.2.2).2
    go_wp2
    go_end0
    rw [HR.out]
    exact ⟨rfl, After.tok HX.out.1 HX.out.2.1 (HS.out.fr F) HA.out HX.out.2.2 HT.out (fun j hj => by have := H1.out.2.2.2 j hj; omega)⟩
set_option maxRecDepth 100000 in
set_option maxHeartbeats 4000000 in
theorem value_digit (b : Nat) (c : UInt8) (z : Nat) (hz : z = c.toNat) (f : J6.Feed) (F : Nat → Prop) (w : World) (h : FeedAt w b f F) (hok : J6.OkK 0 f) (hn1 : 1 ≤ f.n) (hnow : f.now = .none) (hz1 : 48 ≤ z) (hz2 : z ≤ 57) :
    Calls Try.prog 41 #[.pointer (some ⟨b, 0, none⟩), .int .u8 (z : Nat)] w fun r w' => r = .returned (.tuple #[]) ∧ After w w' b (J6.valueOn f c.toNat ⟨3, 0, []⟩ (.num (J6.numTake 0 [] c).2.1 (J6.numTake 0 [] c).2.2)) F := by
  have hcn : (c == 45 || R6.digit c.toNat) = true := by
    have : R6.digit c.toNat = true := by unfold R6.digit; rw [← hz]; simp; omega
    rw [this]; simp
  have e1 : ((z : Int) == 123) = false := by simp; omega
  have e2 : ((z : Int) == 91) = false := by simp; omega
  have e3 : ((z : Int) == 34) = false := by simp; omega
  have e4 : ((z : Int) == 116) = false := by simp; omega
  have e5 : ((z : Int) == 102) = false := by simp; omega
  have e6 : ((z : Int) == 110) = false := by simp; omega
  have e7 : ((z : Int) == 45) = false := by simp; omega
  have e8 : (48 : Int) ≤ (z : Int) := by omega
  have e9 : (z : Int) ≤ 57 := by omega
  obtain ⟨k, _, hnt, _⟩ := J6.num_first hcn
  have hone := one_ok b f ⟨3, 0, []⟩ F hok hn1
  have hkeep := hok.one ⟨3, 0, []⟩ rfl
  have hgn := hkeep.2.2.1
  have hr : J6.valueOn f c.toNat ⟨3, 0, []⟩ (.num (J6.numTake 0 [] c).2.1 (J6.numTake 0 [] c).2.2) = match J6.one f ⟨3, 0, []⟩ with
      | (false, g) => g
      | (true, g) => { g with now := .num k [c] } := by rw [hnt]; rfl
  obtain ⟨⟨r1, g⟩, hres⟩ : ∃ r, J6.one f ⟨3, 0, []⟩ = r := ⟨_, rfl⟩
  simp only [hres] at hone hgn
  rw [hres] at hr
  rw [hnow] at hgn
  have hFlt := h.lt
  have hFb := h.own
  have HFA := Px.hid h
  obtain ⟨vo, vs, tv, tb, ps, h, hF⟩ := h
  have hb : b < w.heap.size := h.lt
  obtain ⟨oa, oc, hov, _⟩ := h.parts.out.len
  have c5 : w.cell? ⟨b, 5, none⟩ = some vo := cellOf h.blk 5 rfl
  obtain ⟨L, hL⟩ : ∃ L, L = f.out.length := ⟨_, rfl⟩
  rw [hov, ← hL] at c5
  have c6 : w.cell? ⟨b, 6, none⟩ = some vs := cellOf h.blk 6 rfl
  obtain ⟨sa, sc, hsv, _⟩ := h.stackLen
  obtain ⟨M, hM⟩ : ∃ M, M = f.stack.length := ⟨_, rfl⟩
  rw [hsv, ← hM] at c6
  have c0 : w.cell? ⟨b, 0, none⟩ = some (.int .i64 f.lim.d) := cellOf h.blk 0 rfl
  have HX := Px.hid (And.intro hFlt (And.intro hFb hgn))
  have HO := Px.hid hone
  have HR := Px.hid hr
  have HZ := Px.hid (And.intro hz hnt)
  have hX : ∀ W, Same w W → W.cell? ⟨b, 5, none⟩ = some (.slice oa L oc) := fun W hW => (hW.cell (p := ⟨b, 5, none⟩) hb (fun x => x)).trans c5
  have hY : ∀ W, Same w W → W.cell? ⟨b, 6, none⟩ = some (.slice sa M sc) := fun W hW => (hW.cell (p := ⟨b, 6, none⟩) hb (fun x => x)).trans c6
  have hZ : ∀ W, Same w W → W.cell? ⟨b, 0, none⟩ = some (.int .i64 f.lim.d) := fun W hW => (hW.cell (p := ⟨b, 0, none⟩) hb (fun x => x)).trans c0
  have HC := Px.hid (And.intro hX (And.intro hY hZ))
  have hcz : .int .u8 (z : Nat) = Value.int .u8 (c.toNat : Nat) := by rw [hz]
  have HCZ := Px.hid hcz
  clear hr h hone hkeep hok hres hov hFlt hFb hgn hn1 hnow hF hsv hL hM hX hY hZ hz hnt hcn hcz c5 c6 c0 hz1 hz2
  go_enter Try.func41, Try.ntmps41
  go_wp2_with fail
  have ht0 : ((w.alloc (.cells #[.int .i64 0, .int .i64 0, .string ⟨#[]⟩] 64 (0, 0))).alloc (.cells #[.int .i64 0, .slice none 0 0] 62 (0, 0))).heap[w.heap.size + 1]? = some (.cells #[.int .i64 0, .slice none 0 0] 62 (0, 0)) := by have := heap_alloc_new (w.alloc (.cells #[.int .i64 0, .int .i64 0, .string ⟨#[]⟩] 64 (0, 0))) (.cells #[.int .i64 0, .slice none 0 0] 62 (0, 0)); simp only [World.size_alloc] at this; exact this
  have HN := Px.hid (num_take (w.heap.size + 1) 0 [] (.slice none 0 0) c (by omega) (by simp) _ ⟨ht0, owns_nil _ _ _ _, fun j hj => by simp [Value.ownBlock] at hj⟩)
  clear ht0
  rw [HCZ.out]
  refine HN.out.mono ?_
  rw [HZ.out.2]
  rintro e w1 ⟨rfl, vt', hna, hfr1, hfn1⟩
  have hnf : ∀ j, nfoot (w.heap.size + 1) (.slice none 0 0) j → j = w.heap.size + 1 := by
    rintro j (x | x)
    · exact x
    · simp [Value.ownBlock] at x
  have hS1 : Same w w1 := ((((Fr.refl (fun _ => False) w).alloc (.cells #[.int .i64 0, .int .i64 0, .string ⟨#[]⟩] 64 (0, 0))).alloc (.cells #[.int .i64 0, .slice none 0 0] 62 (0, 0)))).trans hfr1 (fun j hj x => by have := hnf j x; omega)
  have hv0 : w1.heap[w.heap.size]? = some (.cells #[.int .i64 0, .int .i64 0, .string ⟨#[]⟩] 64 (0, 0)) := (hfr1.block w.heap.size (by simp; omega) (fun x => by have := hnf _ x; omega)).trans ((Below.heap_alloc (w.alloc (.cells #[.int .i64 0, .int .i64 0, .string ⟨#[]⟩] 64 (0, 0))) (.cells #[.int .i64 0, .slice none 0 0] 62 (0, 0)) w.heap.size (by simp)).trans (heap_alloc_new w _))
  have v0 : w1.cell? ⟨w.heap.size, 0, none⟩ = some (.int .i64 0) := cellOf hv0 0 rfl
  have v1 : w1.cell? ⟨w.heap.size, 1, none⟩ = some (.int .i64 0) := cellOf hv0 1 rfl
  have v2 : w1.cell? ⟨w.heap.size, 2, none⟩ = some (.string ⟨#[]⟩) := cellOf hv0 2 rfl
  have g0 : w1.frozen? ⟨w.heap.size, 0, none⟩ = false := freeOf hv0 0
  have hown : ∀ j, some j ∈ [some (w.heap.size + 1), vt'.ownBlock] → w.heap.size + 1 ≤ j := fun j hj => by
    simp only [List.mem_cons, Option.some.injEq, List.not_mem_nil, or_false] at hj
    rcases hj with rfl | hj
    · omega
    · rcases hfn1 j (.inr hj.symm) with x | x
      · have := hnf j x; omega
      · simp at x; omega
  have H1 := Px.hid (And.intro hS1 (And.intro hv0 (And.intro (tok_num w1 _ _ _ _ hna) hown)))
  have hcs := hS1.size
  have hc5 := HC.out.1 w1 hS1
  have hc6 := HC.out.2.1 w1 hS1
  have hc0 := HC.out.2.2 w1 hS1
  clear hS1 hv0 hna hfr1 hfn1 hown hnf
  go_wp2_with fail
  go_quiet (fail)
  have hS0 : Same w ((w1.setCell ⟨w.heap.size, 0, none⟩ (.int .i64 3)).drewN nq) := (Fr.setCell H1.out.1 (p := ⟨w.heap.size, 0, none⟩) (.inr (Nat.le_refl _)) (.int .i64 3)).drewN nq
  have hv0' : ((w1.setCell ⟨w.heap.size, 0, none⟩ (.int .i64 3)).drewN nq).heap[w.heap.size]? = some (.cells #[.int .i64 3, .int .i64 0, .string ⟨#[]⟩] 64 (0, 0)) := (heap_setCell_same w1 _ 0 _ _ _ H1.out.2.1).trans rfl
  have hT0 : TokIs ((w1.setCell ⟨w.heap.size, 0, none⟩ (.int .i64 3)).drewN nq) (.iface 58 (.pointer (some ⟨w.heap.size + 1, 0, none⟩))) [some (w.heap.size + 1), vt'.ownBlock] (.num k [c]) :=
    H1.out.2.2.1.keep fun j hj => heap_setCell_other w1 ⟨w.heap.size, 0, none⟩ j _ (fun e => by have h1 := H1.out.2.2.2 j hj; have e : j = w.heap.size := e; omega)
  obtain ⟨W0, hW0⟩ : ∃ W0, W0 = (w1.setCell ⟨w.heap.size, 0, none⟩ (.int .i64 3)).drewN nq := ⟨_, rfl⟩
  rw [← hW0] at hS0 hv0' hT0 ⊢
  have c5' := HC.out.1 W0 hS0
  have u0 : W0.cell? ⟨w.heap.size, 0, none⟩ = some (.int .i64 3) := cellOf hv0' 0 rfl
  have u1 : W0.cell? ⟨w.heap.size, 1, none⟩ = some (.int .i64 0) := cellOf hv0' 1 rfl
  have u2 : W0.cell? ⟨w.heap.size, 2, none⟩ = some (.string ⟨#[]⟩) := cellOf hv0' 2 rfl
  have HS := Px.hid hS0
  have HT := Px.hid hT0
  clear hW0 hS0 hv0' hT0 v0 v1 v2 g0 hc5 hc6 hc0 hcs
  go_wp2_with fail
  refine (HO.out W0 (HFA.out.same HS.out)).mono ?_
  rintro e w' ⟨rfl, hA⟩
  have HA := Px.hid hA
  clear hA c5' u0 u1 u2
  cases r1 with
  | false =>
    go_wp2
    refine bodyPost_ret (results_none rfl _ _ _) rfl ?_
    rw [HR.out]
    exact ⟨rfl, HA.out.ofFr (HS.out.fr F)⟩
  | true =>
    have c8 : w'.cell? ⟨b, 8, none⟩ = some .nilIface := by obtain ⟨F', h1, _, _⟩ := HA.out; exact (h1.c8 HX.out.2.2).1
    have f8 : w'.frozen? ⟨b, 8, none⟩ = false := by obtain ⟨F', h1, _, _⟩ := HA.out; exact (h1.c8 HX.out.2.2).2
    go_wp2
    go_end0
    rw [HR.out]
    exact ⟨rfl, After.tok HX.out.1 HX.out.2.1 (HS.out.fr F) HA.out HX.out.2.2 HT.out (fun j hj => by have := H1.out.2.2.2 j hj; omega)⟩
end Go.Proofs.Ytahojodgmjmpnaa
