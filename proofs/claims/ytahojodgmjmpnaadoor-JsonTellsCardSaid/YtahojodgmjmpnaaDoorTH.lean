/-
  Several texts in one: The walks over json.Decode's recovering closure, and over Decode where the limits may not be. Printed by gen_nn.py. The walks over the program's json.Decode where the limits may be. Printed by gen_no.py. The program's json.Decode at any bytes and any limits: it hands back what the reference's does.
-/
import Derived.Test.YtahojodgmjmpnaaDoorTG
import Derived.Defers
import Derived.Recover
import Derived.Laws.Pointers
/-! The walks over json.Decode's recovering closure, and over Decode where the limits may not be. Printed by gen_nn.py. -/
namespace Go.Proofs.YtahojodgmjmpnaaDoor
open Go.RowKit Go.Px

theorem jcatch_idle (p0 p1 p2 : Addr) (w : World) :
    CallsD Tryd.prog 19 #[.pointer (some p0), .pointer (some p1), .pointer (some p2)] .returning w fun e u' w' => e = .returned (.tuple #[]) ∧ u' = .returning ∧ w' = w := by
  refine callsD_of_wpS Tryd.func19 rfl fun c₀ cs hu => ?_
  simp only [Tryd.ntmps19, List.size_toArray, List.length_cons, List.length_nil, Nat.reduceAdd, Nat.reduceSub, Array.replicate_succ, Array.replicate_zero, List.push_toArray, List.append_toArray, List.nil_append, List.cons_append]
  apply wpS_seq
  apply wpS_region
  simp [wpOpsS, go_sem, recoverD, hu, Exit.thenS]
  refine wpS_of_wp ?_
  generalize hQ : (fun (e : Exit) (a' : Act) (w' : World) => bodyPostS _ _ c₀ cs _ e a' _ w') = Q
  go_wp2
  rw [← hQ]
  simp only [bodyPostS]
  exact ⟨trivial, .returning, by cases c₀; simp_all, .tuple #[], results_none rfl _ _ _, by simp⟩
@[go_sem] theorem as_jflt (v : Value) (w : World) : (Instr.typeAssert (.iface 44 v) 20 44 true).run Tryd.prog w = .ok (.tuple #[v, .bool true]) w := by kernel_rfl
set_option maxRecDepth 100000 in
set_option maxHeartbeats 1000000 in
theorem jcatch_flt (g0 g1 g2 : Nat) (e : D6.Flt) (v0 v1 v2 : Value) (older : List PanicEntry) (w : World)
    (h0 : w.cell? ⟨g0, 0, none⟩ = some v0) (h1 : w.cell? ⟨g1, 0, none⟩ = some v1) (h2 : w.cell? ⟨g2, 0, none⟩ = some v2)
    (k0 : w.frozen? ⟨g0, 0, none⟩ = false) (k1 : w.frozen? ⟨g1, 0, none⟩ = false) (k2 : w.frozen? ⟨g2, 0, none⟩ = false) (l0 : g0 < w.heap.size) (l1 : g1 < w.heap.size) (l2 : g2 < w.heap.size) (h01 : g0 ≠ g1) (h02 : g0 ≠ g2) (h12 : g1 ≠ g2) :
    CallsD Tryd.prog 19 #[.pointer (some ⟨g0, 0, none⟩), .pointer (some ⟨g1, 0, none⟩), .pointer (some ⟨g2, 0, none⟩)] (.panicking ({ v := jfltV e, recovered := false } :: older)) w fun r u' w' =>
      r = .returned (.tuple #[]) ∧ u' = .panicking ({ v := jfltV e, recovered := true } :: older) ∧ w' = ((((w.setCell ⟨g0, 0, none⟩ (.slice none 0 0)).setCell ⟨g1, 0, none⟩ (.int .i64 e.1)).setCell ⟨g2, 0, none⟩ (.int .i64 e.2)).alloc (.cells #[.int .i64 e.1, .int .i64 e.2] 44 (0, 0))).drew := by
  refine callsD_of_wpS Tryd.func19 rfl fun c₀ cs hu => ?_
  unfold jfltV at hu
  simp only [Tryd.ntmps19, List.size_toArray, List.length_cons, List.length_nil, Nat.reduceAdd, Nat.reduceSub, Array.replicate_succ, Array.replicate_zero, List.push_toArray, List.append_toArray, List.nil_append, List.cons_append]
  apply wpS_seq
  apply wpS_region
  simp [wpOpsS, go_sem, recoverD, hu, Exit.thenS]
  refine wpS_of_wp ?_
  generalize hQ : (fun (e : Exit) (a' : Act) (w' : World) => bodyPostS _ _ c₀ cs _ e a' _ w') = Q
  have n01 : ⟨g0, 0, none⟩ ≠ (⟨g1, 0, none⟩ : Addr) := fun e => h01 (by cases e; rfl)
  have n02 : ⟨g0, 0, none⟩ ≠ (⟨g2, 0, none⟩ : Addr) := fun e => h02 (by cases e; rfl)
  have n12 : ⟨g1, 0, none⟩ ≠ (⟨g2, 0, none⟩ : Addr) := fun e => h12 (by cases e; rfl)
  go_upto_region 5 with fail
  go_region
  rw [← hQ]
  simp only [bodyPostS]
  exact ⟨trivial, _, rfl, .tuple #[], results_none rfl _ _ _, by simp [jfltV]⟩
/-- Decode's first four blocks. -/
def World.dec (w : World) (lim : Lim) : World := ((((w.alloc (.cells #[.int .i64 lim.d, .int .i64 lim.i, .int .i64 lim.b, .int .i64 lim.r] 23 (0, 0))).alloc (.cells #[.slice none 0 0] 25 (0, 0))).alloc (.cells #[.int .i64 0] 3 (0, 0))).alloc (.cells #[.int .i64 0] 26 (0, 0)))
structure DecAt (w w1 : World) (lim : Lim) (v0 v1 v2 : Value) : Prop where
  lim : w1.heap[w.heap.size]? = some (.cells #[.int .i64 lim.d, .int .i64 lim.i, .int .i64 lim.b, .int .i64 lim.r] 23 (0, 0))
  v0 : w1.heap[w.heap.size + 1]? = some (.cells #[v0] 25 (0, 0))
  v1 : w1.heap[w.heap.size + 1 + 1]? = some (.cells #[v1] 3 (0, 0))
  v2 : w1.heap[w.heap.size + 1 + 1 + 1]? = some (.cells #[v2] 26 (0, 0))
  same : Same w w1
theorem dec_at (w : World) (lim : Lim) : DecAt w (World.dec w lim) lim (.slice none 0 0) (.int .i64 0) (.int .i64 0) := by
  refine ⟨?_, ?_, ?_, ?_, (((Same.refl w).alloc _).alloc _).alloc _ |>.alloc _⟩
  · exact (Below.heap_alloc _ _ _ (by simp <;> omega)).trans ((Below.heap_alloc _ _ _ (by simp <;> omega)).trans ((Below.heap_alloc _ _ _ (by simp)).trans (heap_alloc_new w _)))
  · refine (Below.heap_alloc _ _ _ (by simp <;> omega)).trans ((Below.heap_alloc _ _ _ (by simp)).trans ?_)
    have := heap_alloc_new (w.alloc (.cells #[.int .i64 lim.d, .int .i64 lim.i, .int .i64 lim.b, .int .i64 lim.r] 23 (0, 0))) (.cells #[.slice none 0 0] 25 (0, 0))
    simpa using this
  · refine (Below.heap_alloc _ _ _ (by simp)).trans ?_
    have := heap_alloc_new ((w.alloc (.cells #[.int .i64 lim.d, .int .i64 lim.i, .int .i64 lim.b, .int .i64 lim.r] 23 (0, 0))).alloc (.cells #[.slice none 0 0] 25 (0, 0))) (.cells #[.int .i64 0] 3 (0, 0))
    simpa using this
  · have := heap_alloc_new (((w.alloc (.cells #[.int .i64 lim.d, .int .i64 lim.i, .int .i64 lim.b, .int .i64 lim.r] 23 (0, 0))).alloc (.cells #[.slice none 0 0] 25 (0, 0))).alloc (.cells #[.int .i64 0] 3 (0, 0))) (.cells #[.int .i64 0] 26 (0, 0))
    simpa [World.dec] using this
theorem DecAt.keep {w w1 w2 : World} {lim : Lim} {v0 v1 v2 : Value} (h : DecAt w w1 lim v0 v1 v2) (hs : Same w1 w2) : DecAt w w2 lim v0 v1 v2 :=
  ⟨(hs.block _ (ltOf h.lim) (fun x => x)).trans h.lim, (hs.block _ (ltOf h.v0) (fun x => x)).trans h.v0, (hs.block _ (ltOf h.v1) (fun x => x)).trans h.v1, (hs.block _ (ltOf h.v2) (fun x => x)).trans h.v2, Fr.trans h.same hs (fun _ _ x => x)⟩
set_option maxRecDepth 100000 in
set_option maxHeartbeats 1000000 in
theorem jdecode_no (s : Bytes) (lim : Lim) (hm : lim.may = false) (w : World) :
    Calls Tryd.prog 10 #[S s, limV lim] w fun r w' => r = .returned (.tuple #[.slice none 0 0, .int .i64 0, .int .i64 2]) ∧ Same w w' := by
  have hmf : ∀ (fn : Fn) (first cap : Array Value) (w : World), (Instr.makeFunc fn first cap).run Tryd.prog w = .ok (.func fn first cap) w := fun _ _ _ _ => rfl
  unfold limV
  go_enter_defers Tryd.func10, Tryd.ntmps10
  go_upto_region 1 with fail
  rw [show ((((w.alloc (.cells #[.int .i64 lim.d, .int .i64 lim.i, .int .i64 lim.b, .int .i64 lim.r] 23 (0, 0))).alloc (.cells #[.slice none 0 0] 25 (0, 0))).alloc (.cells #[.int .i64 0] 3 (0, 0))).alloc (.cells #[.int .i64 0] 26 (0, 0))) = World.dec w lim from rfl]
  have HD := Px.hid (dec_at w lim)
  have a0 := cellOf HD.out.lim 0 rfl
  have a1 := cellOf HD.out.lim 1 rfl
  have a2 := cellOf HD.out.lim 2 rfl
  have a3 := cellOf HD.out.lim 3 rfl
  go_wp2_with fail
  refine (derMay_any lim _).mono ?_
  rintro e w1 ⟨rfl, hs⟩
  have HE := Px.hid (HD.out.keep hs)
  have b0 := cellOf HE.out.v0 0 rfl
  have b1 := cellOf HE.out.v1 0 rfl
  have b2 := cellOf HE.out.v2 0 rfl
  have f0 := freeOf HE.out.v0 0
  have f1 := freeOf HE.out.v1 0
  have f2 := freeOf HE.out.v2 0
  clear a0 a1 a2 a3 hs
  rw [hm]
  go_wp2
  have hS : Same w (((w1.setCell ⟨w.heap.size + 1, 0, none⟩ (.slice none 0 0)).setCell ⟨w.heap.size + 1 + 1, 0, none⟩ (.int .i64 0)).setCell ⟨w.heap.size + 1 + 1 + 1, 0, none⟩ (.int .i64 2)) :=
    ((HE.out.same.setCell (p := ⟨w.heap.size + 1, 0, none⟩) (.inr (by simp only; omega)) _).setCell (p := ⟨w.heap.size + 1 + 1, 0, none⟩) (.inr (by simp only; omega)) _).setCell (p := ⟨w.heap.size + 1 + 1 + 1, 0, none⟩) (.inr (by simp only; omega)) _
  have HS := Px.hid hS
  clear hS
  simp [bodyPostD, Leaves, results, Tryd.results10, go_sem, b0, b1, b2]
  exact HS.out
end Go.Proofs.YtahojodgmjmpnaaDoor

/-! The walks over the program's json.Decode where the limits may be. Printed by gen_no.py. -/
namespace Go.Proofs.YtahojodgmjmpnaaDoor
open Go.RowKit Go.Px

theorem new_jr (w : World) (s : Bytes) (lim : Lim) : JRep (w.alloc (.cells (jrCells s lim 0 (.slice none 0 0) (.slice none 0 0)) 49 (0, 0))) w.heap.size s lim ⟨0, [], []⟩ (.slice none 0 0) (.slice none 0 0) [] :=
  ⟨⟨heap_alloc_new w _⟩, ⟨owns_nil _ _ _ _, owns_nil _ _ _ _, rfl, nofun, by simp [jbl, nmB, Value.ownBlock, Apart]⟩, by simp [jbl, nmB, Value.ownBlock]⟩
theorem newj_foot {b k : Nat} (h : foot b (jbl (.slice none 0 0) (.slice none 0 0) []) k) : k = b := by
  rcases h with e | e
  · exact e
  · simp [jbl, nmB, Value.ownBlock] at e
theorem new_jinv {s : Bytes} {lim : Lim} (hc : Cj s lim) : JInv s lim 0 ⟨0, [], []⟩ := by
  have hmay := J6.may_of hc.may
  exact ⟨⟨hc, Nat.zero_le _, by show ((0 : Nat) : Int) ≤ lim.i; omega, by show ((0 : Nat) : Int) ≤ lim.d; omega, nofun, nofun, nofun⟩, Nat.zero_le _, fun e => absurd rfl e⟩
theorem DecAt.fr {w w1 w2 : World} {lim : Lim} {v0 v1 v2 : Value} {F : Nat → Prop} (h : DecAt w w1 lim v0 v1 v2) (hs : Fr F w1 w2) (hF : ∀ k, F k → w1.heap.size ≤ k) : DecAt w w2 lim v0 v1 v2 :=
  have hn : ∀ k, k < w1.heap.size → ¬ F k := fun k hk e => by have := hF k e; omega
  ⟨(hs.block _ (ltOf h.lim) (hn _ (ltOf h.lim))).trans h.lim, (hs.block _ (ltOf h.v0) (hn _ (ltOf h.v0))).trans h.v0, (hs.block _ (ltOf h.v1) (hn _ (ltOf h.v1))).trans h.v1, (hs.block _ (ltOf h.v2) (hn _ (ltOf h.v2))).trans h.v2, Fr.trans h.same hs (fun k hk e => by have := hF k e; have := h.same.size; omega)⟩
/-- The reader's block lies behind Decode's own. -/
theorem DecAt.it {w w2 w3 : World} {lim : Lim} {v0 v1 v2 : Value} {b : Nat} (h : DecAt w w2 lim v0 v1 v2) (hb : w.heap.size + 1 + 1 + 1 < b) (hs : Fr (It b) w2 w3) : DecAt w w3 lim v0 v1 v2 :=
  have hn : ∀ k, k ≤ w.heap.size + 1 + 1 + 1 → ¬ It b k := fun k hk e => by have : k = b := e; omega
  ⟨(hs.block _ (ltOf h.lim) (hn _ (by omega))).trans h.lim, (hs.block _ (ltOf h.v0) (hn _ (by omega))).trans h.v0, (hs.block _ (ltOf h.v1) (hn _ (by omega))).trans h.v1, (hs.block _ (ltOf h.v2) (hn _ (by omega))).trans h.v2, Fr.trans h.same hs (fun k hk e => by have : k = b := e; omega)⟩
set_option maxRecDepth 100000 in
set_option maxHeartbeats 2000000 in
theorem jdecode_err (s : Bytes) (lim : Lim) (hc : Cj s lim) (w : World) (m : Nat) (e : D6.Flt) (hrun : D6.loopN s lim m (0, ⟨0, [], []⟩) = some (.error e)) :
    Calls Tryd.prog 10 #[S s, limV lim] w fun r w' => r = .returned (.tuple #[.slice none 0 0, .int .i64 e.1, .int .i64 e.2]) ∧ Same w w' := by
  have hmf : ∀ (fn : Fn) (first cap : Array Value) (w : World), (Instr.makeFunc fn first cap).run Tryd.prog w = .ok (.func fn first cap) w := fun _ _ _ _ => rfl
  have hm : lim.may = true := hc.may
  have HI := Px.hid (And.intro hc (And.intro hrun True.intro))
  have hsz : (ByteArray.mk s.toArray).size = s.length := size_S s
  have hlen := hc.len
  clear hc hrun
  unfold limV
  go_enter_defers Tryd.func10, Tryd.ntmps10
  go_upto_region 1 with fail
  rw [show ((((w.alloc (.cells #[.int .i64 lim.d, .int .i64 lim.i, .int .i64 lim.b, .int .i64 lim.r] 23 (0, 0))).alloc (.cells #[.slice none 0 0] 25 (0, 0))).alloc (.cells #[.int .i64 0] 3 (0, 0))).alloc (.cells #[.int .i64 0] 26 (0, 0))) = World.dec w lim from rfl]
  have HD := Px.hid (dec_at w lim)
  have a0 := cellOf HD.out.lim 0 rfl
  have a1 := cellOf HD.out.lim 1 rfl
  have a2 := cellOf HD.out.lim 2 rfl
  have a3 := cellOf HD.out.lim 3 rfl
  go_wp2_with fail
  refine (derMay_any lim _).mono ?_
  rintro r w1 ⟨rfl, hsm⟩
  have HE := Px.hid (HD.out.keep hsm)
  clear a0 a1 a2 a3 hsm
  have a0 := cellOf HE.out.lim 0 rfl
  have a1 := cellOf HE.out.lim 1 rfl
  have a2 := cellOf HE.out.lim 2 rfl
  have a3 := cellOf HE.out.lim 3 rfl
  rw [hm]
  go_upto_region 5 with fail
  rw [show w1.alloc (.cells #[S s, .int .i64 lim.d, .int .i64 lim.i, .int .i64 lim.b, .int .i64 lim.r, .int .i64 0, .slice none 0 0, .slice none 0 0] 49 (0, 0)) = w1.alloc (.cells (jrCells s lim 0 (.slice none 0 0) (.slice none 0 0)) 49 (0, 0)) from rfl]
  obtain ⟨WX, hWX⟩ : ∃ WX, WX = w1.alloc (.cells (jrCells s lim 0 (.slice none 0 0) (.slice none 0 0)) 49 (0, 0)) := ⟨_, rfl⟩
  rw [← hWX]
  have HX := Px.hid (show JRep WX w1.heap.size s lim ⟨0, [], []⟩ (.slice none 0 0) (.slice none 0 0) [] ∧ Same w1 WX from by rw [hWX]; exact ⟨new_jr w1 s lim, (Same.refl w1).alloc _⟩)
  clear hWX a0 a1 a2 a3
  have hb : w.heap.size + 1 + 1 + 1 < w1.heap.size := ltOf HE.out.v2
  obtain ⟨b, hbe⟩ : ∃ b, w1.heap.size = b := ⟨_, rfl⟩
  have HBE := Px.hid hbe
  rw [hbe] at HX hb ⊢
  clear hbe
  go_wp2_with fail
  refine (jread_any s lim b _ _ _ [] WX HX.out.1 (new_jinv HI.out.1) m _ HI.out.2.1).mono ?_
  intro r w2 hpost
  unfold JRead at hpost
  obtain ⟨rfl, hf⟩ := hpost
  have HF := Px.hid (HE.out.fr (Fr.trans (HX.out.2.mono (fun _ e => e.elim)) hf (fun _ _ e => e)) (fun _ hk => by have := newj_foot hk; have := HBE.out; omega))
  clear hf
  unfold jpanics
  go_wp2
  refine leaves_cons (f := 19) (args := #[.pointer (some ⟨w.heap.size + 1, 0, none⟩), .pointer (some ⟨w.heap.size + 1 + 1, 0, none⟩), .pointer (some ⟨w.heap.size + 1 + 1 + 1, 0, none⟩)]) (by simp) (by simp [go_sem]) ?_
  refine (jcatch_flt (w.heap.size + 1) (w.heap.size + 1 + 1) (w.heap.size + 1 + 1 + 1) e _ _ _ [] _ (cellOf HF.out.v0 0 rfl) (cellOf HF.out.v1 0 rfl) (cellOf HF.out.v2 0 rfl) (freeOf HF.out.v0 0) (freeOf HF.out.v1 0) (freeOf HF.out.v2 0) (ltOf HF.out.v0) (ltOf HF.out.v1) (ltOf HF.out.v2) (by omega) (by omega) (by omega)).mono ?_
  rintro r u' w3 ⟨rfl, rfl, rfl⟩
  have hS := ((((HF.out.same.setCell (p := ⟨w.heap.size + 1, 0, none⟩) (.inr (by simp only; omega)) (.slice none 0 0)).setCell (p := ⟨w.heap.size + 1 + 1, 0, none⟩) (.inr (by simp only; omega)) (.int .i64 e.1)).setCell (p := ⟨w.heap.size + 1 + 1 + 1, 0, none⟩) (.inr (by simp only; omega)) (.int .i64 e.2)).alloc (.cells #[.int .i64 e.1, .int .i64 e.2] 44 (0, 0))).drew
  have HS := Px.hid hS
  have c0 := cellOf HF.out.v0 0 rfl
  have c1 := cellOf HF.out.v1 0 rfl
  have c2 := cellOf HF.out.v2 0 rfl
  have l0 := ltOf HF.out.v0
  have l1 := ltOf HF.out.v1
  have l2 := ltOf HF.out.v2
  clear hS
  simp [Leaves, settle, results, Tryd.results10, go_sem, c0, c1, c2, l0, l1, l2]
  exact HS.out
set_option maxRecDepth 100000 in
set_option maxHeartbeats 2000000 in
theorem jdecode_bad (s : Bytes) (lim : Lim) (hc : Cj s lim) (w : World) (m : Nat) (y : D6.Dx) (hrun : D6.loopN s lim m (0, ⟨0, [], []⟩) = some (.ok y)) (e : D6.Flt) (hres : D6.restN s lim (s.length + 1 - y.at_) y.at_ = .error e) :
    Calls Tryd.prog 10 #[S s, limV lim] w fun r w' => r = .returned (.tuple #[.slice none 0 0, .int .i64 e.1, .int .i64 e.2]) ∧ Same w w' := by
  have hmf : ∀ (fn : Fn) (first cap : Array Value) (w : World), (Instr.makeFunc fn first cap).run Tryd.prog w = .ok (.func fn first cap) w := fun _ _ _ _ => rfl
  have hm : lim.may = true := hc.may
  have HI := Px.hid (And.intro hc (And.intro hrun hres))
  have hsz : (ByteArray.mk s.toArray).size = s.length := size_S s
  have hlen := hc.len
  clear hc hrun hres
  unfold limV
  go_enter_defers Tryd.func10, Tryd.ntmps10
  go_upto_region 1 with fail
  rw [show ((((w.alloc (.cells #[.int .i64 lim.d, .int .i64 lim.i, .int .i64 lim.b, .int .i64 lim.r] 23 (0, 0))).alloc (.cells #[.slice none 0 0] 25 (0, 0))).alloc (.cells #[.int .i64 0] 3 (0, 0))).alloc (.cells #[.int .i64 0] 26 (0, 0))) = World.dec w lim from rfl]
  have HD := Px.hid (dec_at w lim)
  have a0 := cellOf HD.out.lim 0 rfl
  have a1 := cellOf HD.out.lim 1 rfl
  have a2 := cellOf HD.out.lim 2 rfl
  have a3 := cellOf HD.out.lim 3 rfl
  go_wp2_with fail
  refine (derMay_any lim _).mono ?_
  rintro r w1 ⟨rfl, hsm⟩
  have HE := Px.hid (HD.out.keep hsm)
  clear a0 a1 a2 a3 hsm
  have a0 := cellOf HE.out.lim 0 rfl
  have a1 := cellOf HE.out.lim 1 rfl
  have a2 := cellOf HE.out.lim 2 rfl
  have a3 := cellOf HE.out.lim 3 rfl
  rw [hm]
  go_upto_region 5 with fail
  rw [show w1.alloc (.cells #[S s, .int .i64 lim.d, .int .i64 lim.i, .int .i64 lim.b, .int .i64 lim.r, .int .i64 0, .slice none 0 0, .slice none 0 0] 49 (0, 0)) = w1.alloc (.cells (jrCells s lim 0 (.slice none 0 0) (.slice none 0 0)) 49 (0, 0)) from rfl]
  obtain ⟨WX, hWX⟩ : ∃ WX, WX = w1.alloc (.cells (jrCells s lim 0 (.slice none 0 0) (.slice none 0 0)) 49 (0, 0)) := ⟨_, rfl⟩
  rw [← hWX]
  have HX := Px.hid (show JRep WX w1.heap.size s lim ⟨0, [], []⟩ (.slice none 0 0) (.slice none 0 0) [] ∧ Same w1 WX from by rw [hWX]; exact ⟨new_jr w1 s lim, (Same.refl w1).alloc _⟩)
  clear hWX a0 a1 a2 a3
  have hb : w.heap.size + 1 + 1 + 1 < w1.heap.size := ltOf HE.out.v2
  obtain ⟨b, hbe⟩ : ∃ b, w1.heap.size = b := ⟨_, rfl⟩
  have HBE := Px.hid hbe
  rw [hbe] at HX hb ⊢
  clear hbe
  go_wp2_with fail
  refine (jread_any s lim b _ _ _ [] WX HX.out.1 (new_jinv HI.out.1) m _ HI.out.2.1).mono ?_
  intro r w2 hpost
  unfold JRead at hpost
  obtain ⟨rfl, ⟨zs, zo, pz, hz⟩, hyk⟩ := hpost
  obtain ⟨oa, oc, hzo, _⟩ := hz.rep.parts.out.len
  subst hzo
  have hzb : ∀ g, (Value.slice oa y.out.length oc).ownBlock = some g → w.heap.size + 1 + 1 + 1 < g := fun g hg => by
    rcases hz.fresh g (.inr (mem_jbl.2 (.inl hg))) with e | e
    · have := newj_foot e; omega
    · have := HX.out.2.size; have := HBE.out; omega
  have HZ := Px.hid (And.intro hz.rep (And.intro hyk (And.intro (HE.out.fr (Fr.trans (HX.out.2.mono (fun _ e => e.elim)) hz.fr (fun _ _ e => e)) (fun _ hk => by have := newj_foot hk; have := HBE.out; omega)) hzb)))
  clear hz hyk hzb
  go_wp2
  go_loopg [8] (s.length + 1 - y.at_) (fun gk _ wr => ∃ k, k ≤ min s.length lim.b.toNat ∧ gk = s.length + 1 - k ∧ JRep wr b s lim { y with at_ := k } zs (.slice oa y.out.length oc) pz ∧ Fr (It b) w2 wr ∧ D6.restN s lim gk k = .error e)
  case atStart => exact ⟨y.at_, HZ.out.2.1.al, rfl, HZ.out.1, Fr.refl _ _, HI.out.2.2⟩
  case round =>
    obtain ⟨k, hk, hgk, hj, hfr, hps⟩ := hrel
    obtain ⟨g', rfl⟩ : ∃ g', gk = g' + 1 := ⟨gk - 1, by omega⟩
    unfold D6.restN at hps
    have c5 : wr.cell? ⟨b, 5, none⟩ = some (.int .i64 (k : Nat)) := hj.jr.cells.2.2.2.2.1
    have HF := Px.hid (HZ.out.2.2.1.it hb hfr)
    have hctx := HI.out.1
    by_cases hkl : k < s.length
    · rw [if_pos hkl] at hps
      have hkl' : (k : Int) < s.length := by omega
      have hwk := wrap1 k (by omega)
      have HK := Px.hid (And.intro hj (And.intro hfr (And.intro hgk hkl)))
      obtain ⟨W, hW⟩ : ∃ W, D6.want s lim k = W := ⟨_, rfl⟩
      rw [hW] at hps
      cases W with
      | error e2 =>
        have HW := Px.hid (jwant_no b k s lim _ _ wr hj.jr e2 hW)
        simp only [Except.error.injEq] at hps
        subst hps
        clear hW hfr hgk hj hk hkl
        go_wp2_with fail
        refine HW.out.mono ?_
        rintro r w4 ⟨rfl, hs⟩
        have HF := Px.hid (HF.out.keep hs)
        clear hs c5
        unfold jpanics
        go_wp2
        refine leaves_cons (f := 19) (args := #[.pointer (some ⟨w.heap.size + 1, 0, none⟩), .pointer (some ⟨w.heap.size + 1 + 1, 0, none⟩), .pointer (some ⟨w.heap.size + 1 + 1 + 1, 0, none⟩)]) (by simp) (by simp [go_sem]) ?_
        refine (jcatch_flt (w.heap.size + 1) (w.heap.size + 1 + 1) (w.heap.size + 1 + 1 + 1) e2 _ _ _ [] _ (cellOf HF.out.v0 0 rfl) (cellOf HF.out.v1 0 rfl) (cellOf HF.out.v2 0 rfl) (freeOf HF.out.v0 0) (freeOf HF.out.v1 0) (freeOf HF.out.v2 0) (ltOf HF.out.v0) (ltOf HF.out.v1) (ltOf HF.out.v2) (by omega) (by omega) (by omega)).mono ?_
        rintro r u' w3 ⟨rfl, rfl, rfl⟩
        have hS := ((((HF.out.same.setCell (p := ⟨w.heap.size + 1, 0, none⟩) (.inr (by simp only; omega)) (.slice none 0 0)).setCell (p := ⟨w.heap.size + 1 + 1, 0, none⟩) (.inr (by simp only; omega)) (.int .i64 e2.1)).setCell (p := ⟨w.heap.size + 1 + 1 + 1, 0, none⟩) (.inr (by simp only; omega)) (.int .i64 e2.2)).alloc (.cells #[.int .i64 e2.1, .int .i64 e2.2] 44 (0, 0))).drew
        have HS := Px.hid hS
        have c0 := cellOf HF.out.v0 0 rfl
        have c1 := cellOf HF.out.v1 0 rfl
        have c2 := cellOf HF.out.v2 0 rfl
        have l0 := ltOf HF.out.v0
        have l1 := ltOf HF.out.v1
        have l2 := ltOf HF.out.v2
        clear hS
        simp [Leaves, settle, results, Tryd.results10, go_sem, c0, c1, c2, l0, l1, l2]
        exact HS.out
      | ok c =>
        have HW := Px.hid (jwant_yes b k s lim _ _ wr hj.jr c hW)
        have HKM := Px.hid (want_lt6 hW).1
        simp only at hps
        clear hW hfr hgk hj hk hkl
        cases hbl : R6.blank c with
        | true =>
          rw [if_pos hbl] at hps
          have HP := Px.hid hps
          have h4 : c = 32 ∨ c = 9 ∨ c = 10 ∨ c = 13 := by unfold R6.blank at hbl; simp only [Bool.or_eq_true, beq_iff_eq] at hbl; omega
          clear hps hbl
          rcases h4 with rfl | rfl | rfl | rfl
          all_goals
            go_wp2_with fail
            refine HW.out.mono ?_
            rintro r w4 ⟨rfl, hs⟩
            have h1 := HK.out.1.same hs
            have d5 : w4.cell? ⟨b, 5, none⟩ = some (.int .i64 (k : Nat)) := h1.jr.cells.2.2.2.2.1
            have f5 := h1.jr.free 5
            have H1 := Px.hid (And.intro (h1.it (h1.jr.move (k + 1)) (It.set _)) (It.trans (It.trans HK.out.2.1 (hs.it (b := b))) (It.set (b := b) (i := 5) (w := w4) (.int .i64 ((k + 1 : Nat) : Int)))))
            clear h1 hs c5
            go_wp2
            go_roundg g'
            case measure => omega
            case rel => exact ⟨k + 1, HKM.out, by have := HK.out.2.2.1; omega, H1.out.1, H1.out.2, HP.out⟩
        | false =>
          rw [if_neg (by rw [hbl]; decide)] at hps
          simp only [Except.error.injEq] at hps
          subst hps
          have hn : c ≠ 32 ∧ c ≠ 9 ∧ c ≠ 10 ∧ c ≠ 13 := by
            unfold R6.blank at hbl
            simp only [Bool.or_eq_false_iff, beq_eq_false_iff_ne] at hbl
            omega
          have n1 : ((c : Int) != 32) = true := by simp; omega
          have n2 : ((c : Int) != 9) = true := by simp; omega
          have n3 : ((c : Int) != 10) = true := by simp; omega
          have n4 : ((c : Int) != 13) = true := by simp; omega
          clear hbl hn
          go_wp2_with fail
          refine HW.out.mono ?_
          rintro r w4 ⟨rfl, hs⟩
          have HF := Px.hid (HF.out.keep hs)
          have d5 : w4.cell? ⟨b, 5, none⟩ = some (.int .i64 (k : Nat)) := (HK.out.1.same hs).jr.cells.2.2.2.2.1
          clear hs c5
          go_wp2_with fail
          refine (jwrong b _ _ _).mono ?_
          rintro r w5 ⟨rfl, rfl⟩
          unfold jpanics
          go_wp2
          refine leaves_cons (f := 19) (args := #[.pointer (some ⟨w.heap.size + 1, 0, none⟩), .pointer (some ⟨w.heap.size + 1 + 1, 0, none⟩), .pointer (some ⟨w.heap.size + 1 + 1 + 1, 0, none⟩)]) (by simp) (by simp [go_sem]) ?_
          refine (jcatch_flt (w.heap.size + 1) (w.heap.size + 1 + 1) (w.heap.size + 1 + 1 + 1) ((k : Int), (9 : Int)) _ _ _ [] _ (cellOf HF.out.v0 0 rfl) (cellOf HF.out.v1 0 rfl) (cellOf HF.out.v2 0 rfl) (freeOf HF.out.v0 0) (freeOf HF.out.v1 0) (freeOf HF.out.v2 0) (ltOf HF.out.v0) (ltOf HF.out.v1) (ltOf HF.out.v2) (by omega) (by omega) (by omega)).mono ?_
          rintro r u' w3 ⟨rfl, rfl, rfl⟩
          have hS := ((((HF.out.same.setCell (p := ⟨w.heap.size + 1, 0, none⟩) (.inr (by simp only; omega)) (.slice none 0 0)).setCell (p := ⟨w.heap.size + 1 + 1, 0, none⟩) (.inr (by simp only; omega)) (.int .i64 ((k : Int), (9 : Int)).1)).setCell (p := ⟨w.heap.size + 1 + 1 + 1, 0, none⟩) (.inr (by simp only; omega)) (.int .i64 ((k : Int), (9 : Int)).2)).alloc (.cells #[.int .i64 ((k : Int), (9 : Int)).1, .int .i64 ((k : Int), (9 : Int)).2] 44 (0, 0))).drew
          have HS := Px.hid hS
          have c0 := cellOf HF.out.v0 0 rfl
          have c1 := cellOf HF.out.v1 0 rfl
          have c2 := cellOf HF.out.v2 0 rfl
          have l0 := ltOf HF.out.v0
          have l1 := ltOf HF.out.v1
          have l2 := ltOf HF.out.v2
          clear hS
          simp [Leaves, settle, results, Tryd.results10, go_sem, c0, c1, c2, l0, l1, l2]
          exact HS.out
    · rw [if_neg hkl] at hps
      cases hps
set_option maxRecDepth 100000 in
set_option maxHeartbeats 2000000 in
theorem jdecode_ok (s : Bytes) (lim : Lim) (hc : Cj s lim) (w : World) (m : Nat) (y : D6.Dx) (hrun : D6.loopN s lim m (0, ⟨0, [], []⟩) = some (.ok y)) (hres : D6.restN s lim (s.length + 1 - y.at_) y.at_ = .ok ()) :
    Calls Tryd.prog 10 #[S s, limV lim] w fun r w' => ∃ vo, r = .returned (.tuple #[vo, .int .i64 0, .int .i64 0]) ∧ Owns w' 58 3 cVal vo y.out ∧ Same w w' ∧ ∀ g, vo.ownBlock = some g → w.heap.size ≤ g := by
  have hmf : ∀ (fn : Fn) (first cap : Array Value) (w : World), (Instr.makeFunc fn first cap).run Tryd.prog w = .ok (.func fn first cap) w := fun _ _ _ _ => rfl
  have hm : lim.may = true := hc.may
  have HI := Px.hid (And.intro hc (And.intro hrun hres))
  have hsz : (ByteArray.mk s.toArray).size = s.length := size_S s
  have hlen := hc.len
  clear hc hrun hres
  unfold limV
  go_enter_defers Tryd.func10, Tryd.ntmps10
  go_upto_region 1 with fail
  rw [show ((((w.alloc (.cells #[.int .i64 lim.d, .int .i64 lim.i, .int .i64 lim.b, .int .i64 lim.r] 23 (0, 0))).alloc (.cells #[.slice none 0 0] 25 (0, 0))).alloc (.cells #[.int .i64 0] 3 (0, 0))).alloc (.cells #[.int .i64 0] 26 (0, 0))) = World.dec w lim from rfl]
  have HD := Px.hid (dec_at w lim)
  have a0 := cellOf HD.out.lim 0 rfl
  have a1 := cellOf HD.out.lim 1 rfl
  have a2 := cellOf HD.out.lim 2 rfl
  have a3 := cellOf HD.out.lim 3 rfl
  go_wp2_with fail
  refine (derMay_any lim _).mono ?_
  rintro r w1 ⟨rfl, hsm⟩
  have HE := Px.hid (HD.out.keep hsm)
  clear a0 a1 a2 a3 hsm
  have a0 := cellOf HE.out.lim 0 rfl
  have a1 := cellOf HE.out.lim 1 rfl
  have a2 := cellOf HE.out.lim 2 rfl
  have a3 := cellOf HE.out.lim 3 rfl
  rw [hm]
  go_upto_region 5 with fail
  rw [show w1.alloc (.cells #[S s, .int .i64 lim.d, .int .i64 lim.i, .int .i64 lim.b, .int .i64 lim.r, .int .i64 0, .slice none 0 0, .slice none 0 0] 49 (0, 0)) = w1.alloc (.cells (jrCells s lim 0 (.slice none 0 0) (.slice none 0 0)) 49 (0, 0)) from rfl]
  obtain ⟨WX, hWX⟩ : ∃ WX, WX = w1.alloc (.cells (jrCells s lim 0 (.slice none 0 0) (.slice none 0 0)) 49 (0, 0)) := ⟨_, rfl⟩
  rw [← hWX]
  have HX := Px.hid (show JRep WX w1.heap.size s lim ⟨0, [], []⟩ (.slice none 0 0) (.slice none 0 0) [] ∧ Same w1 WX from by rw [hWX]; exact ⟨new_jr w1 s lim, (Same.refl w1).alloc _⟩)
  clear hWX a0 a1 a2 a3
  have hb : w.heap.size + 1 + 1 + 1 < w1.heap.size := ltOf HE.out.v2
  obtain ⟨b, hbe⟩ : ∃ b, w1.heap.size = b := ⟨_, rfl⟩
  have HBE := Px.hid hbe
  rw [hbe] at HX hb ⊢
  clear hbe
  go_wp2_with fail
  refine (jread_any s lim b _ _ _ [] WX HX.out.1 (new_jinv HI.out.1) m _ HI.out.2.1).mono ?_
  intro r w2 hpost
  unfold JRead at hpost
  obtain ⟨rfl, ⟨zs, zo, pz, hz⟩, hyk⟩ := hpost
  obtain ⟨oa, oc, hzo, _⟩ := hz.rep.parts.out.len
  subst hzo
  have hzb : ∀ g, (Value.slice oa y.out.length oc).ownBlock = some g → w.heap.size + 1 + 1 + 1 < g := fun g hg => by
    rcases hz.fresh g (.inr (mem_jbl.2 (.inl hg))) with e | e
    · have := newj_foot e; omega
    · have := HX.out.2.size; have := HBE.out; omega
  have HZ := Px.hid (And.intro hz.rep (And.intro hyk (And.intro (HE.out.fr (Fr.trans (HX.out.2.mono (fun _ e => e.elim)) hz.fr (fun _ _ e => e)) (fun _ hk => by have := newj_foot hk; have := HBE.out; omega)) hzb)))
  clear hz hyk hzb
  go_wp2
  go_loopg [8] (s.length + 1 - y.at_) (fun gk _ wr => ∃ k, k ≤ min s.length lim.b.toNat ∧ gk = s.length + 1 - k ∧ JRep wr b s lim { y with at_ := k } zs (.slice oa y.out.length oc) pz ∧ Fr (It b) w2 wr ∧ D6.restN s lim gk k = .ok ())
  case atStart => exact ⟨y.at_, HZ.out.2.1.al, rfl, HZ.out.1, Fr.refl _ _, HI.out.2.2⟩
  case round =>
    obtain ⟨k, hk, hgk, hj, hfr, hps⟩ := hrel
    obtain ⟨g', rfl⟩ : ∃ g', gk = g' + 1 := ⟨gk - 1, by omega⟩
    unfold D6.restN at hps
    have c5 : wr.cell? ⟨b, 5, none⟩ = some (.int .i64 (k : Nat)) := hj.jr.cells.2.2.2.2.1
    have HF := Px.hid (HZ.out.2.2.1.it hb hfr)
    have hctx := HI.out.1
    by_cases hkl : k < s.length
    · rw [if_pos hkl] at hps
      have hkl' : (k : Int) < s.length := by omega
      have hwk := wrap1 k (by omega)
      have HK := Px.hid (And.intro hj (And.intro hfr (And.intro hgk hkl)))
      obtain ⟨W, hW⟩ : ∃ W, D6.want s lim k = W := ⟨_, rfl⟩
      rw [hW] at hps
      cases W with
      | error e2 =>
        cases hps
      | ok c =>
        have HW := Px.hid (jwant_yes b k s lim _ _ wr hj.jr c hW)
        have HKM := Px.hid (want_lt6 hW).1
        simp only at hps
        clear hW hfr hgk hj hk hkl
        cases hbl : R6.blank c with
        | true =>
          rw [if_pos hbl] at hps
          have HP := Px.hid hps
          have h4 : c = 32 ∨ c = 9 ∨ c = 10 ∨ c = 13 := by unfold R6.blank at hbl; simp only [Bool.or_eq_true, beq_iff_eq] at hbl; omega
          clear hps hbl
          rcases h4 with rfl | rfl | rfl | rfl
          all_goals
            go_wp2_with fail
            refine HW.out.mono ?_
            rintro r w4 ⟨rfl, hs⟩
            have h1 := HK.out.1.same hs
            have d5 : w4.cell? ⟨b, 5, none⟩ = some (.int .i64 (k : Nat)) := h1.jr.cells.2.2.2.2.1
            have f5 := h1.jr.free 5
            have H1 := Px.hid (And.intro (h1.it (h1.jr.move (k + 1)) (It.set _)) (It.trans (It.trans HK.out.2.1 (hs.it (b := b))) (It.set (b := b) (i := 5) (w := w4) (.int .i64 ((k + 1 : Nat) : Int)))))
            clear h1 hs c5
            go_wp2
            go_roundg g'
            case measure => omega
            case rel => exact ⟨k + 1, HKM.out, by have := HK.out.2.2.1; omega, H1.out.1, H1.out.2, HP.out⟩
        | false =>
          rw [if_neg (by rw [hbl]; decide)] at hps
          cases hps
    · rw [if_neg hkl] at hps
      have hkl' : ¬ (k : Int) < s.length := by omega
      have c7 : wr.cell? ⟨b, 7, none⟩ = some (.slice oa y.out.length oc) := hj.jr.cells.2.2.2.2.2.2
      have c0 := cellOf HF.out.v0 0 rfl
      have c1 := cellOf HF.out.v1 0 rfl
      have c2 := cellOf HF.out.v2 0 rfl
      have f0 := freeOf HF.out.v0 0
      have f1 := freeOf HF.out.v1 0
      have f2 := freeOf HF.out.v2 0
      have l0 := ltOf HF.out.v0
      have l1 := ltOf HF.out.v1
      have l2 := ltOf HF.out.v2
      have HO := Px.hid hj.parts.out
      clear hj hfr hgk hk hkl hps
      go_wp2
      refine leaves_cons (f := 19) (args := #[.pointer (some ⟨w.heap.size + 1, 0, none⟩), .pointer (some ⟨w.heap.size + 1 + 1, 0, none⟩), .pointer (some ⟨w.heap.size + 1 + 1 + 1, 0, none⟩)]) (by simp) (by simp [go_sem]) ?_
      refine (jcatch_idle ⟨w.heap.size + 1, 0, none⟩ ⟨w.heap.size + 1 + 1, 0, none⟩ ⟨w.heap.size + 1 + 1 + 1, 0, none⟩ _).mono ?_
      rintro r u' w3 ⟨rfl, rfl, rfl⟩
      have hS := ((HF.out.same.setCell (p := ⟨w.heap.size + 1, 0, none⟩) (.inr (by simp only; omega)) (.slice oa y.out.length oc)).setCell (p := ⟨w.heap.size + 1 + 1, 0, none⟩) (.inr (by simp only; omega)) (.int .i64 0)).setCell (p := ⟨w.heap.size + 1 + 1 + 1, 0, none⟩) (.inr (by simp only; omega)) (.int .i64 0)
      have hO := ((HO.out.setCell (p := ⟨w.heap.size + 1, 0, none⟩) (fun e => by have := HZ.out.2.2.2 _ e; simp only at this; omega) (.slice oa y.out.length oc)).setCell (p := ⟨w.heap.size + 1 + 1, 0, none⟩) (fun e => by have := HZ.out.2.2.2 _ e; simp only at this; omega) (.int .i64 0)).setCell (p := ⟨w.heap.size + 1 + 1 + 1, 0, none⟩) (fun e => by have := HZ.out.2.2.2 _ e; simp only at this; omega) (.int .i64 0)
      have HS := Px.hid (And.intro hO hS)
      clear hS hO
      simp only [settle, Leaves]
      exact ⟨.tuple #[.slice oa y.out.length oc, .int .i64 0, .int .i64 0], by simp [results, Tryd.results10, go_sem, c0, c1, c2], _, rfl, HS.out.1, HS.out.2, fun g hg => by have := HZ.out.2.2.2 g hg; omega⟩
end Go.Proofs.YtahojodgmjmpnaaDoor

/-! The program's json.Decode at any bytes and any limits: it hands back what the reference's does. -/
namespace Go.Proofs.YtahojodgmjmpnaaDoor
open Go.RowKit Go.Px

/-- What a decoding hands back: a slice of its own, a place, an error. -/
def Gives (w : World) (d : List Val × Int × Int) (r : Ending) (w' : World) : Prop :=
  ∃ vo, r = .returned (.tuple #[vo, .int .i64 d.2.1, .int .i64 d.2.2]) ∧ Owns w' 58 3 cVal vo d.1 ∧ Same w w' ∧ ∀ g, vo.ownBlock = some g → w.heap.size ≤ g
theorem gives_nil {w w' : World} {r : Ending} {p e : Int} (hr : r = .returned (.tuple #[.slice none 0 0, .int .i64 p, .int .i64 e])) (hs : Same w w') : Gives w ([], p, e) r w' :=
  ⟨_, hr, owns_nil _ _ _ _, hs, fun g hg => by simp [Value.ownBlock] at hg⟩
theorem dec_no {s : Bytes} {lim : Lim} (hm : lim.may = false) : R6.decode s lim = ([], 0, 2) := by
  unfold R6.decode
  rw [if_neg (by rw [hm]; decide)]
theorem jdecode_any (s : Bytes) (lim : Lim) (hs : s.length ≤ 9223372036854775807) (w : World) :
    Calls Tryd.prog 10 #[S s, limV lim] w (Gives w (R6.decode s lim)) := by
  cases hm : lim.may with
  | false =>
    rw [dec_no hm]
    exact (jdecode_no s lim hm w).mono fun r w' ⟨h1, h2⟩ => gives_nil h1 h2
  | true =>
    have hc : Cj s lim := ⟨hs, hm⟩
    obtain ⟨m, r, h1, h2⟩ := D6.run_ref s lim hm
    rw [h2]
    cases hl : D6.loopN s lim m (0, ⟨0, [], []⟩) with
    | none =>
      unfold D6.run at h1
      rw [hl] at h1
      cases h1
    | some q =>
      have h3 := D6.run_of hl
      rw [h1] at h3
      cases h3
      cases q with
      | error e => exact (jdecode_err s lim hc w m e hl).mono fun r w' ⟨a, b⟩ => gives_nil a b
      | ok y =>
        unfold D6.rests
        simp only
        cases hr : D6.restN s lim (s.length + 1 - y.at_) y.at_ with
        | error e => exact (jdecode_bad s lim hc w m y hl e hr).mono fun r w' ⟨a, b⟩ => gives_nil a b
        | ok u => exact (jdecode_ok s lim hc w m y hl hr).mono fun r w' h => h
end Go.Proofs.YtahojodgmjmpnaaDoor
