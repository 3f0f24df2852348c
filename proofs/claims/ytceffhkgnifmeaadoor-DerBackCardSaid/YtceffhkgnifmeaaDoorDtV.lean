/-
  The walk over the program's der.Decode.
-/
import Derived.Test.YtceffhkgnifmeaaDoorDsV
namespace Go.Proofs.YtceffhkgnifmeaaDoor
open Go.RowKit Go.Px

/-- Decode's first four blocks. -/
def World.dec (w : World) (lim : Lim) : World := ((((w.alloc (.cells #[.int .i64 lim.d, .int .i64 lim.i, .int .i64 lim.b, .int .i64 lim.r] 23 (0, 0))).alloc (.cells #[.slice none 0 0] 25 (0, 0))).alloc (.cells #[.int .i64 0] 3 (0, 0))).alloc (.cells #[.int .i64 0] 26 (0, 0)))
structure DecAt (w w1 : World) (lim : Lim) (v0 v1 v2 : Value) : Prop where
  lim : w1.heap[w.heap.size]? = some (.cells #[.int .i64 lim.d, .int .i64 lim.i, .int .i64 lim.b, .int .i64 lim.r] 23 (0, 0))
  v0 : w1.heap[w.heap.size + 1]? = some (.cells #[v0] 25 (0, 0))
  v1 : w1.heap[w.heap.size + 1 + 1]? = some (.cells #[v1] 3 (0, 0))
  v2 : w1.heap[w.heap.size + 1 + 1 + 1]? = some (.cells #[v2] 26 (0, 0))
  same : Same w w1
theorem dec_at (w : World) (lim : Lim) : DecAt w (World.dec w lim) lim (.slice none 0 0) (.int .i64 0) (.int .i64 0) := by
  refine ⟨?_, ?_, ?_, ?_, (((Same.refl w).alloc _).alloc _).alloc _ |>.alloc _⟩
  · exact (Below.heap_alloc _ _ _ (by simp <;> omega)).trans ((Below.heap_alloc _ _ _ (by simp <;> omega)).trans ((Below.heap_alloc _ _ _ (by simp)).trans (heap_alloc_new w _)))
  · refine (Below.heap_alloc _ _ _ (by simp <;> omega)).trans ((Below.heap_alloc _ _ _ (by simp)).trans ?_)
    have := heap_alloc_new (w.alloc (.cells #[.int .i64 lim.d, .int .i64 lim.i, .int .i64 lim.b, .int .i64 lim.r] 23 (0, 0))) (.cells #[.slice none 0 0] 25 (0, 0))
    simpa using this
  · refine (Below.heap_alloc _ _ _ (by simp)).trans ?_
    have := heap_alloc_new ((w.alloc (.cells #[.int .i64 lim.d, .int .i64 lim.i, .int .i64 lim.b, .int .i64 lim.r] 23 (0, 0))).alloc (.cells #[.slice none 0 0] 25 (0, 0))) (.cells #[.int .i64 0] 3 (0, 0))
    simpa using this
  · have := heap_alloc_new (((w.alloc (.cells #[.int .i64 lim.d, .int .i64 lim.i, .int .i64 lim.b, .int .i64 lim.r] 23 (0, 0))).alloc (.cells #[.slice none 0 0] 25 (0, 0))).alloc (.cells #[.int .i64 0] 3 (0, 0))) (.cells #[.int .i64 0] 26 (0, 0))
    simpa [World.dec] using this
theorem DecAt.keep {w w1 w2 : World} {lim : Lim} {v0 v1 v2 : Value} (h : DecAt w w1 lim v0 v1 v2) (hs : Same w1 w2) : DecAt w w2 lim v0 v1 v2 :=
  ⟨(hs.block _ (ltOf h.lim) (fun x => x)).trans h.lim, (hs.block _ (ltOf h.v0) (fun x => x)).trans h.v0, (hs.block _ (ltOf h.v1) (fun x => x)).trans h.v1, (hs.block _ (ltOf h.v2) (fun x => x)).trans h.v2, Fr.trans h.same hs (fun _ _ x => x)⟩
set_option maxRecDepth 100000 in
set_option maxHeartbeats 1000000 in
theorem decode_no (s : Bytes) (lim : Lim) (hm : lim.may = false) (w : World) :
    Calls Tryd.prog 14 #[S s, limV lim] w fun r w' => r = .returned (.tuple #[.slice none 0 0, .int .i64 0, .int .i64 2]) ∧ Same w w' := by
  have hmf : ∀ (fn : Fn) (first cap : Array Value) (w : World), (Instr.makeFunc fn first cap).run Tryd.prog w = .ok (.func fn first cap) w := fun _ _ _ _ => rfl
  unfold limV
  go_enter_defers Tryd.func14, Tryd.ntmps14
  go_upto_region 1 with fail
  rw [show ((((w.alloc (.cells #[.int .i64 lim.d, .int .i64 lim.i, .int .i64 lim.b, .int .i64 lim.r] 23 (0, 0))).alloc (.cells #[.slice none 0 0] 25 (0, 0))).alloc (.cells #[.int .i64 0] 3 (0, 0))).alloc (.cells #[.int .i64 0] 26 (0, 0))) = World.dec w lim from rfl]
  have HD := Px.hid (dec_at w lim)
  have a0 := cellOf HD.out.lim 0 rfl
  have a1 := cellOf HD.out.lim 1 rfl
  have a2 := cellOf HD.out.lim 2 rfl
  have a3 := cellOf HD.out.lim 3 rfl
  go_wp2_with fail
  refine (derMay_any lim _).mono ?_
  rintro e w1 ⟨rfl, hs⟩
  have HE := Px.hid (HD.out.keep hs)
  have b0 := cellOf HE.out.v0 0 rfl
  have b1 := cellOf HE.out.v1 0 rfl
  have b2 := cellOf HE.out.v2 0 rfl
  have f0 := freeOf HE.out.v0 0
  have f1 := freeOf HE.out.v1 0
  have f2 := freeOf HE.out.v2 0
  clear a0 a1 a2 a3 hs
  rw [hm]
  go_wp2
  have hS : Same w (((w1.setCell ⟨w.heap.size + 1, 0, none⟩ (.slice none 0 0)).setCell ⟨w.heap.size + 1 + 1, 0, none⟩ (.int .i64 0)).setCell ⟨w.heap.size + 1 + 1 + 1, 0, none⟩ (.int .i64 2)) :=
    ((HE.out.same.setCell (p := ⟨w.heap.size + 1, 0, none⟩) (.inr (by simp only; omega)) _).setCell (p := ⟨w.heap.size + 1 + 1, 0, none⟩) (.inr (by simp only; omega)) _).setCell (p := ⟨w.heap.size + 1 + 1 + 1, 0, none⟩) (.inr (by simp only; omega)) _
  have HS := Px.hid hS
  clear hS
  simp [bodyPostD, Leaves, results, Tryd.results14, go_sem, b0, b1, b2]
  exact HS.out
end Go.Proofs.YtceffhkgnifmeaaDoor
