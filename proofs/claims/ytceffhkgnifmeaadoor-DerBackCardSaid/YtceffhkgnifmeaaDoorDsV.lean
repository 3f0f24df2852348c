/-
  The walk over der.Decode's recovering closure.
-/
import Derived.Test.YtceffhkgnifmeaaDoorDqV
import Derived.Defers
import Derived.Recover
import Derived.Laws.Pointers
namespace Go.Proofs.YtceffhkgnifmeaaDoor
open Go.RowKit Go.Px

theorem catch_idle (p0 p1 p2 : Addr) (w : World) :
    CallsD Tryd.prog 29 #[.pointer (some p0), .pointer (some p1), .pointer (some p2)] .returning w fun e u' w' => e = .returned (.tuple #[]) ∧ u' = .returning ∧ w' = w := by
  refine callsD_of_wpS Tryd.func29 rfl fun c₀ cs hu => ?_
  simp only [Tryd.ntmps29, List.size_toArray, List.length_cons, List.length_nil, Nat.reduceAdd, Nat.reduceSub, Array.replicate_succ, Array.replicate_zero, List.push_toArray, List.append_toArray, List.nil_append, List.cons_append]
  apply wpS_seq
  apply wpS_region
  simp [wpOpsS, go_sem, recoverD, hu, Exit.thenS]
  refine wpS_of_wp ?_
  generalize hQ : (fun (e : Exit) (a' : Act) (w' : World) => bodyPostS _ _ c₀ cs _ e a' _ w') = Q
  go_wp2
  rw [← hQ]
  simp only [bodyPostS]
  exact ⟨trivial, .returning, by cases c₀; simp_all, .tuple #[], results_none rfl _ _ _, by simp⟩
@[go_sem] theorem as_flt (v : Value) (w : World) : (Instr.typeAssert (.iface 65 v) 20 65 true).run Tryd.prog w = .ok (.tuple #[v, .bool true]) w := by kernel_rfl
set_option maxRecDepth 100000 in
set_option maxHeartbeats 1000000 in
theorem catch_flt (g0 g1 g2 : Nat) (e : D5.Flt) (v0 v1 v2 : Value) (older : List PanicEntry) (w : World)
    (h0 : w.cell? ⟨g0, 0, none⟩ = some v0) (h1 : w.cell? ⟨g1, 0, none⟩ = some v1) (h2 : w.cell? ⟨g2, 0, none⟩ = some v2)
    (k0 : w.frozen? ⟨g0, 0, none⟩ = false) (k1 : w.frozen? ⟨g1, 0, none⟩ = false) (k2 : w.frozen? ⟨g2, 0, none⟩ = false) (l0 : g0 < w.heap.size) (l1 : g1 < w.heap.size) (l2 : g2 < w.heap.size) (h01 : g0 ≠ g1) (h02 : g0 ≠ g2) (h12 : g1 ≠ g2) :
    CallsD Tryd.prog 29 #[.pointer (some ⟨g0, 0, none⟩), .pointer (some ⟨g1, 0, none⟩), .pointer (some ⟨g2, 0, none⟩)] (.panicking ({ v := fltV e, recovered := false } :: older)) w fun r u' w' =>
      r = .returned (.tuple #[]) ∧ u' = .panicking ({ v := fltV e, recovered := true } :: older) ∧ w' = ((((w.setCell ⟨g0, 0, none⟩ (.slice none 0 0)).setCell ⟨g1, 0, none⟩ (.int .i64 e.1)).setCell ⟨g2, 0, none⟩ (.int .i64 e.2)).alloc (.cells #[.int .i64 e.1, .int .i64 e.2] 65 (0, 0))).drew := by
  refine callsD_of_wpS Tryd.func29 rfl fun c₀ cs hu => ?_
  unfold fltV at hu
  simp only [Tryd.ntmps29, List.size_toArray, List.length_cons, List.length_nil, Nat.reduceAdd, Nat.reduceSub, Array.replicate_succ, Array.replicate_zero, List.push_toArray, List.append_toArray, List.nil_append, List.cons_append]
  apply wpS_seq
  apply wpS_region
  simp [wpOpsS, go_sem, recoverD, hu, Exit.thenS]
  refine wpS_of_wp ?_
  generalize hQ : (fun (e : Exit) (a' : Act) (w' : World) => bodyPostS _ _ c₀ cs _ e a' _ w') = Q
  have n01 : ⟨g0, 0, none⟩ ≠ (⟨g1, 0, none⟩ : Addr) := fun e => h01 (by cases e; rfl)
  have n02 : ⟨g0, 0, none⟩ ≠ (⟨g2, 0, none⟩ : Addr) := fun e => h02 (by cases e; rfl)
  have n12 : ⟨g1, 0, none⟩ ≠ (⟨g2, 0, none⟩ : Addr) := fun e => h12 (by cases e; rfl)
  go_upto_region 5 with fail
  go_region
  rw [← hQ]
  simp only [bodyPostS]
  exact ⟨trivial, _, rfl, .tuple #[], results_none rfl _ _ _, by simp [fltV]⟩
end Go.Proofs.YtceffhkgnifmeaaDoor
