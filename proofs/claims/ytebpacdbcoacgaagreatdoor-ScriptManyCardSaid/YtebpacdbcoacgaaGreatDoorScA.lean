/-
  Ground for the walks of layer 27: what stands, blocks known whole, a Builder of the call's own.
-/
import Derived.Test.YtebpacdbcoacgaaGreatDoorHeap
import Derived.Test.YtebpacdbcoacgaaGreatDoorScS
import Derived.WalkKit
import Derived.WalkLawsBesides
import Derived.WalkSpells
import Derived.Deep.QuietTactic
import Derived.BigQuiet
import Derived.Deep.RegionHeld3
import Derived.Deep.LoopGhost
import Derived.Deep.RegionLaw
import Derived.Deep.DeepCutAuto
import Derived.Deep.RegionWith
import Derived.Lib.OthersKept
namespace Go.Px
open Go.RowKit
/-- Nothing that was there has changed. -/
def Same (w w' : World) : Prop := Fr (fun _ => False) w w'
theorem Same.refl (w : World) : Same w w := Fr.refl _ w
theorem Same.trans {a b c : World} (h : Same a b) (k : Same b c) : Same a c := Fr.trans h k fun _ _ x => x
theorem Same.below {a b : World} (h : Same a b) : Below a.heap.size a b := ⟨h.os, h.tape, h.output, h.size, fun k hk => h.block k hk (fun x => x)⟩
theorem Same.of {a b : World} (h : Below a.heap.size a b) : Same a b := Fr.below h
theorem Same.fr {a b : World} (h : Same a b) (F : Nat → Prop) : Fr F a b := Fr.mono h fun _ x => x.elim
/-- A block that is known whole. -/
def Blk (w : World) (b : Nat) (cs : Array Value) (T : TypeId) : Prop := w.heap[b]? = some (.cells cs T (0, 0))
section
variable {w : World} {b : Nat} {cs : Array Value} {T : TypeId}
theorem Blk.cell (h : Blk w b cs T) (i : Nat) {v : Value} (hv : cs[i]? = some v) : w.cell? ⟨b, i, none⟩ = some v := cellOf h i hv
theorem Blk.free (h : Blk w b cs T) (i : Nat) : w.frozen? ⟨b, i, none⟩ = false := freeOf h i
theorem Blk.lt (h : Blk w b cs T) : b < w.heap.size := ltOf h
theorem Blk.alloc (h : Blk w b cs T) (o : Obj) : Blk (w.alloc o) b cs T := (heap_alloc_old w o h.lt).trans h
theorem Blk.drew (h : Blk w b cs T) : Blk w.drew b cs T := h
theorem Blk.other (h : Blk w b cs T) {p : Addr} (u : Value) (hne : ¬ b = p.block) : Blk (w.setCell p u) b cs T := (heap_setCell_other w p b u hne).trans h
theorem Blk.set (h : Blk w b cs T) (o : Nat) (u : Value) : Blk (w.setCell ⟨b, o, none⟩ u) b (cs.setIfInBounds o u) T := heap_setCell_same w b o cs T u h
theorem Blk.fr {F : Nat → Prop} {w' : World} (h : Blk w b cs T) (hf : Fr F w w') (hn : ¬ F b) : Blk w' b cs T := (hf.block b h.lt hn).trans h
theorem Blk.sm {w' : World} (h : Blk w b cs T) (hf : Same w w') : Blk w' b cs T := h.fr hf (fun x => x)
theorem blk_new (w : World) (cs : Array Value) (T : TypeId) : Blk (w.alloc (.cells cs T (0, 0))) w.heap.size cs T := heap_alloc_new w _
end
/-- What a Builder in block b and its rows leave as it was. -/
structure Kp (b : Nat) (w w' : World) : Prop where
  bel : Below b w w'
  oth : Lib.OthersKept 5 (some b) w w'
theorem Kp.refl (b : Nat) (w : World) : Kp b w w := ⟨Below.refl _ _, Lib.OthersKept.refl _ _ _⟩
theorem Kp.trans {b : Nat} {w w1 w2 : World} (h : Kp b w w1) (k : Kp b w1 w2) : Kp b w w2 := ⟨h.bel.trans k.bel, h.oth.trans k.oth⟩
theorem Kp.sm {b : Nat} {w w1 : World} (h : Same w w1) (hb : b ≤ w.heap.size) : Kp b w w1 :=
  ⟨h.below.mono hb, fun k _ hk _ _ => (h.block k (ltOf hk) (fun x => x)).trans hk⟩
theorem Kp.blk {b k : Nat} {w w1 : World} {cs : Array Value} {T : TypeId} (h : Kp b w w1) (hk : Blk w k cs T) (hb : k ≠ b) (hT : T ≠ 5) : Blk w1 k cs T :=
  h.oth k _ hk (fun e => hb (Option.some.inj e)) (fun c fz e => hT (by injection e))
end Go.Px
namespace Go.Proofs.YtebpacdbcoacgaaGreatDoor
open Go.RowKit Go.Px
set_option maxRecDepth 100000 in
set_option maxHeartbeats 2000000 in
theorem copy_fresh (b : Nat) (w : World) (h0 : w.cell? ⟨b, 0, none⟩ = some (.pointer none)) (hsh : w.shape? b = some (37, 2)) (hfz : w.frozen? ⟨b, 0, none⟩ = false) :
    Calls Tryz.prog 30 #[.pointer (some ⟨b, 0, none⟩)] w fun e w' => e = .returned (.tuple #[]) ∧ w' = w.setCell ⟨b, 0, none⟩ (.pointer (some ⟨b, 0, none⟩)) := by
  obtain ⟨j, hj, hjs⟩ := Option.map_eq_some_iff.1 (show (Tryz.prog.info? 37).map (·.size) = some 2 by kernel_rfl)
  have hlies : liesAt Tryz.prog Tryz.prog.depth 37 (2 / Tryz.prog.cellsOf 37) 0 37 1 = true := by kernel_rfl
  have h1 := Lib.run_to_unsafe (P := Tryz.prog) w ⟨b, 0, none⟩ Tryz.underlying34 Tryz.underlying115 hj (by rw [hjs]; decide) hsh (Nat.zero_lt_succ 1)
  have h2 := Lib.run_from_unsafe (P := Tryz.prog) w ⟨b, 0, none⟩ Tryz.underlying115 Tryz.underlying34 hj hsh hlies
  have hi := hj
  clear hj hjs hlies hsh
  go_enter Tryz.func30, Tryz.ntmps30
  have h3 := Lib.run_neq_ptr_same (P := Tryz.prog) (w.setCell ⟨b, 0, none⟩ (.pointer (some ⟨b, 0, none⟩))) ⟨b, 0, none⟩ Tryz.underlying34 hi
  have c0 := World.cell?_setCell_same w ⟨b, 0, none⟩ (.pointer (some ⟨b, 0, none⟩)) h0
  go_wp2
  rw [run_callFunc_extern Tryz.func55 (by kernel_rfl) (by kernel_rfl) (by kernel_rfl) (e := Extern.AbiNoEscape.same) (by kernel_rfl)]
  rw [Lib.run_noEscape]
  simp only [Result.andThen]
  rw [Oper.upon_value]
  go_wp2
  go_end0
  exact ⟨rfl, rfl⟩
theorem copy_used (b : Nat) (w : World) (h0 : w.cell? ⟨b, 0, none⟩ = some (.pointer (some ⟨b, 0, none⟩))) :
    Calls Tryz.prog 30 #[.pointer (some ⟨b, 0, none⟩)] w fun e w' => e = .returned (.tuple #[]) ∧ w = w' := by
  obtain ⟨j, hj, hjs⟩ := Option.map_eq_some_iff.1 (show (Tryz.prog.info? 37).map (·.size) = some 2 by kernel_rfl)
  have h3 := Lib.run_neq_ptr_same (P := Tryz.prog) w ⟨b, 0, none⟩ Tryz.underlying34 hj
  clear hjs
  go_enter Tryz.func30, Tryz.ntmps30
  go_wp2
  go_end0
  exact ⟨rfl, rfl⟩
theorem copy_any (B b : Nat) (bs : List Value) (w : World) (h : Lib.IsBuilderF 37 5 B b bs w) :
    Calls Tryz.prog 30 #[.pointer (some ⟨b, 0, none⟩)] w fun e w' => e = .returned (.tuple #[]) ∧ Lib.BuilderAtF 37 5 B b (.pointer (some ⟨b, 0, none⟩)) bs w' ∧ Below B w w' ∧ Lib.OthersKept 5 (some b) w w' := by
  rcases h with h | h
  · refine (copy_fresh b w h.cell0 h.shape h.frozen0).mono ?_
    rintro e w' ⟨rfl, rfl⟩
    exact ⟨rfl, h.used _, (Below.refl B w).setCell (p := ⟨b, 0, none⟩) h.1 _, (Lib.OthersKept.refl _ _ w).setCell ⟨b, 0, none⟩ rfl _⟩
  · refine (copy_used b w h.cell0).mono ?_
    rintro e w' ⟨rfl, rfl⟩
    exact ⟨rfl, h, Below.refl B _, Lib.OthersKept.refl _ _ _⟩
end Go.Proofs.YtebpacdbcoacgaaGreatDoor
