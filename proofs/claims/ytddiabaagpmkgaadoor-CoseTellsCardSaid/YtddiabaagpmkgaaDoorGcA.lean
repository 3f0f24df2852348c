/-
  What the walks of layer 17 share with those of layer 20 (printed by mkc.py out of their templates): no table is asked.
-/
import Derived.Test.YtddiabaagpmkgaaDoorProg
import Derived.Test.YtddiabaagpmkgaaDoorHeap
import Derived.Test.YtddiabaagpmkgaaDoorAp
import Derived.Test.YtddiabaagpmkgaaDoorCborM
import Derived.WalkKit
import Derived.WalkLawsBesides
import Derived.WalkSpells
import Derived.Deep.QuietTactic
import Derived.BigQuiet
import Derived.Deep.RegionHeld3
import Derived.Deep.LoopGhost
import Derived.Deep.RegionLaw
import Derived.Deep.DeepCutAuto
namespace Go.Proofs.YtddiabaagpmkgaaDoor
open Go.RowKit Go.Px Go.Px.Cf
def cAtom (a : Atom) : List Value := [.int .i64 a.kind, .int .u64 a.num, S a.text]
theorem cAtom_len (a : Atom) : (cAtom a).length = 3 := rfl
theorem Tryd.sizeU8 (w : World) : (Go.sizeOf 5).run Tryd.prog w = .ok 1 w := by kernel_rfl
theorem Tryd.infoAtom : (Tryd.prog.info? 62).map (fun i => (i.zero, i.size, i.bytes)) = some (some (.agg #[.int .i64 0, .int .u64 0, .string ByteArray.empty]), 3, 32) := by kernel_rfl
theorem Tryd.infoU8 : (Tryd.prog.info? 5).map (fun i => (i.zero, i.size, i.bytes)) = some (some (.int .u8 0), 1, 1) := by kernel_rfl
def limV (l : Lim) : Value := .agg #[.int .i64 l.d, .int .i64 l.i, .int .i64 l.b, .int .i64 l.r]
/-- Nothing that was there has changed. -/
def Same (w w' : World) : Prop := Fr (fun _ => False) w w'
theorem Same.refl (w : World) : Same w w := Fr.refl _ w
theorem Same.trans {a b c : World} (h : Same a b) (k : Same b c) : Same a c := Fr.trans h k fun _ _ x => x
theorem Same.below {a b : World} (h : Same a b) : Below a.heap.size a b := ⟨h.os, h.tape, h.output, h.size, fun k hk => h.block k hk (fun x => x)⟩
theorem Same.fr {a b : World} (h : Same a b) (F : Nat → Prop) : Fr F a b := Fr.mono h fun _ x => x.elim
theorem Owns.same {α : Type} {w w' : World} {T sz : Nat} {c : α → List Value} {v : Value} {l : List α} (h : Owns w T sz c v l) (hs : Same w w') : Owns w' T sz c v l := h.fr hs (fun _ _ x => x)
theorem derMay_any (l : Lim) (w : World) : Calls Tryd.prog 35 #[limV l] w fun e w' => e = .returned (.bool l.may) ∧ Same w w' := by
  unfold limV
  go_enter Tryd.func35, Tryd.ntmps35
  go_wp2
  all_goals
    go_ret
    exact ⟨by (first | (simp [Lim.may, *]; done) | (simp [Lim.may, *]; omega)), (Fr.refl _ w).alloc _⟩
theorem refMay_any (l : Lim) (w : World) : Calls Tryd.prog 41 #[limV l] w fun e w' => e = .returned (.bool l.may) ∧ Same w w' := by
  unfold limV
  go_enter Tryd.func41, Tryd.ntmps41
  go_wp2
  all_goals
    go_ret
    exact ⟨by (first | (simp [Lim.may, *]; done) | (simp [Lim.may, *]; omega)), (Fr.refl _ w).alloc _⟩
theorem atom_one (l : List Atom) : ∀ u ∈ l.flatMap cAtom, u.oneCell' = true := by
  intro u hu
  simp only [List.mem_flatMap] at hu
  obtain ⟨a, _, hu⟩ := hu
  simp only [cAtom, List.mem_cons, List.not_mem_nil, or_false] at hu
  rcases hu with rfl | rfl | rfl <;> rfl
def most : Lim := ⟨32, 4096, 262144, 4096⟩
theorem most_any (w : World) : Calls Tryd.prog 16 #[] w fun e w' => e = .returned (limV most) ∧ Same w w' := by
  go_enter Tryd.func16, Tryd.ntmps16
  go_wp2
  exact bodyPost_ret (v := limV most) (by simp [results, Tryd.results16, go_sem, limV, most]) rfl ⟨rfl, (Fr.refl _ w).alloc _⟩
theorem Fr.toSame {F : Nat → Prop} {w w' : World} (h : Fr F w w') (hF : ∀ k, F k → w.heap.size ≤ k) : Same w w' :=
  ⟨h.os, h.tape, h.output, h.size, fun k hk _ => h.block k hk (fun x => by have := hF k x; omega)⟩
theorem most_may : most.may = true := by decide
/-- A block that holds limits. -/
def limObj (l : Lim) : Obj := .cells #[.int .i64 l.d, .int .i64 l.i, .int .i64 l.b, .int .i64 l.r] 23 (0, 0)
def LimIn (w0 w : World) (b : Nat) (l : Lim) : Prop := Same w0 w ∧ w.heap[b]? = some (limObj l)
theorem LimIn.same {w0 w w' : World} {b : Nat} {l : Lim} (h : LimIn w0 w b l) (hs : Same w w') : LimIn w0 w' b l := ⟨h.1.trans hs, (hs.block b (ltOf h.2) (fun x => x)).trans h.2⟩
theorem LimIn.boxed (w : World) (l : Lim) : LimIn w (w.alloc (.cells #[.int .i64 l.d, .int .i64 l.i, .int .i64 l.b, .int .i64 l.r] 23 (0, 0))) w.heap.size l := ⟨(Fr.refl _ w).alloc _, heap_alloc_new w _⟩
theorem LimIn.cells {w0 w : World} {b : Nat} {l : Lim} (h : LimIn w0 w b l) : w.cell? ⟨b, 0, none⟩ = some (.int .i64 l.d) ∧ w.cell? ⟨b, 1, none⟩ = some (.int .i64 l.i) ∧ w.cell? ⟨b, 2, none⟩ = some (.int .i64 l.b) ∧ w.cell? ⟨b, 3, none⟩ = some (.int .i64 l.r) :=
  ⟨cellOf h.2 0 rfl, cellOf h.2 1 rfl, cellOf h.2 2 rfl, cellOf h.2 3 rfl⟩
theorem app_S (a b : List UInt8) : (ByteArray.mk a.toArray) ++ (ByteArray.mk b.toArray) = ⟨(a ++ b).toArray⟩ := by
  apply ByteArray.ext
  simp
theorem Lies.same {α : Type} {w w' : World} {sz : Nat} {c : α → List Value} {v : Value} {l : List α} (h : Lies w sz c v l) (hs : Same w w') : Lies w' sz c v l :=
  ⟨h.slice, fun j x hj => by
    obtain ⟨b, off, cap, h1, h2, h3⟩ := h.cell j x hj
    exact ⟨b, off, cap, h1, Nat.lt_of_lt_of_le h2 hs.size, fun i u hu => (hs.cell (p := ⟨b, off + (j * sz + i), none⟩) h2 (fun x => x)).trans (h3 i u hu)⟩⟩
end Go.Proofs.YtddiabaagpmkgaaDoor
