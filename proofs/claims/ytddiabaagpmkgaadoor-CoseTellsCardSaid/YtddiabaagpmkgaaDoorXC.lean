/-
 Several texts in one: How the program's cbor.reader lies in memory; the walks over its want and take.
-/
import Derived.Test.YtddiabaagpmkgaaDoorXA
import Derived.Test.YtddiabaagpmkgaaDoorXA
import Derived.Test.YtddiabaagpmkgaaDoorGcB
import Derived.Test.YtddiabaagpmkgaaDoorXR
import Derived.Test.YtddiabaagpmkgaaDoorXA
import Derived.RegionTactic
/-! How the program's cbor.reader lies in memory; the walks over its want and take. -/
namespace Go.Proofs.YtddiabaagpmkgaaDoor
open Go.RowKit Go.Px

def cFm (x : D7.Fm) : List Value := [.int .i64 x.kind, .int .i64 (x.at_ : Nat), .int .u64 (x.left : Nat), S x.key, .bool x.any]
theorem cFm_len (a : D7.Fm) : (cFm a).length = 5 := rfl
def drCells (s : Bytes) (lim : Lim) (a : Nat) (vs vo : Value) : Array Value := #[S s, .int .i64 lim.d, .int .i64 lim.i, .int .i64 lim.b, .int .i64 lim.r, .int .i64 (a : Nat), vs, vo]
structure DrRep (w : World) (b : Nat) (s : Bytes) (lim : Lim) (x : D7.Dx) (vs vo : Value) : Prop where
 blk : w.heap[b]? = some (.cells (drCells s lim x.at_ vs vo) 83 (0, 0))
 stack : Owns w 108 5 cFm vs x.stack.reverse
 out : Owns w 62 3 cAtom vo x.out
 sb : Apart vs.ownBlock (some b)
 ob : Apart vo.ownBlock (some b)
 so : Apart vs.ownBlock vo.ownBlock
def dfoot (b : Nat) (vs vo : Value) (k : Nat) : Prop := k = b ∨ vs.ownBlock = some k ∨ vo.ownBlock = some k
def DrAt (w : World) (b : Nat) (s : Bytes) (lim : Lim) (x : D7.Dx) (F : Nat → Prop) : Prop := ∃ vs vo, DrRep w b s lim x vs vo ∧ F = dfoot b vs vo
section
variable {w w' : World} {b : Nat} {s : Bytes} {lim : Lim} {x : D7.Dx} {vs vo : Value}
theorem DrRep.cells (h : DrRep w b s lim x vs vo) : w.cell? ⟨b, 0, none⟩ = some (S s) ∧ w.cell? ⟨b, 1, none⟩ = some (.int .i64 lim.d) ∧ w.cell? ⟨b, 2, none⟩ = some (.int .i64 lim.i) ∧ w.cell? ⟨b, 3, none⟩ = some (.int .i64 lim.b) ∧
  w.cell? ⟨b, 5, none⟩ = some (.int .i64 (x.at_ : Nat)) ∧ w.cell? ⟨b, 6, none⟩ = some vs ∧ w.cell? ⟨b, 7, none⟩ = some vo :=
 ⟨cellOf h.blk 0 rfl, cellOf h.blk 1 rfl, cellOf h.blk 2 rfl, cellOf h.blk 3 rfl, cellOf h.blk 5 rfl, cellOf h.blk 6 rfl, cellOf h.blk 7 rfl⟩
theorem DrRep.free (h : DrRep w b s lim x vs vo) (i : Nat) : w.frozen? ⟨b, i, none⟩ = false := freeOf h.blk i
theorem DrRep.lt (h : DrRep w b s lim x vs vo) : b < w.heap.size := ltOf h.blk
theorem DrRep.footLt (h : DrRep w b s lim x vs vo) : ∀ k, dfoot b vs vo k → k < w.heap.size := by
 rintro k (rfl | hk | hk)
 ·exact h.lt
 ·exact h.stack.lt hk
 ·exact h.out.lt hk
theorem DrRep.keep (h : DrRep w b s lim x vs vo) (hk : ∀ k, dfoot b vs vo k → w'.heap[k]? = w.heap[k]?) : DrRep w' b s lim x vs vo :=
 ⟨(hk b (.inl rfl)).trans h.blk, h.stack.keep (fun k e => hk k (.inr (.inl e))), h.out.keep (fun k e => hk k (.inr (.inr e))), h.sb, h.ob, h.so⟩
theorem DrRep.same (h : DrRep w b s lim x vs vo) (hs : Same w w') : DrRep w' b s lim x vs vo := h.keep fun k hk => hs.block k (h.footLt k hk) (fun x => x)
theorem DrRep.drewN (h : DrRep w b s lim x vs vo) (n : Nat) : DrRep (w.drewN n) b s lim x vs vo := h.keep fun _ _ => rfl
/-- The place moves on. -/
theorem DrRep.move (h : DrRep w b s lim x vs vo) (q : Nat) : DrRep (w.setCell ⟨b, 5, none⟩ (.int .i64 (q : Nat))) b s lim { x with at_ := q } vs vo :=
 ⟨by rw [heap_setCell_same w b 5 _ _ _ h.blk]; rfl, h.stack.setCell (p := ⟨b, 5, none⟩) h.sb.ne _, h.out.setCell (p := ⟨b, 5, none⟩) h.ob.ne _, h.sb, h.ob, h.so⟩
end

def fltV (e : D7.Flt) : Value := .iface 78 (.agg #[.int .i64 e.1, .int .i64 e.2])
/-- The call ends in the program's own panic. -/
def panics (e : D7.Flt) : Ending := .panicked [{ v := fltV e, recovered := false }]

theorem dwant_no (b p : Nat) (s : Bytes) (lim : Lim) (x : D7.Dx) (vs vo : Value) (w : World) (h : DrRep w b s lim x vs vo) (e : D7.Flt) (he : D7.want s lim p = .error e) :
  Calls Tryd.prog 38 #[.pointer (some ⟨b, 0, none⟩), .int .i64 (p : Nat)] w fun r w' => r = panics e ∧ w' = w := by
 have hsz : (ByteArray.mk s.toArray).size = s.length := size_S s
 obtain ⟨c0, _, _, c3, _, _, _⟩ := h.cells
 clear h
 unfold D7.want at he
 by_cases h1 : s.length ≤ p
 ·rw [if_pos h1] at he
  simp only [Except.error.injEq] at he
  subst he
  have hz : (s.length : Int) ≤ (p : Int) := by omega
  go_enter Tryd.func38, Tryd.ntmps38
  go_wp2
  exact ⟨rfl, rfl, rfl⟩
 ·rw [if_neg h1] at he
  have hz : ¬ (s.length : Int) ≤ (p : Int) := by omega
  by_cases h2 : lim.b ≤ p
  ·rw [if_pos h2] at he
   simp only [Except.error.injEq] at he
   subst he
   go_enter Tryd.func38, Tryd.ntmps38
   go_wp2
   exact ⟨rfl, rfl, rfl⟩
  ·rw [if_neg h2] at he; cases he
theorem dwant_yes (b p : Nat) (s : Bytes) (lim : Lim) (x : D7.Dx) (vs vo : Value) (w : World) (h : DrRep w b s lim x vs vo) (c : Nat) (he : D7.want s lim p = .ok c) :
  Calls Tryd.prog 38 #[.pointer (some ⟨b, 0, none⟩), .int .i64 (p : Nat)] w fun r w' => r = .returned (.int .u8 (c : Nat)) ∧ w' = w := by
 have hsz : (ByteArray.mk s.toArray).size = s.length := size_S s
 obtain ⟨c0, _, _, c3, _, _, _⟩ := h.cells
 clear h
 unfold D7.want at he
 by_cases h1 : s.length ≤ p
 ·rw [if_pos h1] at he; cases he
 ·rw [if_neg h1] at he
  have hz : ¬ (s.length : Int) ≤ (p : Int) := by omega
  by_cases h2 : lim.b ≤ p
  ·rw [if_pos h2] at he; cases he
  ·rw [if_neg h2] at he
   simp only [Except.ok.injEq] at he
   have hix : ∀ w, (Instr.index 9 (S s) (.int .i64 (p : Nat))).run Tryd.prog w = .ok (.int .u8 (c : Nat)) w := fun w => by rw [← he]; exact idx_S s p (by omega) w
   clear he
   go_enter Tryd.func38, Tryd.ntmps38
   go_wp2
   go_ret
   exact ⟨rfl, rfl⟩
theorem least_int (a c : Int) (w : World) : Calls Tryd.prog 85 #[.int .i64 a, .int .i64 c] w fun r w' => r = .returned (.int .i64 (min a c)) ∧ w' = w := by
 by_cases h : a < c
 ·have e : min a c = a := by omega
  have H := Px.hid e
  clear e
  go_enter Tryd.func85, Tryd.ntmps85
  go_wp2
  go_ret
  rw [H.out]; exact ⟨rfl, rfl⟩
 ·have e : min a c = c := by omega
  have H := Px.hid e
  clear e
  go_enter Tryd.func85, Tryd.ntmps85
  go_wp2
  go_ret
  rw [H.out]; exact ⟨rfl, rfl⟩
theorem least_u64 (a c : Int) (w : World) : Calls Tryd.prog 73 #[.int .u64 a, .int .u64 c] w fun r w' => r = .returned (.int .u64 (min a c)) ∧ w' = w := by
 by_cases h : a < c
 ·have e : min a c = a := by omega
  have H := Px.hid e
  clear e
  go_enter Tryd.func73, Tryd.ntmps73
  go_wp2
  go_ret
  rw [H.out]; exact ⟨rfl, rfl⟩
 ·have e : min a c = c := by omega
  have H := Px.hid e
  clear e
  go_enter Tryd.func73, Tryd.ntmps73
  go_wp2
  go_ret
  rw [H.out]; exact ⟨rfl, rfl⟩

set_option maxRecDepth 100000 in
set_option maxHeartbeats 2000000 in
theorem dtake_no (b n : Nat) (s : Bytes) (lim : Lim) (x : D7.Dx) (vs vo : Value) (w : World) (h : DrRep w b s lim x vs vo) (hs : s.length ≤ 140737488355327) (hb : 1 ≤ lim.b) (hb2 : lim.b ≤ 262144) (hp : x.at_ ≤ s.length) (hpb : (x.at_ : Int) ≤ lim.b) (e : D7.Flt) (he : D7.take s lim x.at_ n = .error e) :
  Calls Tryd.prog 71 #[.pointer (some ⟨b, 0, none⟩), .int .u64 (n : Nat)] w fun r w' => r = panics e ∧ Same w w' := by
 obtain ⟨hrm, hwe⟩ : D7.room s lim x.at_ < n ∧ D7.want s lim (x.at_ + D7.room s lim x.at_) = .error e := by
  unfold D7.take at he
  by_cases hc : D7.room s lim x.at_ < n
  ·rw [if_pos hc] at he
   refine ⟨hc, ?_⟩
   cases hw : D7.want s lim (x.at_ + D7.room s lim x.at_) with
   | error e2 => rw [hw] at he; simpa using he
   | ok c => rw [hw] at he; simp at he
  ·rw [if_neg hc] at he; cases he
 obtain ⟨rm, hr⟩ : ∃ rm, rm = D7.room s lim x.at_ := ⟨_, rfl⟩
 rw [← hr] at hrm hwe
 have hmin : min (s.length : Int) lim.b - (x.at_ : Int) = (rm : Int) := by rw [hr]; unfold D7.room; omega
 have hrb : rm ≤ 262144 := by rw [hr]; unfold D7.room; omega
 have hsz : (ByteArray.mk s.toArray).size = s.length := size_S s
 obtain ⟨c0, c1, c2, c3, c5, c6, c7⟩ := h.cells
 have hrz : (rm : Int) < (n : Int) := by omega
 have H := Px.hid (And.intro h hwe)
 have hmm : IntKind.i64.wrap (min (s.length : Int) lim.b - (x.at_ : Int)) = (rm : Int) := by rw [hmin]; exact IntWalk.i64_in _ ⟨by omega, by omega⟩
 have hconv : IntKind.u64.wrap (rm : Int) = (rm : Int) := IntWalk.u64_in _ ⟨by omega, by omega⟩
 have hconv2 : IntKind.i64.wrap (rm : Int) = (rm : Int) := IntWalk.i64_in _ ⟨by omega, by omega⟩
 have hap : ((x.at_ + rm : Nat) : Int) = (x.at_ : Int) + rm := by omega
 have hsum : IntKind.i64.wrap ((x.at_ : Int) + rm) = (x.at_ : Int) + rm := IntWalk.i64_in _ ⟨by omega, by omega⟩
 have HAP := Px.hid hap
 clear h he hwe hr hap hrm
 go_enter Tryd.func71, Tryd.ntmps71
 go_wp2_with fail
 go_quiet ((go_at_call 85; exact Calls.quiet_of_same (least_int _ _ _)))
 have HX := Px.hid (H.out.1.drewN nq)
 clear c0 c1 c2 c3 c6 c7
 go_wp2_with fail
 have hw := dwant_no b (x.at_ + rm) s lim x vs vo (w.drewN nq) HX.out e H.out.2
 rw [HAP.out] at hw
 refine hw.mono ?_
 clear hw
 rintro r w1 ⟨rfl, rfl⟩
 unfold panics
 go_wp2
 exact ⟨rfl, rfl, (Same.refl w).drewN nq⟩

set_option maxRecDepth 100000 in
set_option maxHeartbeats 2000000 in
theorem dtake_yes (b n : Nat) (s : Bytes) (lim : Lim) (x : D7.Dx) (vs vo : Value) (w : World) (h : DrRep w b s lim x vs vo) (hs : s.length ≤ 140737488355327) (hb : 1 ≤ lim.b) (hb2 : lim.b ≤ 262144) (hp : x.at_ ≤ s.length) (hpb : (x.at_ : Int) ≤ lim.b) (t : Bytes) (he : D7.take s lim x.at_ n = .ok t) (hn : ¬ D7.room s lim x.at_ < n) :
  Calls Tryd.prog 71 #[.pointer (some ⟨b, 0, none⟩), .int .u64 (n : Nat)] w fun r w' => r = .returned (S t) ∧ DrRep w' b s lim { x with at_ := x.at_ + n } vs vo ∧ Fr (It b) w w' := by
 obtain ⟨rm, hr⟩ : ∃ rm, rm = D7.room s lim x.at_ := ⟨_, rfl⟩
 have ht : (s.take (x.at_ + n)).drop x.at_ = t := by unfold D7.take at he; rw [if_neg hn] at he; simpa using he
 rw [← hr] at hn
 have hmin : min (s.length : Int) lim.b - (x.at_ : Int) = (rm : Int) := by rw [hr]; unfold D7.room; omega
 have hrb : rm ≤ 262144 := by rw [hr]; unfold D7.room; omega
 have hfit : x.at_ + n ≤ s.length := by unfold D7.room at hr; omega
 have hsz : (ByteArray.mk s.toArray).size = s.length := size_S s
 obtain ⟨c0, c1, c2, c3, c5, c6, c7⟩ := h.cells
 have f5 := h.free 5
 have hrz : ¬ (rm : Int) < (n : Int) := by omega
 have H := Px.hid h
 have hmm : IntKind.i64.wrap (min (s.length : Int) lim.b - (x.at_ : Int)) = (rm : Int) := by rw [hmin]; exact IntWalk.i64_in _ ⟨by omega, by omega⟩
 have hconv : IntKind.u64.wrap (rm : Int) = (rm : Int) := IntWalk.u64_in _ ⟨by omega, by omega⟩
 have hconv2 : IntKind.i64.wrap (n : Int) = (n : Int) := IntWalk.i64_in _ ⟨by omega, by omega⟩
 have hap : ((x.at_ + n : Nat) : Int) = (x.at_ : Int) + n := by omega
 have hsum : IntKind.i64.wrap ((x.at_ : Int) + n) = (x.at_ : Int) + n := IntWalk.i64_in _ ⟨by omega, by omega⟩
 have hsl : ∀ w, (Instr.slice 9 (S s) (some (.int .i64 (x.at_ : Int))) (some (.int .i64 ((x.at_ : Int) + n))) none).run Tryd.prog w = .ok (S t) w := fun w => by
  have := slice_S s x.at_ (x.at_ + n) (by omega) hfit w
  rw [hap, ht] at this
  exact this
 have hz0 : (0 : Int) ≤ (x.at_ : Int) + n := by omega
 have HM := fun W (hh : DrRep W b s lim x vs vo) => hh.move (x.at_ + n)
 rw [hap] at HM
 have HM := Px.hid HM
 clear h he hr hap hmin ht
 go_enter Tryd.func71, Tryd.ntmps71
 go_wp2_with fail
 go_quiet ((go_at_call 85; exact Calls.quiet_of_same (least_int _ _ _)))
 go_wp2_with fail
 go_quiet (fail)
 go_wp2
 go_ret
 refine ⟨rfl, HM.out _ ((H.out.drewN _)), ?_⟩
 exact ((Fr.refl (It b) w).drewN _).setCell (p := ⟨b, 5, none⟩) (.inl rfl) _

end Go.Proofs.YtddiabaagpmkgaaDoor
