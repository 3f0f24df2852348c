/-
  Several texts in one: How the program's der.reader lies in memory; the walks over its want.
-/
import Derived.Test.YtpfhollohodcjaaGreatDoorXB
import Derived.Test.YtpfhollohodcjaaGreatDoorXA
/-! How the program's der.reader lies in memory; the walks over its want. -/
namespace Go.Proofs.YtpfhollohodcjaaGreatDoor
open Go.RowKit Go.Px

def cNode (a : Px.Node) : List Value := [.int .u8 a.tag.toNat, .int .i64 a.kids, S a.body]
def cFm5 (x : D5.Fm) : List Value := [.int .u8 x.tag.toNat, .int .i64 (x.at_ : Nat), .int .i64 (x.end_ : Nat), .int .i64 (x.no : Nat), S x.last]
theorem cNode_len (a : Px.Node) : (cNode a).length = 3 := rfl
theorem cFm5_len (a : D5.Fm) : (cFm5 a).length = 5 := rfl
def drCells (s : Bytes) (lim : Lim) (a : Nat) (vs vo : Value) : Array Value := #[S s, .int .i64 lim.d, .int .i64 lim.i, .int .i64 lim.b, .int .i64 lim.r, .int .i64 (a : Nat), vs, vo]
structure DrRep (w : World) (b : Nat) (s : Bytes) (lim : Lim) (x : D5.Dx) (vs vo : Value) : Prop where
  blk : w.heap[b]? = some (.cells (drCells s lim x.at_ vs vo) 108 (0, 0))
  stack : Owns w 165 5 cFm5 vs x.stack.reverse
  out : Owns w 90 3 cNode vo x.out
  sb : Apart vs.ownBlock (some b)
  ob : Apart vo.ownBlock (some b)
  so : Apart vs.ownBlock vo.ownBlock
def dfoot (b : Nat) (vs vo : Value) (k : Nat) : Prop := k = b ∨ vs.ownBlock = some k ∨ vo.ownBlock = some k
def DrAt (w : World) (b : Nat) (s : Bytes) (lim : Lim) (x : D5.Dx) (F : Nat → Prop) : Prop := ∃ vs vo, DrRep w b s lim x vs vo ∧ F = dfoot b vs vo
section
variable {w w' : World} {b : Nat} {s : Bytes} {lim : Lim} {x : D5.Dx} {vs vo : Value}
theorem DrRep.cells (h : DrRep w b s lim x vs vo) : w.cell? ⟨b, 0, none⟩ = some (S s) ∧ w.cell? ⟨b, 1, none⟩ = some (.int .i64 lim.d) ∧ w.cell? ⟨b, 2, none⟩ = some (.int .i64 lim.i) ∧ w.cell? ⟨b, 3, none⟩ = some (.int .i64 lim.b) ∧
    w.cell? ⟨b, 5, none⟩ = some (.int .i64 (x.at_ : Nat)) ∧ w.cell? ⟨b, 6, none⟩ = some vs ∧ w.cell? ⟨b, 7, none⟩ = some vo :=
  ⟨cellOf h.blk 0 rfl, cellOf h.blk 1 rfl, cellOf h.blk 2 rfl, cellOf h.blk 3 rfl, cellOf h.blk 5 rfl, cellOf h.blk 6 rfl, cellOf h.blk 7 rfl⟩
theorem DrRep.free (h : DrRep w b s lim x vs vo) (i : Nat) : w.frozen? ⟨b, i, none⟩ = false := freeOf h.blk i
theorem DrRep.lt (h : DrRep w b s lim x vs vo) : b < w.heap.size := ltOf h.blk
theorem DrRep.footLt (h : DrRep w b s lim x vs vo) : ∀ k, dfoot b vs vo k → k < w.heap.size := by
  rintro k (rfl | hk | hk)
  · exact h.lt
  · exact h.stack.lt hk
  · exact h.out.lt hk
theorem DrRep.keep (h : DrRep w b s lim x vs vo) (hk : ∀ k, dfoot b vs vo k → w'.heap[k]? = w.heap[k]?) : DrRep w' b s lim x vs vo :=
  ⟨(hk b (.inl rfl)).trans h.blk, h.stack.keep (fun k e => hk k (.inr (.inl e))), h.out.keep (fun k e => hk k (.inr (.inr e))), h.sb, h.ob, h.so⟩
theorem DrRep.same (h : DrRep w b s lim x vs vo) (hs : Same w w') : DrRep w' b s lim x vs vo := h.keep fun k hk => hs.block k (h.footLt k hk) (fun x => x)
theorem DrRep.drewN (h : DrRep w b s lim x vs vo) (n : Nat) : DrRep (w.drewN n) b s lim x vs vo := h.keep fun _ _ => rfl
/-- The place moves on. -/
theorem DrRep.move (h : DrRep w b s lim x vs vo) (q : Nat) : DrRep (w.setCell ⟨b, 5, none⟩ (.int .i64 (q : Nat))) b s lim { x with at_ := q } vs vo :=
  ⟨by rw [heap_setCell_same w b 5 _ _ _ h.blk]; rfl, h.stack.setCell (p := ⟨b, 5, none⟩) h.sb.ne _, h.out.setCell (p := ⟨b, 5, none⟩) h.ob.ne _, h.sb, h.ob, h.so⟩
end

def fltV (e : D5.Flt) : Value := .iface 103 (.agg #[.int .i64 e.1, .int .i64 e.2])
/-- The call ends in the program's own panic. -/
def panics (e : D5.Flt) : Ending := .panicked [{ v := fltV e, recovered := false }]
end Go.Proofs.YtpfhollohodcjaaGreatDoor
