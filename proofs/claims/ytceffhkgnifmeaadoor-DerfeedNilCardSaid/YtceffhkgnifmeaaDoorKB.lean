/-
  Several texts in one: How a derfeed.Feed lies in memory (FeedRep), and what becomes of that under stores and appends. The walks over derfeed's wrong, ended and settle. The walk over derfeed's settle. The walk over derfeed's whole. The walk over derfeed's begun.
-/
import Derived.Test.YtceffhkgnifmeaaDoorProg
import Derived.Test.YtceffhkgnifmeaaDoorDgV
import Derived.Test.YtceffhkgnifmeaaDoorKA
import Derived.WalkKit
import Derived.WalkLawsBesides
import Derived.WalkSpells
import Derived.Deep.QuietTactic
import Derived.BigQuiet
import Derived.Deep.RegionHeld3
import Derived.Deep.LoopGhost
import Derived.Laws.EntriesVeiled
import Derived.Test.YtceffhkgnifmeaaDoorKF
import Derived.Deep.RegionLaw
import Derived.Deep.DeepCutAuto
/-! How a derfeed.Feed lies in memory (FeedRep), and what becomes of that under stores and appends. -/
namespace Go.Proofs.YtceffhkgnifmeaaDoor
open Go.RowKit Go.Px

def cFrame (x : D5.Fm) : List Value := [.int .u8 x.tag.toNat, .int .i64 (x.at_ : Nat), .int .i64 (x.end_ : Nat), .int .i64 (x.no : Nat), S x.last]
theorem cFrame_len (a : D5.Fm) : (cFrame a).length = 5 := rfl
/-- A method of the feed as a value. -/
def metV (b k : Nat) : Value := .func (.func k) #[.pointer (some ⟨b, 0, none⟩)] #[]
/-- What the feed waits for, as a value. -/
def waitV (b : Nat) : Nat → Value
  | 0 => metV b 41
  | 1 => metV b 52
  | 2 => metV b 61
  | 3 => metV b 64
  | _ => .nilFunc

def feedCells (b : Nat) (f : F5.Feed) (vt vo vs : Value) : Array Value := #[.int .i64 f.lim.d, .int .i64 f.lim.i, .int .i64 f.lim.b, .int .i64 f.lim.r, vt, vo, vs, waitV b f.next,
  .int .u8 f.tag.toNat, .int .i64 (f.place : Nat), .int .i64 (f.number : Nat), .int .i64 (f.more : Nat), .int .i64 f.err, .int .i64 f.at_]

structure FeedRep (w : World) (b : Nat) (f : F5.Feed) (vt vo vs : Value) : Prop where
  blk : w.heap[b]? = some (.cells (feedCells b f vt vo vs) 60 (0, 0))
  text : Owns w 5 1 cByte vt f.text
  out : Owns w 63 3 cNode vo f.out
  stack : Owns w 111 5 cFrame vs f.stack.reverse
  tb : Apart vt.ownBlock (some b)
  ob : Apart vo.ownBlock (some b)
  sb : Apart vs.ownBlock (some b)
  tu : Apart vt.ownBlock vo.ownBlock
  ts : Apart vt.ownBlock vs.ownBlock
  os : Apart vo.ownBlock vs.ownBlock

def foot (b : Nat) (vt vo vs : Value) (k : Nat) : Prop := k = b ∨ vt.ownBlock = some k ∨ vo.ownBlock = some k ∨ vs.ownBlock = some k
def FeedAt (w : World) (b : Nat) (f : F5.Feed) (F : Nat → Prop) : Prop := ∃ vt vo vs, FeedRep w b f vt vo vs ∧ F = foot b vt vo vs

section
variable {w w' : World} {b : Nat} {f : F5.Feed} {vt vo vs : Value}

theorem FeedRep.cells (h : FeedRep w b f vt vo vs) :
    w.cell? ⟨b, 0, none⟩ = some (.int .i64 f.lim.d) ∧ w.cell? ⟨b, 1, none⟩ = some (.int .i64 f.lim.i) ∧ w.cell? ⟨b, 2, none⟩ = some (.int .i64 f.lim.b) ∧
    w.cell? ⟨b, 3, none⟩ = some (.int .i64 f.lim.r) ∧ w.cell? ⟨b, 4, none⟩ = some vt ∧ w.cell? ⟨b, 5, none⟩ = some vo ∧ w.cell? ⟨b, 6, none⟩ = some vs ∧
    w.cell? ⟨b, 7, none⟩ = some (waitV b f.next) ∧ w.cell? ⟨b, 8, none⟩ = some (.int .u8 f.tag.toNat) ∧ w.cell? ⟨b, 9, none⟩ = some (.int .i64 (f.place : Nat)) ∧
    w.cell? ⟨b, 10, none⟩ = some (.int .i64 (f.number : Nat)) ∧ w.cell? ⟨b, 11, none⟩ = some (.int .i64 (f.more : Nat)) ∧
    w.cell? ⟨b, 12, none⟩ = some (.int .i64 f.err) ∧ w.cell? ⟨b, 13, none⟩ = some (.int .i64 f.at_) :=
  ⟨cellOf h.blk 0 rfl, cellOf h.blk 1 rfl, cellOf h.blk 2 rfl, cellOf h.blk 3 rfl, cellOf h.blk 4 rfl, cellOf h.blk 5 rfl, cellOf h.blk 6 rfl, cellOf h.blk 7 rfl, cellOf h.blk 8 rfl,
   cellOf h.blk 9 rfl, cellOf h.blk 10 rfl, cellOf h.blk 11 rfl, cellOf h.blk 12 rfl, cellOf h.blk 13 rfl⟩
theorem FeedRep.free (h : FeedRep w b f vt vo vs) (i : Nat) : w.frozen? ⟨b, i, none⟩ = false := freeOf h.blk i
theorem FeedRep.lt (h : FeedRep w b f vt vo vs) : b < w.heap.size := ltOf h.blk
theorem FeedRep.footLt (h : FeedRep w b f vt vo vs) : ∀ k, foot b vt vo vs k → k < w.heap.size := by
  rintro k (rfl | hk | hk | hk)
  · exact h.lt
  · exact h.text.lt hk
  · exact h.out.lt hk
  · exact h.stack.lt hk

theorem FeedRep.keep (h : FeedRep w b f vt vo vs) (hk : ∀ k, foot b vt vo vs k → w'.heap[k]? = w.heap[k]?) : FeedRep w' b f vt vo vs :=
  ⟨(hk b (.inl rfl)).trans h.blk, h.text.keep (fun k e => hk k (.inr (.inl e))), h.out.keep (fun k e => hk k (.inr (.inr (.inl e)))), h.stack.keep (fun k e => hk k (.inr (.inr (.inr e)))), h.tb, h.ob, h.sb, h.tu, h.ts, h.os⟩
theorem FeedRep.fr (h : FeedRep w b f vt vo vs) {F : Nat → Prop} (hf : Fr F w w') (hd : ∀ k, foot b vt vo vs k → ¬ F k) : FeedRep w' b f vt vo vs :=
  h.keep fun k hk => hf.block k (h.footLt k hk) (hd k hk)
theorem FeedRep.alloc (h : FeedRep w b f vt vo vs) (o : Obj) : FeedRep (w.alloc o) b f vt vo vs := h.keep fun k hk => Below.heap_alloc w o k (h.footLt k hk)
theorem FeedRep.same (h : FeedRep w b f vt vo vs) (hs : Same w w') : FeedRep w' b f vt vo vs := h.keep fun k hk => hs.block k (h.footLt k hk) (fun x => x)
theorem FeedRep.drew (h : FeedRep w b f vt vo vs) : FeedRep w.drew b f vt vo vs := h.keep fun _ _ => rfl
theorem FeedRep.drewN (h : FeedRep w b f vt vo vs) (n : Nat) : FeedRep (w.drewN n) b f vt vo vs := h.keep fun _ _ => rfl

/-- A plain field is written. -/
theorem FeedRep.set (h : FeedRep w b f vt vo vs) (i : Nat) (v : Value) (f' : F5.Feed) (hc : (feedCells b f vt vo vs).setIfInBounds i v = feedCells b f' vt vo vs)
    (ht : f'.text = f.text) (ho : f'.out = f.out) (hs : f'.stack = f.stack) : FeedRep (w.setCell ⟨b, i, none⟩ v) b f' vt vo vs :=
  ⟨by rw [heap_setCell_same w b i _ _ v h.blk, hc], by rw [ht]; exact h.text.setCell (p := ⟨b, i, none⟩) h.tb.ne v, by rw [ho]; exact h.out.setCell (p := ⟨b, i, none⟩) h.ob.ne v, by rw [hs]; exact h.stack.setCell (p := ⟨b, i, none⟩) h.sb.ne v,
   h.tb, h.ob, h.sb, h.tu, h.ts, h.os⟩

/-- One more item stands in the list: behind the append and the store into the field. -/
theorem FeedRep.putOut (h : FeedRep w b f vt vo vs) {g cap : Nat} {a : Px.Node}
    (hown : w'.ownsRow 0 63 3 (.slice (some ⟨g, 0, none⟩) (f.out.length + 1) cap) (f.out.length + 1) (f.out.flatMap cNode ++ cNode a))
    (hg : w.grownBy w' vo.ownBlock) (hat : vo.ownBlock = some g ∨ w.heap.size ≤ g) :
    FeedRep (w'.setCell ⟨b, 5, none⟩ (.slice (some ⟨g, 0, none⟩) (f.out.length + 1) cap)) b { f with out := f.out ++ [a] } vt (.slice (some ⟨g, 0, none⟩) (f.out.length + 1) cap) vs := by
  have hgb : g ≠ b := by rcases hat with e | e; exact fun x => h.ob g e (by rw [x]); have := h.lt; omega
  have hap : ∀ v : Value, (∀ k, v.ownBlock = some k → k < w.heap.size) → Apart v.ownBlock vo.ownBlock → Apart v.ownBlock (some g) := by
    intro v hlt ha k hk e
    rcases hat with x | x
    · exact ha k hk (by rw [x]; exact e)
    · have := hlt k hk; simp at e; omega
  have hb' : w'.heap[b]? = some (.cells (feedCells b f vt vo vs) 60 (0, 0)) := (hg.block b h.lt (fun e => h.ob b e.symm rfl)).trans h.blk
  refine ⟨?_, ?_, ?_, ?_, h.tb, ?_, h.sb, ?_, h.ts, ?_⟩
  · rw [heap_setCell_same w' b 5 _ _ _ hb']; rfl
  · exact (h.text.grown hg h.tu).setCell (p := ⟨b, 5, none⟩) h.tb.ne _
  · exact (owns_append hown).setCell (p := ⟨b, 5, none⟩) (by simpa [Value.ownBlock] using hgb) _
  · exact (h.stack.grown hg h.os.symm).setCell (p := ⟨b, 5, none⟩) h.sb.ne _
  · intro k hk; simp [Value.ownBlock] at hk; subst hk; simpa using Ne.symm hgb
  · exact hap vt (fun k hk => h.text.lt hk) h.tu
  · exact (hap vs (fun k hk => h.stack.lt hk) h.os.symm).symm

theorem FeedRep.putText (h : FeedRep w b f vt vo vs) {g cap : Nat} {a : UInt8}
    (hown : w'.ownsRow 0 5 1 (.slice (some ⟨g, 0, none⟩) (f.text.length + 1) cap) (f.text.length + 1) (f.text.flatMap cByte ++ cByte a))
    (hg : w.grownBy w' vt.ownBlock) (hat : vt.ownBlock = some g ∨ w.heap.size ≤ g) :
    FeedRep (w'.setCell ⟨b, 4, none⟩ (.slice (some ⟨g, 0, none⟩) (f.text.length + 1) cap)) b { f with text := f.text ++ [a] } (.slice (some ⟨g, 0, none⟩) (f.text.length + 1) cap) vo vs := by
  have hgb : g ≠ b := by rcases hat with e | e; exact fun x => h.tb g e (by rw [x]); have := h.lt; omega
  have hap : ∀ v : Value, (∀ k, v.ownBlock = some k → k < w.heap.size) → Apart v.ownBlock vt.ownBlock → Apart v.ownBlock (some g) := by
    intro v hlt ha k hk e
    rcases hat with x | x
    · exact ha k hk (by rw [x]; exact e)
    · have := hlt k hk; simp at e; omega
  have hb' : w'.heap[b]? = some (.cells (feedCells b f vt vo vs) 60 (0, 0)) := (hg.block b h.lt (fun e => h.tb b e.symm rfl)).trans h.blk
  refine ⟨?_, ?_, ?_, ?_, ?_, h.ob, h.sb, ?_, ?_, h.os⟩
  · rw [heap_setCell_same w' b 4 _ _ _ hb']; rfl
  · exact (owns_append hown).setCell (p := ⟨b, 4, none⟩) (by simpa [Value.ownBlock] using hgb) _
  · exact (h.out.grown hg h.tu.symm).setCell (p := ⟨b, 4, none⟩) h.ob.ne _
  · exact (h.stack.grown hg h.ts.symm).setCell (p := ⟨b, 4, none⟩) h.sb.ne _
  · intro k hk; simp [Value.ownBlock] at hk; subst hk; simpa using Ne.symm hgb
  · exact (hap vo (fun k hk => h.out.lt hk) h.tu.symm).symm
  · exact (hap vs (fun k hk => h.stack.lt hk) h.ts.symm).symm

theorem FeedRep.push (h : FeedRep w b f vt vo vs) {g cap : Nat} {a : D5.Fm}
    (hown : w'.ownsRow 0 111 5 (.slice (some ⟨g, 0, none⟩) (f.stack.length + 1) cap) (f.stack.length + 1) (f.stack.reverse.flatMap cFrame ++ cFrame a))
    (hg : w.grownBy w' vs.ownBlock) (hat : vs.ownBlock = some g ∨ w.heap.size ≤ g) :
    FeedRep (w'.setCell ⟨b, 6, none⟩ (.slice (some ⟨g, 0, none⟩) (f.stack.length + 1) cap)) b { f with stack := a :: f.stack } vt vo (.slice (some ⟨g, 0, none⟩) (f.stack.length + 1) cap) := by
  have hgb : g ≠ b := by rcases hat with e | e; exact fun x => h.sb g e (by rw [x]); have := h.lt; omega
  have hap : ∀ v : Value, (∀ k, v.ownBlock = some k → k < w.heap.size) → Apart v.ownBlock vs.ownBlock → Apart v.ownBlock (some g) := by
    intro v hlt ha k hk e
    rcases hat with x | x
    · exact ha k hk (by rw [x]; exact e)
    · have := hlt k hk; simp at e; omega
  have hb' : w'.heap[b]? = some (.cells (feedCells b f vt vo vs) 60 (0, 0)) := (hg.block b h.lt (fun e => h.sb b e.symm rfl)).trans h.blk
  have hrl : f.stack.reverse.length = f.stack.length := List.length_reverse
  refine ⟨?_, ?_, ?_, ?_, h.tb, h.ob, ?_, h.tu, ?_, ?_⟩
  · rw [heap_setCell_same w' b 6 _ _ _ hb']; rfl
  · exact (h.text.grown hg h.ts).setCell (p := ⟨b, 6, none⟩) h.tb.ne _
  · exact (h.out.grown hg h.os).setCell (p := ⟨b, 6, none⟩) h.ob.ne _
  · have := owns_append (l := f.stack.reverse) (c := cFrame) (a := a) (w := w') (T := 111) (sz := 5) (g := g) (cap := cap) (by rw [hrl]; exact hown)
    rw [hrl] at this
    have e : ({ f with stack := a :: f.stack } : F5.Feed).stack.reverse = f.stack.reverse ++ [a] := by simp
    rw [e]
    exact this.setCell (p := ⟨b, 6, none⟩) (by simpa [Value.ownBlock] using hgb) _
  · intro k hk; simp [Value.ownBlock] at hk; subst hk; simpa using Ne.symm hgb
  · exact hap vt (fun k hk => h.text.lt hk) h.ts
  · exact hap vo (fun k hk => h.out.lt hk) h.os

/-- The innermost one, open. -/
theorem FeedRep.top {x : D5.Fm} {rest : List D5.Fm} (h : FeedRep w b f vt vo vs) (hs : f.stack = x :: rest) :
    ∃ g cap, vs = .slice (some ⟨g, 0, none⟩) (rest.length + 1) cap ∧ rest.length + 1 ≤ cap ∧ cap ≤ maxLen ∧
      w.cell? ⟨g, rest.length * 5, none⟩ = some (.int .u8 x.tag.toNat) ∧ w.cell? ⟨g, rest.length * 5 + 1, none⟩ = some (.int .i64 (x.at_ : Nat)) ∧
      w.cell? ⟨g, rest.length * 5 + 2, none⟩ = some (.int .i64 (x.end_ : Nat)) ∧ w.cell? ⟨g, rest.length * 5 + 3, none⟩ = some (.int .i64 (x.no : Nat)) ∧ w.cell? ⟨g, rest.length * 5 + 4, none⟩ = some (S x.last) ∧
      (∀ i, w.frozen? ⟨g, i, none⟩ = false) := by
  have h' : Owns w 111 5 cFrame vs (rest.reverse ++ [x]) := by have := h.stack; rw [hs] at this; simpa using this
  obtain ⟨g, cap, h1, h2, h3, h4, h5⟩ := h'.last cFrame_len
  rw [List.length_reverse] at h1 h2 h4
  exact ⟨g, cap, h1, h2, h3, h4 0 _ rfl, h4 1 _ rfl, h4 2 _ rfl, h4 3 _ rfl, h4 4 _ rfl, h5⟩

/-- An element of the list has one more. -/
theorem FeedRep.bumpAt {g cap n j : Nat} {a : Px.Node} (h : FeedRep w b f vt (.slice (some ⟨g, 0, none⟩) n cap) vs) (hj : f.out[j]? = some a) :
    FeedRep (w.setCell ⟨g, j * 3 + 1, none⟩ (.int .i64 (a.kids + 1))) b { f with out := R5.bump f.out j } vt (.slice (some ⟨g, 0, none⟩) n cap) vs := by
  refine ⟨?_, h.text.setCell (p := ⟨g, j * 3 + 1, none⟩) (fun e => h.tu _ e rfl) _, ?_, h.stack.setCell (p := ⟨g, j * 3 + 1, none⟩) (fun e => h.os _ rfl e) _, h.tb, h.ob, h.sb, h.tu, h.ts, h.os⟩
  · rw [heap_setCell_other _ _ _ _ (fun e => h.ob g rfl (by rw [e]))]
    exact h.blk
  · show Owns _ _ 3 cNode _ (R5.bump f.out j)
    rw [bump_set f.out j a hj]
    exact owns_setAt cNode_len h.out hj 1 (by decide) _ rfl
/-- An element's number of Kids, open. -/
theorem FeedRep.kids (h : FeedRep w b f vt vo vs) {j : Nat} {a : Px.Node} (hj : f.out[j]? = some a) :
    ∃ g cap, vo = .slice (some ⟨g, 0, none⟩) f.out.length cap ∧ f.out.length ≤ cap ∧ cap ≤ maxLen ∧ w.cell? ⟨g, j * 3 + 1, none⟩ = some (.int .i64 a.kids) ∧ (∀ i, w.frozen? ⟨g, i, none⟩ = false) := by
  obtain ⟨g, cap, h1, h2, h3, h4, h5⟩ := h.out.at cNode_len hj
  exact ⟨g, cap, h1, h2, h3, h4 1 _ rfl, h5⟩

/-- A cell of the innermost one is written. -/
theorem FeedRep.setTop {x y : D5.Fm} {rest : List D5.Fm} {g cap : Nat} (h : FeedRep w b f vt vo (.slice (some ⟨g, 0, none⟩) (rest.length + 1) cap)) (hs : f.stack = x :: rest) (i : Nat) (u : Value) (hc : cFrame y = (cFrame x).set i u) :
    FeedRep (w.setCell ⟨g, rest.length * 5 + i, none⟩ u) b { f with stack := y :: rest } vt vo (.slice (some ⟨g, 0, none⟩) (rest.length + 1) cap) := by
  have h' : Owns w 111 5 cFrame (.slice (some ⟨g, 0, none⟩) (rest.reverse.length + 1) cap) (rest.reverse ++ [x]) := by have := h.stack; rw [hs] at this; simpa using this
  have k := h'.setLast cFrame_len i u hc
  rw [List.length_reverse] at k
  refine ⟨?_, h.text.setCell (p := ⟨g, _, none⟩) (fun e => h.ts g e rfl) u, h.out.setCell (p := ⟨g, _, none⟩) (fun e => h.os g e rfl) u, by simpa using k, h.tb, h.ob, h.sb, h.tu, h.ts, h.os⟩
  rw [heap_setCell_other _ _ _ _ (fun e => h.sb g rfl (by rw [e]))]
  exact h.blk

/-- The innermost one is taken off. -/
theorem FeedRep.pop {x : D5.Fm} {rest : List D5.Fm} {g cap : Nat} (h : FeedRep w b f vt vo (.slice (some ⟨g, 0, none⟩) (rest.length + 1) cap)) (hs : f.stack = x :: rest) :
    FeedRep (w.setCell ⟨b, 6, none⟩ (.slice (some ⟨g, 0, none⟩) rest.length cap)) b { f with stack := rest } vt vo (.slice (some ⟨g, 0, none⟩) rest.length cap) := by
  have h' : Owns w 111 5 cFrame (.slice (some ⟨g, 0, none⟩) (rest.reverse.length + 1) cap) (rest.reverse ++ [x]) := by have := h.stack; rw [hs] at this; simpa using this
  have k := h'.pop cFrame_len
  rw [List.length_reverse] at k
  refine ⟨by rw [heap_setCell_same w b 6 _ _ _ h.blk]; rfl, h.text.setCell (p := ⟨b, 6, none⟩) h.tb.ne _, h.out.setCell (p := ⟨b, 6, none⟩) h.ob.ne _, k.setCell (p := ⟨b, 6, none⟩) h.sb.ne _, h.tb, h.ob, h.sb, h.tu, h.ts, h.os⟩

/-- What an append to the list of items, and the store into its field, leave. -/
def AfterOut (w w' : World) (b : Nat) (f : F5.Feed) (a : Px.Node) (vt vo vs : Value) : Prop :=
  ∃ vo', FeedRep w' b { f with out := f.out ++ [a] } vt vo' vs ∧ Fr (foot b vt vo vs) w w' ∧ Fresh w (foot b vt vo vs) (foot b vt vo' vs)
theorem FeedRep.afterOut (h : FeedRep w b f vt vo vs) {g cap : Nat} {a : Px.Node}
    (hown : w'.ownsRow 0 63 3 (.slice (some ⟨g, 0, none⟩) (f.out.length + 1) cap) (f.out.length + 1) (f.out.flatMap cNode ++ cNode a))
    (hg : w.grownBy w' vo.ownBlock) (hat : vo.ownBlock = some g ∨ w.heap.size ≤ g) :
    AfterOut w (w'.setCell ⟨b, 5, none⟩ (.slice (some ⟨g, 0, none⟩) (f.out.length + 1) cap)) b f a vt vo vs := by
  refine ⟨_, h.putOut hown hg hat, ((Fr.refl _ w).grown hg (fun k e => .inl (.inr (.inr (.inl e))))).setCell (.inl (.inl rfl)) _, ?_⟩
  rintro k (rfl | hk | hk | hk)
  · exact .inl (.inl rfl)
  · exact .inl (.inr (.inl hk))
  · simp only [Value.ownBlock, Option.some.injEq] at hk
    subst hk
    rcases hat with e | e
    · exact .inl (.inr (.inr (.inl e)))
    · exact .inr e
  · exact .inl (.inr (.inr (.inr hk)))
def AfterPush (w w' : World) (b : Nat) (f : F5.Feed) (a : D5.Fm) (vt vo vs : Value) : Prop :=
  ∃ vs', FeedRep w' b { f with stack := a :: f.stack } vt vo vs' ∧ Fr (foot b vt vo vs) w w' ∧ Fresh w (foot b vt vo vs) (foot b vt vo vs')
theorem FeedRep.afterPush (h : FeedRep w b f vt vo vs) {g cap : Nat} {a : D5.Fm}
    (hown : w'.ownsRow 0 111 5 (.slice (some ⟨g, 0, none⟩) (f.stack.length + 1) cap) (f.stack.length + 1) (f.stack.reverse.flatMap cFrame ++ cFrame a))
    (hg : w.grownBy w' vs.ownBlock) (hat : vs.ownBlock = some g ∨ w.heap.size ≤ g) :
    AfterPush w (w'.setCell ⟨b, 6, none⟩ (.slice (some ⟨g, 0, none⟩) (f.stack.length + 1) cap)) b f a vt vo vs := by
  refine ⟨_, h.push hown hg hat, ((Fr.refl _ w).grown hg (fun k e => .inl (.inr (.inr (.inr e))))).setCell (.inl (.inl rfl)) _, ?_⟩
  rintro k (rfl | hk | hk | hk)
  · exact .inl (.inl rfl)
  · exact .inl (.inr (.inl hk))
  · exact .inl (.inr (.inr (.inl hk)))
  · simp only [Value.ownBlock, Option.some.injEq] at hk
    subst hk
    rcases hat with e | e
    · exact .inl (.inr (.inr (.inr e)))
    · exact .inr e
def AfterText (w w' : World) (b : Nat) (f : F5.Feed) (a : UInt8) (vt vo vs : Value) : Prop :=
  ∃ vt', FeedRep w' b { f with text := f.text ++ [a] } vt' vo vs ∧ Fr (foot b vt vo vs) w w' ∧ Fresh w (foot b vt vo vs) (foot b vt' vo vs)
theorem FeedRep.afterText (h : FeedRep w b f vt vo vs) {g cap : Nat} {a : UInt8}
    (hown : w'.ownsRow 0 5 1 (.slice (some ⟨g, 0, none⟩) (f.text.length + 1) cap) (f.text.length + 1) (f.text.flatMap cByte ++ cByte a))
    (hg : w.grownBy w' vt.ownBlock) (hat : vt.ownBlock = some g ∨ w.heap.size ≤ g) :
    AfterText w (w'.setCell ⟨b, 4, none⟩ (.slice (some ⟨g, 0, none⟩) (f.text.length + 1) cap)) b f a vt vo vs := by
  refine ⟨_, h.putText hown hg hat, ((Fr.refl _ w).grown hg (fun k e => .inl (.inr (.inl e)))).setCell (.inl (.inl rfl)) _, ?_⟩
  rintro k (rfl | hk | hk | hk)
  · exact .inl (.inl rfl)
  · simp only [Value.ownBlock, Option.some.injEq] at hk
    subst hk
    rcases hat with e | e
    · exact .inl (.inr (.inl e))
    · exact .inr e
  · exact .inl (.inr (.inr (.inl hk)))
  · exact .inl (.inr (.inr (.inr hk)))

theorem FeedRep.stackLen (h : FeedRep w b f vt vo vs) : ∃ a cap, vs = .slice a f.stack.length cap := by
  obtain ⟨a, cap, hv, _⟩ := h.stack.len
  exact ⟨a, cap, by simpa using hv⟩
end
end Go.Proofs.YtceffhkgnifmeaaDoor

/-! The walks over derfeed's wrong, ended and settle. -/
namespace Go.Proofs.YtceffhkgnifmeaaDoor
open Go.RowKit Go.Px

theorem wrong_any (b : Nat) (p e : Int) (f : F5.Feed) (F : Nat → Prop) (w : World) (h : FeedAt w b f F) :
    Calls Tryd.prog 42 #[.pointer (some ⟨b, 0, none⟩), .int .i64 p, .int .i64 e] w fun r w' => r = .returned (.tuple #[]) ∧ FeedAt w' b (F5.wrong f p e) F ∧ Fr F w w' := by
  obtain ⟨vt, vo, vs, h, rfl⟩ := h
  have h2 := (h.set 12 (.int .i64 e) { f with err := e } rfl rfl rfl rfl).set 13 (.int .i64 p) (F5.wrong f p e) rfl rfl rfl rfl
  have hf := ((Fr.refl (foot b vt vo vs) w).setCell (p := ⟨b, 12, none⟩) (.inl (.inl rfl)) (.int .i64 e)).setCell (p := ⟨b, 13, none⟩) (.inl (.inl rfl)) (.int .i64 p)
  have c12 : w.cell? ⟨b, 12, none⟩ = some (.int .i64 f.err) := cellOf h.blk 12 rfl
  have c13 : w.cell? ⟨b, 13, none⟩ = some (.int .i64 f.at_) := cellOf h.blk 13 rfl
  have f12 := h.free 12
  have f13 := h.free 13
  have H2 := Px.hid (And.intro h2 hf)
  clear h2 hf h
  go_enter Tryd.func42, Tryd.ntmps42
  go_wp2
  go_end0
  exact ⟨rfl, ⟨_, _, _, H2.out.1, rfl⟩, H2.out.2⟩

theorem Tryd.sizeU8f (w : World) : (Go.sizeOf 5).run Tryd.prog w = .ok 1 w := by kernel_rfl

set_option maxRecDepth 100000 in
set_option maxHeartbeats 1000000 in
theorem ended_any (b : Nat) (p : Nat) (f : F5.Feed) (F : Nat → Prop) (w : World) (h : FeedAt w b f F) (hp : p ≤ f.text.length) (hst : f.stack.length ≤ 262144) :
    Calls Tryd.prog 66 #[.pointer (some ⟨b, 0, none⟩), .int .i64 (p : Nat)] w fun r w' => r = .returned (.tuple #[]) ∧ FeedAt w' b (F5.ended f p) F ∧ Fr F w w' := by
  obtain ⟨vt, vo, vs, h, rfl⟩ := h
  obtain ⟨a, cap, hv⟩ := h.stackLen
  have c6 : w.cell? ⟨b, 6, none⟩ = some vs := cellOf h.blk 6 rfl
  rw [hv] at c6
  rcases hs : f.stack with _ | ⟨x, rest⟩
  · rw [hs] at c6
    have hr : F5.ended f p = f := by simp [F5.ended, hs]
    have H := Px.hid (And.intro h hr)
    clear hr h hs hp hv
    go_enter Tryd.func66, Tryd.ntmps66
    go_wp2
    refine bodyPost_ret (results_none rfl _ _ _) rfl ?_
    rw [H.out.2]
    exact ⟨rfl, ⟨_, _, _, H.out.1, rfl⟩, Fr.refl _ _⟩
  · clear c6 hv
    obtain ⟨g, cap', hv, hc1, hc2, k0, k1, k2, k3, k4, kf⟩ := h.top hs
    subst hv
    have c6 : w.cell? ⟨b, 6, none⟩ = some (.slice (some ⟨g, 0, none⟩) (rest.length + 1) cap') := cellOf h.blk 6 rfl
    rw [hs] at hst
    simp at hst
    unfold maxLen at hc2
    have n0 : ((rest.length : Int) + 1 == 0) = false := by simp; omega
    obtain ⟨key, hkey⟩ : ∃ key, key = f.text.drop p := ⟨_, rfl⟩
    have hr : F5.ended f p = if x.tag.toNat == 49 then (if Op.bytesLess key x.last then F5.wrong f p 9 else { f with stack := { x with last := key } :: rest }) else f := by simp [F5.ended, hs, hkey]
    rw [hr]
    obtain ⟨ta, capt, hvt, _⟩ := h.text.len
    obtain ⟨sv, hsl, hcv⟩ := h.text.bytesTo (P := Tryd.prog) (p := p) hp (t := 42) (dst := 9) (by kernel_rfl) (by kernel_rfl) (by kernel_rfl) Tryd.sizeU8f
    have c4 : w.cell? ⟨b, 4, none⟩ = some vt := cellOf h.blk 4 rfl
    rw [hvt] at c4 hsl
    rw [← hkey] at hcv
    have hcv : Sem.run Tryd.prog (convert 42 9 sv) w = .ok (S key) w := hcv 0
    clear hkey hvt
    by_cases hk : (x.tag.toNat == 49) = true
    · rw [if_pos hk]
      have hk5 : ((x.tag.toNat : Int) != 49) = false := by simp only [beq_iff_eq] at hk; simp; omega
      by_cases hle : Op.bytesLess key x.last = true
      · rw [if_pos hle]
        have H := Px.hid (show FeedAt w b f (foot b vt vo (.slice (some ⟨g, 0, none⟩) (rest.length + 1) cap')) from ⟨_, _, _, h, rfl⟩)
        clear hr h hs hk
        go_enter Tryd.func66, Tryd.ntmps66
        go_wp2_with (go_at_call 42; refine (wrong_any b p 9 f _ _ H.out).mono ?_; rintro e w' ⟨rfl, hF, hfr⟩)
        refine bodyPost_ret (results_none rfl _ _ _) rfl ?_
        exact ⟨rfl, hF, hfr⟩
      · rw [if_neg hle]
        have hle' : Op.bytesLess key x.last = false := by simpa using hle
        have e1 := h.setTop (y := { x with last := key }) hs 4 (S key) rfl
        have hfo : foot b vt vo (.slice (some ⟨g, 0, none⟩) (rest.length + 1) cap') g := .inr (.inr (.inr rfl))
        have fr1 := (Fr.refl (foot b vt vo (.slice (some ⟨g, 0, none⟩) (rest.length + 1) cap')) w).setCell (p := ⟨g, rest.length * 5 + 4, none⟩) (.inl hfo) (S key)
        have H := Px.hid (And.intro e1 fr1)
        clear e1 fr1 hr h hs hk hfo hle
        go_enter Tryd.func66, Tryd.ntmps66
        go_wp2
        go_end0
        exact ⟨rfl, ⟨_, _, _, H.out.1, rfl⟩, H.out.2⟩
    · rw [if_neg hk]
      have hk5 : ((x.tag.toNat : Int) != 49) = true := by rw [beq_iff_eq] at hk; simp; omega
      have H := Px.hid h
      clear hr h hs hk hsl hcv
      go_enter Tryd.func66, Tryd.ntmps66
      go_wp2
      refine bodyPost_ret (results_none rfl _ _ _) rfl ?_
      exact ⟨rfl, ⟨_, _, _, H.out, rfl⟩, Fr.refl _ _⟩
end Go.Proofs.YtceffhkgnifmeaaDoor

/-! The walk over derfeed's settle. -/
namespace Go.Proofs.YtceffhkgnifmeaaDoor
open Go.RowKit Go.Px

@[go_sem] theorem make_fn (fn : Fn) (first cap : Array Value) (w : World) : (Instr.makeFunc fn first cap).run Tryd.prog w = .ok (.func fn first cap) w := rfl
set_option maxRecDepth 100000 in
set_option maxHeartbeats 2000000 in
theorem settle_any (b : Nat) (f : F5.Feed) (F : Nat → Prop) (w : World) (h : FeedAt w b f F) (hok : F5.OkK 0 0 f) (he : f.err = 0) :
    Calls Tryd.prog 63 #[.pointer (some ⟨b, 0, none⟩)] w fun r w' => r = .returned (.tuple #[]) ∧ FeedAt w' b (F5.settle f) F ∧ Fr F w w' := by
  have h0 : FeedAt (w.setCell ⟨b, 7, none⟩ (metV b 41)) b { f with next := 0 } F := by
    obtain ⟨vt, vo, vs, h, rfl⟩ := h
    exact ⟨vt, vo, vs, h.set 7 _ _ rfl rfl rfl rfl, rfl⟩
  have hFb : F b := by obtain ⟨vt, vo, vs, h, rfl⟩ := h; exact .inl rfl
  have c7 : w.cell? ⟨b, 7, none⟩ = some (waitV b f.next) := by obtain ⟨vt, vo, vs, h, rfl⟩ := h; exact cellOf h.blk 7 rfl
  have f7 : w.frozen? ⟨b, 7, none⟩ = false := by obtain ⟨vt, vo, vs, h, rfl⟩ := h; exact h.free 7
  have fr0 := (Fr.refl F w).setCell (p := ⟨b, 7, none⟩) (.inl hFb) (metV b 41)
  have H0 := Px.hid (And.intro h0 (And.intro fr0 (hok.next 0)))
  have HE := Px.hid he
  clear h h0 fr0 hok he
  go_enter Tryd.func63, Tryd.ntmps63
  go_wp2
  go_loopg [2] (f.stack.length + 1) (fun gk _ wr => ∃ q, FeedAt wr b q F ∧ q.stack.length < gk ∧ F5.OkK 0 0 q ∧ Fr F w wr ∧ (if q.err == 0 then F5.settleN q.stack.length q else q) = F5.settle f)
  case atStart => exact ⟨_, H0.out.1, Nat.lt_succ_self _, H0.out.2.2, H0.out.2.1, if_pos (by show (f.err == 0) = true; rw [HE.out]; rfl)⟩
  case round =>
    clear H0 c7 f7
    obtain ⟨q, hq, hk, hgq, hfr, hset⟩ := hrel
    obtain ⟨g', rfl⟩ : ∃ g', gk = g' + 1 := ⟨gk - 1, by omega⟩
    obtain ⟨vt, vo, vs, h, rfl⟩ := hq
    obtain ⟨a, cap, hv⟩ := h.stackLen
    have c6 : wr.cell? ⟨b, 6, none⟩ = some vs := cellOf h.blk 6 rfl
    have c12 : wr.cell? ⟨b, 12, none⟩ = some (.int .i64 q.err) := cellOf h.blk 12 rfl
    have hqs := hgq.sb
    have hqt := hgq.tb
    have hb : b < wr.heap.size := h.lt
    by_cases he : q.err = 0
    · have he' : (q.err == 0) = true := by simpa using he
      rw [if_pos he'] at hset
      rcases hs : q.stack with _ | ⟨x, rest⟩
      · rw [hv, hs] at c6
        have c7 : wr.cell? ⟨b, 7, none⟩ = some (waitV b q.next) := cellOf h.blk 7 rfl
        have f7 := h.free 7
        have e1 := h.set 7 .nilFunc { q with next := 4 } rfl rfl rfl rfl
        have fr1 := hfr.setCell (p := ⟨b, 7, none⟩) (.inl hFb) .nilFunc
        have hr : F5.settle f = { q with next := 4 } := by rw [← hset, show q.stack.length = 0 by rw [hs]; rfl]; rfl
        have H := Px.hid (And.intro e1 (And.intro fr1 hr))
        clear e1 fr1 hr h hs hgq hset hk hfr hv he hqs hqt
        go_wp2
        refine bodyPost_ret (results_none rfl _ _ _) rfl ?_
        rw [H.out.2.2]
        exact ⟨rfl, ⟨_, _, _, H.out.1, rfl⟩, H.out.2.1⟩
      · obtain ⟨g, cap', hv', hc1, hc2, k0, k1, k2, k3, k4, kf⟩ := h.top hs
        subst hv'
        rw [hs] at hqs hk
        simp only [List.length_cons] at hqs hk
        unfold maxLen at hc2
        have n0 : ((rest.length : Int) + 1 == 0) = false := by simp; omega
        obtain ⟨ta, tc, htv, _⟩ := h.text.len
        have c4 : wr.cell? ⟨b, 4, none⟩ = some vt := cellOf h.blk 4 rfl
        rw [htv] at c4
        have hrl : rest.length ≤ 1000000 := by omega
        have HRL := Px.hid (show rest.length ≤ 262144 by omega)
        clear hv hqt htv
        by_cases hl : q.text.length < x.end_
        · have hr : F5.settle f = q := by rw [← hset, show q.stack.length = rest.length + 1 by rw [hs]; rfl]; simp [F5.settleN, hs, hl]
          have hl' : (q.text.length : Int) < x.end_ := by omega
          have H := Px.hid (And.intro h (And.intro hfr hr))
          clear hr h hs hgq hset hfr he hqs
          go_wp2_with fail
          go_quiet (fail)
          go_wp2
          refine bodyPost_ret (results_none rfl _ _ _) rfl ?_
          rw [H.out.2.2]
          exact ⟨rfl, ⟨_, _, _, (H.out.1.alloc _).drewN nq, rfl⟩, (H.out.2.1.alloc _).drewN nq⟩
        · have hl' : ¬ (q.text.length : Int) < x.end_ := by omega
          have f6 := h.free 6
          have e1 := fun W (hh : FeedRep W b q vt vo (.slice (some ⟨g, 0, none⟩) (rest.length + 1) cap')) => hh.pop hs
          have fr1 := fun W (hh : Fr (foot b vt vo (.slice (some ⟨g, 0, none⟩) (rest.length + 1) cap')) w W) => hh.setCell (p := ⟨b, 6, none⟩) (.inl hFb) (.slice (some ⟨g, 0, none⟩) rest.length cap')
          have g1 := hgq.tail hs
          have hr : F5.settle f = if (F5.ended { q with stack := rest } x.at_).err == 0 then F5.settleN rest.length (F5.ended { q with stack := rest } x.at_) else F5.ended { q with stack := rest } x.at_ := by
            rw [← hset, show q.stack.length = rest.length + 1 by rw [hs]; rfl]; simp [F5.settleN, hs, hl]
          have hp := (hgq.each x (by rw [hs]; exact List.mem_cons_self ..)).1
          have ht := F5.ended_keeps { q with stack := rest } x.at_
          have gc := g1.ended x.at_
          have H := Px.hid (And.intro h (And.intro hfr (And.intro e1 (And.intro fr1 (And.intro hr (And.intro ht.2.2.2 gc))))))
          have HP := Px.hid hp
          clear e1 fr1 hr h hs hgq hset hfr g1 ht hl hp gc he hqs
          go_wp2_with fail
          go_quiet (fail)
          go_wp2_with fail
          refine (ended_any b x.at_ { q with stack := rest } _ _ ⟨_, _, _, H.out.2.2.1 _ ((H.out.1.alloc _).drewN nq), rfl⟩ HP.out HRL.out).mono ?_
          rintro e w' ⟨rfl, hF, hfr⟩
          have H1 := Px.hid (And.intro hF ((H.out.2.2.2.1 _ ((H.out.2.1.alloc _).drewN nq)).step (Fresh.refl _ _) hfr))
          clear hF hfr
          go_wp2
          go_roundg g'
          case measure => omega
          case rel =>
            refine ⟨_, H1.out.1, ?_, H.out.2.2.2.2.2.2, H1.out.2, ?_⟩
            · have := H.out.2.2.2.2.2.1
              have e : ({ q with stack := rest } : F5.Feed).stack.length = rest.length := rfl
              omega
            · rw [H.out.2.2.2.2.1, H.out.2.2.2.2.2.1]
    · have he' : (q.err == 0) = false := by simpa using he
      rw [if_neg (by simpa using he)] at hset
      have H := Px.hid (And.intro h (And.intro hfr hset))
      clear h hfr hset hgq hqs hqt he
      go_wp2
      go_end0
      rw [← H.out.2.2]
      exact ⟨rfl, ⟨_, _, _, H.out.1, rfl⟩, H.out.2.1⟩
end Go.Proofs.YtceffhkgnifmeaaDoor

/-! The walk over derfeed's whole. -/
namespace Go.Proofs.YtceffhkgnifmeaaDoor
open Go.RowKit Go.Px

theorem Tryd.infoFmF : (Tryd.prog.info? 111).map (fun i => (i.zero, i.size, i.bytes)) = some (some (.agg #[.int .u8 0, .int .i64 0, .int .i64 0, .int .i64 0, .string ByteArray.empty]), 5, 48) := by kernel_rfl
theorem Tryd.infoU8F : (Tryd.prog.info? 5).map (fun i => (i.zero, i.size, i.bytes)) = some (some (.int .u8 0), 1, 1) := by kernel_rfl
theorem whole_one {f : F5.Feed} {p : Nat} (hp : p = f.place) (a : Px.Node) (h1 : (R5.decode (f.text.drop p) F5.one).2.2 = 0) (h2 : (R5.decode (f.text.drop p) F5.one).1 = [a]) :
    F5.whole f = if (F5.ended { f with out := f.out ++ [a] } p).err == 0 then F5.settle (F5.ended { f with out := f.out ++ [a] } p) else F5.ended { f with out := f.out ++ [a] } p := by
  subst hp
  unfold F5.whole
  simp only [h1, h2]
  rfl
theorem whole_no {f : F5.Feed} {p : Nat} (hp : p = f.place) (h1 : (R5.decode (f.text.drop p) F5.one).2.2 ≠ 0) : F5.whole f = F5.wrong f p (R5.decode (f.text.drop p) F5.one).2.2 := by
  subst hp
  unfold F5.whole
  simp only
  rw [if_pos (by simpa using h1)]
set_option maxRecDepth 100000 in
set_option maxHeartbeats 2000000 in
theorem whole_any (b : Nat) (f : F5.Feed) (F : Nat → Prop) (w : World) (h : FeedAt w b f F) (hok : F5.OkK 1 0 f) (hT : Tabs w) :
    Calls Tryd.prog 65 #[.pointer (some ⟨b, 0, none⟩)] w fun r w' => r = .returned (.tuple #[]) ∧ ∃ F', FeedAt w' b (F5.whole f) F' ∧ Fr F w w' ∧ Fresh w F F' := by
  obtain ⟨vt, vo, vs, h, rfl⟩ := h
  obtain ⟨p, hp⟩ : ∃ p, p = f.place := ⟨_, rfl⟩
  obtain ⟨ta, capt, hvt, _⟩ := h.text.len
  obtain ⟨sv, hsl, hcv⟩ := h.text.bytesTo (P := Tryd.prog) (p := p) (by rw [hp]; exact hok.pl) (t := 42) (dst := 9) (by kernel_rfl) (by kernel_rfl) (by kernel_rfl) Tryd.sizeU8f
  have c4 : w.cell? ⟨b, 4, none⟩ = some vt := cellOf h.blk 4 rfl
  have c9 : w.cell? ⟨b, 9, none⟩ = some (.int .i64 (p : Nat)) := by rw [hp]; exact cellOf h.blk 9 rfl
  rw [hvt] at c4 hsl
  have h1 := whole_one hp
  have h2 := whole_no hp
  obtain ⟨key, hkey⟩ : ∃ key, key = f.text.drop p := ⟨_, rfl⟩
  have hkl : key.length ≤ 140737488355327 := by rw [hkey]; simp; have := hok.tb; omega
  rw [← hkey] at hcv h1 h2
  have hka : ∀ d, R5.decode key F5.one = d → d.2.2 = 0 → ∃ a, d.1 = [a] ∧ -1 ≤ a.kids ∧ a.kids ≤ 0 := by
    rintro d rfl h
    exact F5.one_kids h
  have H := Px.hid (And.intro h (And.intro hok (And.intro hT (And.intro hkl (And.intro hka (And.intro h1 (And.intro h2 hp)))))))
  clear h hok hT hkl hka h1 h2 hp hvt hkey
  go_enter Tryd.func65, Tryd.ntmps65
  go_wp2_with fail
  go_quiet (fail)
  go_wp2_with fail
  refine (decode_any key F5.one H.out.2.2.2.1 _ (H.out.2.2.1.drewN nq)).mono ?_
  obtain ⟨d, hd⟩ : ∃ d, R5.decode key F5.one = d := ⟨_, rfl⟩
  rw [hd]
  rintro e WX ⟨vd, rfl, hown, hs, hnew⟩
  have HX := Px.hid ((H.out.1.drewN nq).same hs)
  have HXF := Px.hid (Fr.trans (Fr.drewN (Fr.refl (foot b vt vo vs) w) nq) (hs.fr (foot b vt vo vs)) (fun _ _ x => x))
  have HD := Px.hid (And.intro hd (H.out.2.2.2.2.1 d hd))
  clear hs hd hsl hcv c4 c9
  have c9 : WX.cell? ⟨b, 9, none⟩ = some (.int .i64 (p : Nat)) := by rw [H.out.2.2.2.2.2.2.2]; exact cellOf HX.out.blk 9 rfl
  obtain ⟨dl, dp, de⟩ := d
  by_cases he : de = 0
  · subst he
    obtain ⟨a, ha, ha1, ha2⟩ := HD.out.2 rfl
    have ha : dl = [a] := ha
    subst ha
    have HR := Px.hid (H.out.2.2.2.2.2.1 a (by rw [HD.out.1]) (by rw [HD.out.1]))
    have HOK := Px.hid (H.out.2.1.put a ha1 (by omega))
    obtain ⟨gd, cd, hvd, hd1, hd2, hdc, hdf⟩ := hown.at cNode_len (j := 0) (a := a) rfl
    have hvd : vd = .slice (some ⟨gd, 0, none⟩) 1 cd := hvd
    subst hvd
    have hd1 : 1 ≤ cd := hd1
    unfold maxLen at hd2
    have k0 : WX.cell? ⟨gd, 0, none⟩ = some (.int .u8 a.tag.toNat) := hdc 0 _ rfl
    have k1 : WX.cell? ⟨gd, 1, none⟩ = some (.int .i64 a.kids) := hdc 1 _ rfl
    have k2 : WX.cell? ⟨gd, 2, none⟩ = some (S a.body) := hdc 2 _ rfl
    have hgd : gd < WX.heap.size := hown.lt rfl
    have hol : f.out.length ≤ 1000000 := by have := H.out.2.1.ob; have := H.out.2.1.tb; omega
    clear HD hown hnew ha1 ha2 hdc hdf
    have f5 := HX.out.free 5
    have hb : b < WX.heap.size := HX.out.lt
    obtain ⟨i0, hi0, hz0, hz1, hz2⟩ := info_parts Tryd.infoNode
    have c5 : WX.cell? ⟨b, 5, none⟩ = some vo := cellOf HX.out.blk 5 rfl
    go_upto_region 4 with fail
    go_cut [] (fun wx => AfterOut WX wx b f a vt vo vs)
    case first =>
      go_region_law
        ((refine step_append_lies _ (by rfl) _ _ _ (by rfl) 0 63 i0 _ 3 32 Tryd.underlying25 hi0 hz0 hz1 hz2 rfl (by omega) vo f.out.length (f.out.flatMap cNode) (by rfl) ((HX.out.out.alloc _).drew)
              ⟨WX.heap.size, 0, none⟩ 1 1 (cNode a) (by rfl) (by rfl) (World.news_of_block (cs := #[.int .u8 a.tag.toNat, .int .i64 a.kids, S a.body]) (t := 63) (fr := (0, 0)) (heap_alloc_new WX _)) (by simp [cNode, Value.oneCell'])
              (by omega) (by unfold maxLen; omega) (by omega) (by simp) (WX.heap.size + 1) (by simp) ?_; intro gg cap w1 hown1 hgrow hat hlt; have k5 := grown_cell hgrow c5 HX.out.ob.ne; have e5 := grown_free hgrow c5 f5 HX.out.ob.ne))
      all_goals (go_wp2_with fail; go_meet; exact HX.out.afterOut hown1 (grown_alloc hgrow) (hat.imp id (fun e => by omega)))
    case rest =>
      obtain ⟨vo', hy, hyf, hyn⟩ := hcut
      have c9 : wc.cell? ⟨b, 9, none⟩ = some (.int .i64 (p : Nat)) := by rw [H.out.2.2.2.2.2.2.2]; exact cellOf hy.blk 9 rfl
      have HY := Px.hid (And.intro hy (And.intro hyf hyn))
      clear hy hyf hyn c5 f5 k0 k1 k2
      go_wp2_with fail
      refine (ended_any b p { f with out := f.out ++ [a] } _ _ ⟨_, _, _, HY.out.1, rfl⟩ (by rw [H.out.2.2.2.2.2.2.2]; exact H.out.2.1.pl) (by have := H.out.2.1.sb; have := H.out.2.1.tb; show f.stack.length ≤ 262144; omega)).mono ?_
      rintro e w' ⟨rfl, hF, hfr⟩
      have HE := Px.hid (And.intro hF (HY.out.2.1.step HY.out.2.2 hfr))
      have c12 : w'.cell? ⟨b, 12, none⟩ = some (.int .i64 (F5.ended { f with out := f.out ++ [a] } p).err) := by obtain ⟨_, _, _, hF, _⟩ := hF; exact cellOf hF.blk 12 rfl
      have HG := Px.hid (HOK.out.ended p)
      obtain ⟨q, hq⟩ : ∃ q, q = F5.ended { f with out := f.out ++ [a] } p := ⟨_, rfl⟩
      rw [← hq] at c12 HE HR HG
      clear hF hfr hq
      by_cases hqe : q.err = 0
      · have hqe' : (q.err == 0) = true := by simpa using hqe
        have HQ := Px.hid (And.intro hqe (HR.out.trans (if_pos hqe')))
        clear hqe
        go_wp2_with fail
        refine (settle_any b q _ _ HE.out.1 HG.out HQ.out.1).mono ?_
        rintro e w2 ⟨rfl, hF, hfr⟩
        go_wp2
        go_end0
        rw [HQ.out.2]
        exact ⟨rfl, _, hF, (HXF.out.step (Fresh.refl _ _) HE.out.2).step (Fresh.trans (Fresh.refl _ _) HXF.out.size HY.out.2.2) hfr, Fresh.trans (Fresh.refl _ _) HXF.out.size HY.out.2.2⟩
      · have hqe' : (q.err == 0) = false := by simpa using hqe
        have HQ := Px.hid (HR.out.trans (if_neg (by simpa using hqe)))
        clear hqe
        go_wp2
        go_end0
        rw [HQ.out]
        exact ⟨rfl, _, HE.out.1, HXF.out.step (Fresh.refl _ _) HE.out.2, Fresh.trans (Fresh.refl _ _) HXF.out.size HY.out.2.2⟩
  · have he' : (de != 0) = true := by simpa using he
    have HR := Px.hid (H.out.2.2.2.2.2.2.1 (by rw [HD.out.1]; exact he))
    have HD := Px.hid HD.out.1
    clear he hown hnew
    go_wp2_with fail
    refine (wrong_any b p de f _ _ ⟨_, _, _, HX.out, rfl⟩).mono ?_
    rintro e w' ⟨rfl, hF, hfr⟩
    go_wp2
    refine bodyPost_ret (results_none rfl _ _ _) rfl ?_
    rw [HR.out, HD.out]
    exact ⟨rfl, _, hF, HXF.out.step (Fresh.refl _ _) hfr, Fresh.refl _ _⟩
end Go.Proofs.YtceffhkgnifmeaaDoor

/-! The walk over derfeed's begun. -/
namespace Go.Proofs.YtceffhkgnifmeaaDoor
open Go.RowKit Go.Px

def BegunPost (w : World) (b : Nat) (F : Nat → Prop) (g : F5.Feed) (r : Ending) (w' : World) : Prop := r = .returned (.tuple #[]) ∧ ∃ F', FeedAt w' b g F' ∧ Fr F w w' ∧ Fresh w F F'
theorem bump_ok {f : F5.Feed} (h : F5.OkK 1 1 f) (j : Nat) : F5.OkK 1 0 { f with out := R5.bump f.out j } := h.bump j
theorem push_ok {f : F5.Feed} {L n : Nat} (h : F5.OkK 1 0 f) (hL : f.text.length = L) (hn : n ≤ 4294967296) : F5.OkK 0 0 { f with stack := ⟨f.tag, f.place, L + n, f.out.length, []⟩ :: f.stack, out := f.out ++ [⟨f.tag, 0, []⟩] } := by
  subst hL
  have hp := h.put ⟨f.tag, 0, []⟩ (by simp) (by simp)
  have h1 := h.sb
  have h2 := h.tb
  have h3 := h.pl
  refine ⟨by simp; omega, hp.ob, hp.tb, ?_, hp.kids, hp.pl⟩
  intro x hx
  rcases List.mem_cons.1 hx with rfl | hx
  · refine ⟨h3, by simp, ?_⟩
    show f.text.length + n ≤ _
    omega
  · exact hp.each x hx
set_option maxRecDepth 100000 in
set_option maxHeartbeats 4000000 in
theorem begun_w (b : Nat) (f : F5.Feed) (n : Nat) (w : World) (vt vo vs : Value) (h : FeedRep w b f vt vo vs) (hok : F5.OkK 1 1 f) (hn : n ≤ 4294967296) (hF2 : ∀ k, foot b vt vo vs k → 2 ≤ k) (hT : Tabs w) (x : D5.Fm) (rest : List D5.Fm) (hst : f.stack = x :: rest) (hx : x.end_ < f.text.length + n) :
    Calls Tryd.prog 60 #[.pointer (some ⟨b, 0, none⟩), .int .i64 (n : Nat)] w fun r w' => BegunPost w b (foot b vt vo vs) (F5.begun f n) r w' := by
  have hFb : foot b vt vo vs b := .inl rfl
  obtain ⟨L, hL⟩ : ∃ L, L = f.text.length := ⟨_, rfl⟩
  obtain ⟨ta, tc, htv, _⟩ := h.text.len
  have c4 : w.cell? ⟨b, 4, none⟩ = some vt := cellOf h.blk 4 rfl
  rw [htv, ← hL] at c4
  have hLb : L ≤ 1000000 := by have := hok.tb; omega
  have HSUM := Px.hid (show (L : Int) + (n : Int) = ((L + n : Nat) : Int) by omega)
  have hwn : IntKind.i64.wrap ((L : Int) + (n : Int)) = (L : Int) + (n : Int) := IntWalk.i64_in _ ⟨by omega, by omega⟩
  have HT := Px.hid hT
  have HN := Px.hid hn
  have HW0 := Px.hid (show 2 ≤ w.heap.size by have := hF2 b (.inl rfl); have := h.lt; omega)
  obtain ⟨g, cap', hv', hc1, hc2, k0, k1, k2, k3, k4, kf⟩ := h.top hst
  have c6 : w.cell? ⟨b, 6, none⟩ = some vs := cellOf h.blk 6 rfl
  rw [hv'] at c6
  unfold maxLen at hc2
  have hrl : rest.length ≤ 1000000 := by have h1 := hok.sb; have h2 := hok.tb; rw [hst] at h1; simp at h1; omega
  have n0 : (0 : Int) < (rest.length : Int) + 1 := by omega
  have hgt : (x.end_ : Int) < (L : Int) + (n : Int) := by omega
  have c9 : w.cell? ⟨b, 9, none⟩ = some (.int .i64 (f.place : Nat)) := cellOf h.blk 9 rfl
  have HR := Px.hid (show F5.begun f n = F5.wrong f f.place 9 by unfold F5.begun; rw [hst]; exact if_pos hx)
  have HB := Px.hid h
  clear h hok hT hL htv hst hx hv'
  go_enter Tryd.func60, Tryd.ntmps60
  go_wp2_with fail
  refine (wrong_any b f.place 9 f _ _ ⟨_, _, _, HB.out, rfl⟩).mono ?_
  rintro e w' ⟨rfl, hF, hfr⟩
  go_wp2
  refine bodyPost_ret (results_none rfl _ _ _) rfl ?_
  rw [HR.out]
  exact ⟨rfl, _, hF, hfr, Fresh.refl _ _⟩
end Go.Proofs.YtceffhkgnifmeaaDoor
