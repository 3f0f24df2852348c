/-
  Several texts in one: How a cborfeed.Feed lies in memory (FeedRep), and what becomes of that under stores and appends.
-/
import Derived.Test.YtclbbfmpkhfigaaDoorProg
import Derived.Test.YtclbbfmpkhfigaaDoorMB
import Derived.Test.YtclbbfmpkhfigaaDoorMA
/-! How a cborfeed.Feed lies in memory (FeedRep), and what becomes of that under stores and appends. -/
namespace Go.Proofs.YtclbbfmpkhfigaaDoor
open Go.RowKit Go.Px Go.Px.Cf

def cAtom (a : Atom) : List Value := [.int .i64 a.kind, .int .u64 a.num, S a.text]
def cFrame (x : Fm) : List Value := [.int .i64 x.kind, .int .i64 x.at_, .int .u8 x.info, .int .u64 x.num, .int .u64 x.more, .int .u64 x.left, S x.key, .bool x.any]
theorem cAtom_len (a : Atom) : (cAtom a).length = 3 := rfl
theorem cFrame_len (a : Fm) : (cFrame a).length = 8 := rfl

def feedCells (f : Feed) (vt vo vs : Value) : Array Value := #[.int .i64 f.lim.d, .int .i64 f.lim.i, .int .i64 f.lim.b, .int .i64 f.lim.r, vt, vo, vs, .int .i64 f.next,
  .int .i64 f.kind, .int .i64 f.hat, .int .u8 f.info, .int .u64 f.num, .int .u64 f.more, .int .i64 f.err, .int .i64 f.at_]

structure FeedRep (w : World) (b : Nat) (f : Feed) (vt vo vs : Value) : Prop where
  blk : w.heap[b]? = some (.cells (feedCells f vt vo vs) 48 (0, 0))
  text : Owns w 5 1 cByte vt f.text
  out : Owns w 72 3 cAtom vo f.out
  stack : Owns w 106 8 cFrame vs f.stack.reverse
  tb : Apart vt.ownBlock (some b)
  ob : Apart vo.ownBlock (some b)
  sb : Apart vs.ownBlock (some b)
  to : Apart vt.ownBlock vo.ownBlock
  ts : Apart vt.ownBlock vs.ownBlock
  os : Apart vo.ownBlock vs.ownBlock

def foot (b : Nat) (vt vo vs : Value) (k : Nat) : Prop := k = b ∨ vt.ownBlock = some k ∨ vo.ownBlock = some k ∨ vs.ownBlock = some k
def FeedAt (w : World) (b : Nat) (f : Feed) (F : Nat → Prop) : Prop := ∃ vt vo vs, FeedRep w b f vt vo vs ∧ F = foot b vt vo vs

section
variable {w w' : World} {b : Nat} {f : Feed} {vt vo vs : Value}

theorem FeedRep.cells (h : FeedRep w b f vt vo vs) :
    w.cell? ⟨b, 0, none⟩ = some (.int .i64 f.lim.d) ∧ w.cell? ⟨b, 1, none⟩ = some (.int .i64 f.lim.i) ∧ w.cell? ⟨b, 2, none⟩ = some (.int .i64 f.lim.b) ∧
    w.cell? ⟨b, 3, none⟩ = some (.int .i64 f.lim.r) ∧ w.cell? ⟨b, 4, none⟩ = some vt ∧ w.cell? ⟨b, 5, none⟩ = some vo ∧ w.cell? ⟨b, 6, none⟩ = some vs ∧
    w.cell? ⟨b, 7, none⟩ = some (.int .i64 f.next) ∧ w.cell? ⟨b, 8, none⟩ = some (.int .i64 f.kind) ∧ w.cell? ⟨b, 9, none⟩ = some (.int .i64 f.hat) ∧
    w.cell? ⟨b, 10, none⟩ = some (.int .u8 f.info) ∧ w.cell? ⟨b, 11, none⟩ = some (.int .u64 f.num) ∧ w.cell? ⟨b, 12, none⟩ = some (.int .u64 f.more) ∧
    w.cell? ⟨b, 13, none⟩ = some (.int .i64 f.err) ∧ w.cell? ⟨b, 14, none⟩ = some (.int .i64 f.at_) :=
  ⟨cellOf h.blk 0 rfl, cellOf h.blk 1 rfl, cellOf h.blk 2 rfl, cellOf h.blk 3 rfl, cellOf h.blk 4 rfl, cellOf h.blk 5 rfl, cellOf h.blk 6 rfl, cellOf h.blk 7 rfl, cellOf h.blk 8 rfl,
   cellOf h.blk 9 rfl, cellOf h.blk 10 rfl, cellOf h.blk 11 rfl, cellOf h.blk 12 rfl, cellOf h.blk 13 rfl, cellOf h.blk 14 rfl⟩
theorem FeedRep.free (h : FeedRep w b f vt vo vs) (i : Nat) : w.frozen? ⟨b, i, none⟩ = false := freeOf h.blk i
theorem FeedRep.lt (h : FeedRep w b f vt vo vs) : b < w.heap.size := ltOf h.blk
theorem FeedRep.footLt (h : FeedRep w b f vt vo vs) : ∀ k, foot b vt vo vs k → k < w.heap.size := by
  rintro k (rfl | hk | hk | hk)
  · exact h.lt
  · exact h.text.lt hk
  · exact h.out.lt hk
  · exact h.stack.lt hk

theorem FeedRep.keep (h : FeedRep w b f vt vo vs) (hk : ∀ k, foot b vt vo vs k → w'.heap[k]? = w.heap[k]?) : FeedRep w' b f vt vo vs :=
  ⟨(hk b (.inl rfl)).trans h.blk, h.text.keep (fun k e => hk k (.inr (.inl e))), h.out.keep (fun k e => hk k (.inr (.inr (.inl e)))), h.stack.keep (fun k e => hk k (.inr (.inr (.inr e)))), h.tb, h.ob, h.sb, h.to, h.ts, h.os⟩
theorem FeedRep.fr (h : FeedRep w b f vt vo vs) {F : Nat → Prop} (hf : Fr F w w') (hd : ∀ k, foot b vt vo vs k → ¬ F k) : FeedRep w' b f vt vo vs :=
  h.keep fun k hk => hf.block k (h.footLt k hk) (hd k hk)
theorem FeedRep.alloc (h : FeedRep w b f vt vo vs) (o : Obj) : FeedRep (w.alloc o) b f vt vo vs := h.keep fun k hk => Below.heap_alloc w o k (h.footLt k hk)
theorem FeedRep.drew (h : FeedRep w b f vt vo vs) : FeedRep w.drew b f vt vo vs := h.keep fun _ _ => rfl
theorem FeedRep.drewN (h : FeedRep w b f vt vo vs) (n : Nat) : FeedRep (w.drewN n) b f vt vo vs := h.keep fun _ _ => rfl

/-- A plain field is written. -/
theorem FeedRep.set (h : FeedRep w b f vt vo vs) (i : Nat) (v : Value) (f' : Feed) (hc : (feedCells f vt vo vs).setIfInBounds i v = feedCells f' vt vo vs)
    (ht : f'.text = f.text) (ho : f'.out = f.out) (hs : f'.stack = f.stack) : FeedRep (w.setCell ⟨b, i, none⟩ v) b f' vt vo vs :=
  ⟨by rw [heap_setCell_same w b i _ _ v h.blk, hc], by rw [ht]; exact h.text.setCell (p := ⟨b, i, none⟩) h.tb.ne v, by rw [ho]; exact h.out.setCell (p := ⟨b, i, none⟩) h.ob.ne v, by rw [hs]; exact h.stack.setCell (p := ⟨b, i, none⟩) h.sb.ne v,
   h.tb, h.ob, h.sb, h.to, h.ts, h.os⟩

/-- One more item stands in the list: behind the append and the store into the field. -/
theorem FeedRep.putOut (h : FeedRep w b f vt vo vs) {g cap : Nat} {a : Atom}
    (hown : w'.ownsRow 0 72 3 (.slice (some ⟨g, 0, none⟩) (f.out.length + 1) cap) (f.out.length + 1) (f.out.flatMap cAtom ++ cAtom a))
    (hg : w.grownBy w' vo.ownBlock) (hat : vo.ownBlock = some g ∨ w.heap.size ≤ g) :
    FeedRep (w'.setCell ⟨b, 5, none⟩ (.slice (some ⟨g, 0, none⟩) (f.out.length + 1) cap)) b { f with out := f.out ++ [a] } vt (.slice (some ⟨g, 0, none⟩) (f.out.length + 1) cap) vs := by
  have hgb : g ≠ b := by rcases hat with e | e; exact fun x => h.ob g e (by rw [x]); have := h.lt; omega
  have hap : ∀ v : Value, (∀ k, v.ownBlock = some k → k < w.heap.size) → Apart v.ownBlock vo.ownBlock → Apart v.ownBlock (some g) := by
    intro v hlt ha k hk e
    rcases hat with x | x
    · exact ha k hk (by rw [x]; exact e)
    · have := hlt k hk; simp at e; omega
  have hb' : w'.heap[b]? = some (.cells (feedCells f vt vo vs) 48 (0, 0)) := (hg.block b h.lt (fun e => h.ob b e.symm rfl)).trans h.blk
  refine ⟨?_, ?_, ?_, ?_, h.tb, ?_, h.sb, ?_, h.ts, ?_⟩
  · rw [heap_setCell_same w' b 5 _ _ _ hb']; rfl
  · exact (h.text.grown hg h.to).setCell (p := ⟨b, 5, none⟩) h.tb.ne _
  · exact (owns_append hown).setCell (p := ⟨b, 5, none⟩) (by simpa [Value.ownBlock] using hgb) _
  · exact (h.stack.grown hg h.os.symm).setCell (p := ⟨b, 5, none⟩) h.sb.ne _
  · intro k hk; simp [Value.ownBlock] at hk; subst hk; simpa using Ne.symm hgb
  · exact hap vt (fun k hk => h.text.lt hk) h.to
  · exact (hap vs (fun k hk => h.stack.lt hk) h.os.symm).symm

theorem FeedRep.putText (h : FeedRep w b f vt vo vs) {g cap : Nat} {a : UInt8}
    (hown : w'.ownsRow 0 5 1 (.slice (some ⟨g, 0, none⟩) (f.text.length + 1) cap) (f.text.length + 1) (f.text.flatMap cByte ++ cByte a))
    (hg : w.grownBy w' vt.ownBlock) (hat : vt.ownBlock = some g ∨ w.heap.size ≤ g) :
    FeedRep (w'.setCell ⟨b, 4, none⟩ (.slice (some ⟨g, 0, none⟩) (f.text.length + 1) cap)) b { f with text := f.text ++ [a] } (.slice (some ⟨g, 0, none⟩) (f.text.length + 1) cap) vo vs := by
  have hgb : g ≠ b := by rcases hat with e | e; exact fun x => h.tb g e (by rw [x]); have := h.lt; omega
  have hap : ∀ v : Value, (∀ k, v.ownBlock = some k → k < w.heap.size) → Apart v.ownBlock vt.ownBlock → Apart v.ownBlock (some g) := by
    intro v hlt ha k hk e
    rcases hat with x | x
    · exact ha k hk (by rw [x]; exact e)
    · have := hlt k hk; simp at e; omega
  have hb' : w'.heap[b]? = some (.cells (feedCells f vt vo vs) 48 (0, 0)) := (hg.block b h.lt (fun e => h.tb b e.symm rfl)).trans h.blk
  refine ⟨?_, ?_, ?_, ?_, ?_, h.ob, h.sb, ?_, ?_, h.os⟩
  · rw [heap_setCell_same w' b 4 _ _ _ hb']; rfl
  · exact (owns_append hown).setCell (p := ⟨b, 4, none⟩) (by simpa [Value.ownBlock] using hgb) _
  · exact (h.out.grown hg h.to.symm).setCell (p := ⟨b, 4, none⟩) h.ob.ne _
  · exact (h.stack.grown hg h.ts.symm).setCell (p := ⟨b, 4, none⟩) h.sb.ne _
  · intro k hk; simp [Value.ownBlock] at hk; subst hk; simpa using Ne.symm hgb
  · exact (hap vo (fun k hk => h.out.lt hk) h.to.symm).symm
  · exact (hap vs (fun k hk => h.stack.lt hk) h.ts.symm).symm

theorem FeedRep.push (h : FeedRep w b f vt vo vs) {g cap : Nat} {a : Fm}
    (hown : w'.ownsRow 0 106 8 (.slice (some ⟨g, 0, none⟩) (f.stack.length + 1) cap) (f.stack.length + 1) (f.stack.reverse.flatMap cFrame ++ cFrame a))
    (hg : w.grownBy w' vs.ownBlock) (hat : vs.ownBlock = some g ∨ w.heap.size ≤ g) :
    FeedRep (w'.setCell ⟨b, 6, none⟩ (.slice (some ⟨g, 0, none⟩) (f.stack.length + 1) cap)) b { f with stack := a :: f.stack } vt vo (.slice (some ⟨g, 0, none⟩) (f.stack.length + 1) cap) := by
  have hgb : g ≠ b := by rcases hat with e | e; exact fun x => h.sb g e (by rw [x]); have := h.lt; omega
  have hap : ∀ v : Value, (∀ k, v.ownBlock = some k → k < w.heap.size) → Apart v.ownBlock vs.ownBlock → Apart v.ownBlock (some g) := by
    intro v hlt ha k hk e
    rcases hat with x | x
    · exact ha k hk (by rw [x]; exact e)
    · have := hlt k hk; simp at e; omega
  have hb' : w'.heap[b]? = some (.cells (feedCells f vt vo vs) 48 (0, 0)) := (hg.block b h.lt (fun e => h.sb b e.symm rfl)).trans h.blk
  have hrl : f.stack.reverse.length = f.stack.length := List.length_reverse
  refine ⟨?_, ?_, ?_, ?_, h.tb, h.ob, ?_, h.to, ?_, ?_⟩
  · rw [heap_setCell_same w' b 6 _ _ _ hb']; rfl
  · exact (h.text.grown hg h.ts).setCell (p := ⟨b, 6, none⟩) h.tb.ne _
  · exact (h.out.grown hg h.os).setCell (p := ⟨b, 6, none⟩) h.ob.ne _
  · have := owns_append (l := f.stack.reverse) (c := cFrame) (a := a) (w := w') (T := 106) (sz := 8) (g := g) (cap := cap) (by rw [hrl]; exact hown)
    rw [hrl] at this
    have e : ({ f with stack := a :: f.stack } : Feed).stack.reverse = f.stack.reverse ++ [a] := by simp
    rw [e]
    exact this.setCell (p := ⟨b, 6, none⟩) (by simpa [Value.ownBlock] using hgb) _
  · intro k hk; simp [Value.ownBlock] at hk; subst hk; simpa using Ne.symm hgb
  · exact hap vt (fun k hk => h.text.lt hk) h.ts
  · exact hap vo (fun k hk => h.out.lt hk) h.os

/-- The innermost one, open. -/
theorem FeedRep.top {x : Fm} {rest : List Fm} (h : FeedRep w b f vt vo vs) (hs : f.stack = x :: rest) :
    ∃ g cap, vs = .slice (some ⟨g, 0, none⟩) (rest.length + 1) cap ∧ rest.length + 1 ≤ cap ∧ cap ≤ maxLen ∧
      w.cell? ⟨g, rest.length * 8, none⟩ = some (.int .i64 x.kind) ∧ w.cell? ⟨g, rest.length * 8 + 1, none⟩ = some (.int .i64 x.at_) ∧
      w.cell? ⟨g, rest.length * 8 + 5, none⟩ = some (.int .u64 x.left) ∧ w.cell? ⟨g, rest.length * 8 + 6, none⟩ = some (S x.key) ∧ w.cell? ⟨g, rest.length * 8 + 7, none⟩ = some (.bool x.any) ∧
      (∀ i, w.frozen? ⟨g, i, none⟩ = false) := by
  have h' : Owns w 106 8 cFrame vs (rest.reverse ++ [x]) := by have := h.stack; rw [hs] at this; simpa using this
  obtain ⟨g, cap, h1, h2, h3, h4, h5⟩ := h'.last cFrame_len
  rw [List.length_reverse] at h1 h2 h4
  exact ⟨g, cap, h1, h2, h3, h4 0 _ rfl, h4 1 _ rfl, h4 5 _ rfl, h4 6 _ rfl, h4 7 _ rfl, h5⟩

/-- A cell of the innermost one is written. -/
theorem FeedRep.setTop {x y : Fm} {rest : List Fm} {g cap : Nat} (h : FeedRep w b f vt vo (.slice (some ⟨g, 0, none⟩) (rest.length + 1) cap)) (hs : f.stack = x :: rest) (i : Nat) (u : Value) (hc : cFrame y = (cFrame x).set i u) :
    FeedRep (w.setCell ⟨g, rest.length * 8 + i, none⟩ u) b { f with stack := y :: rest } vt vo (.slice (some ⟨g, 0, none⟩) (rest.length + 1) cap) := by
  have h' : Owns w 106 8 cFrame (.slice (some ⟨g, 0, none⟩) (rest.reverse.length + 1) cap) (rest.reverse ++ [x]) := by have := h.stack; rw [hs] at this; simpa using this
  have k := h'.setLast cFrame_len i u hc
  rw [List.length_reverse] at k
  refine ⟨?_, h.text.setCell (p := ⟨g, _, none⟩) (fun e => h.ts g e rfl) u, h.out.setCell (p := ⟨g, _, none⟩) (fun e => h.os g e rfl) u, by simpa using k, h.tb, h.ob, h.sb, h.to, h.ts, h.os⟩
  rw [heap_setCell_other _ _ _ _ (fun e => h.sb g rfl (by rw [e]))]
  exact h.blk

/-- The innermost one is taken off. -/
theorem FeedRep.pop {x : Fm} {rest : List Fm} {g cap : Nat} (h : FeedRep w b f vt vo (.slice (some ⟨g, 0, none⟩) (rest.length + 1) cap)) (hs : f.stack = x :: rest) :
    FeedRep (w.setCell ⟨b, 6, none⟩ (.slice (some ⟨g, 0, none⟩) rest.length cap)) b { f with stack := rest } vt vo (.slice (some ⟨g, 0, none⟩) rest.length cap) := by
  have h' : Owns w 106 8 cFrame (.slice (some ⟨g, 0, none⟩) (rest.reverse.length + 1) cap) (rest.reverse ++ [x]) := by have := h.stack; rw [hs] at this; simpa using this
  have k := h'.pop cFrame_len
  rw [List.length_reverse] at k
  refine ⟨by rw [heap_setCell_same w b 6 _ _ _ h.blk]; rfl, h.text.setCell (p := ⟨b, 6, none⟩) h.tb.ne _, h.out.setCell (p := ⟨b, 6, none⟩) h.ob.ne _, k.setCell (p := ⟨b, 6, none⟩) h.sb.ne _, h.tb, h.ob, h.sb, h.to, h.ts, h.os⟩

/-- What an append to the list of items, and the store into its field, leave. -/
def AfterOut (w w' : World) (b : Nat) (f : Feed) (a : Atom) (vt vo vs : Value) : Prop :=
  ∃ vo', FeedRep w' b { f with out := f.out ++ [a] } vt vo' vs ∧ Fr (foot b vt vo vs) w w' ∧ Fresh w (foot b vt vo vs) (foot b vt vo' vs)
theorem FeedRep.afterOut (h : FeedRep w b f vt vo vs) {g cap : Nat} {a : Atom}
    (hown : w'.ownsRow 0 72 3 (.slice (some ⟨g, 0, none⟩) (f.out.length + 1) cap) (f.out.length + 1) (f.out.flatMap cAtom ++ cAtom a))
    (hg : w.grownBy w' vo.ownBlock) (hat : vo.ownBlock = some g ∨ w.heap.size ≤ g) :
    AfterOut w (w'.setCell ⟨b, 5, none⟩ (.slice (some ⟨g, 0, none⟩) (f.out.length + 1) cap)) b f a vt vo vs := by
  refine ⟨_, h.putOut hown hg hat, ((Fr.refl _ w).grown hg (fun k e => .inl (.inr (.inr (.inl e))))).setCell (.inl (.inl rfl)) _, ?_⟩
  rintro k (rfl | hk | hk | hk)
  · exact .inl (.inl rfl)
  · exact .inl (.inr (.inl hk))
  · simp only [Value.ownBlock, Option.some.injEq] at hk
    subst hk
    rcases hat with e | e
    · exact .inl (.inr (.inr (.inl e)))
    · exact .inr e
  · exact .inl (.inr (.inr (.inr hk)))
def AfterPush (w w' : World) (b : Nat) (f : Feed) (a : Fm) (vt vo vs : Value) : Prop :=
  ∃ vs', FeedRep w' b { f with stack := a :: f.stack } vt vo vs' ∧ Fr (foot b vt vo vs) w w' ∧ Fresh w (foot b vt vo vs) (foot b vt vo vs')
theorem FeedRep.afterPush (h : FeedRep w b f vt vo vs) {g cap : Nat} {a : Fm}
    (hown : w'.ownsRow 0 106 8 (.slice (some ⟨g, 0, none⟩) (f.stack.length + 1) cap) (f.stack.length + 1) (f.stack.reverse.flatMap cFrame ++ cFrame a))
    (hg : w.grownBy w' vs.ownBlock) (hat : vs.ownBlock = some g ∨ w.heap.size ≤ g) :
    AfterPush w (w'.setCell ⟨b, 6, none⟩ (.slice (some ⟨g, 0, none⟩) (f.stack.length + 1) cap)) b f a vt vo vs := by
  refine ⟨_, h.push hown hg hat, ((Fr.refl _ w).grown hg (fun k e => .inl (.inr (.inr (.inr e))))).setCell (.inl (.inl rfl)) _, ?_⟩
  rintro k (rfl | hk | hk | hk)
  · exact .inl (.inl rfl)
  · exact .inl (.inr (.inl hk))
  · exact .inl (.inr (.inr (.inl hk)))
  · simp only [Value.ownBlock, Option.some.injEq] at hk
    subst hk
    rcases hat with e | e
    · exact .inl (.inr (.inr (.inr e)))
    · exact .inr e
def AfterText (w w' : World) (b : Nat) (f : Feed) (a : UInt8) (vt vo vs : Value) : Prop :=
  ∃ vt', FeedRep w' b { f with text := f.text ++ [a] } vt' vo vs ∧ Fr (foot b vt vo vs) w w' ∧ Fresh w (foot b vt vo vs) (foot b vt' vo vs)
theorem FeedRep.afterText (h : FeedRep w b f vt vo vs) {g cap : Nat} {a : UInt8}
    (hown : w'.ownsRow 0 5 1 (.slice (some ⟨g, 0, none⟩) (f.text.length + 1) cap) (f.text.length + 1) (f.text.flatMap cByte ++ cByte a))
    (hg : w.grownBy w' vt.ownBlock) (hat : vt.ownBlock = some g ∨ w.heap.size ≤ g) :
    AfterText w (w'.setCell ⟨b, 4, none⟩ (.slice (some ⟨g, 0, none⟩) (f.text.length + 1) cap)) b f a vt vo vs := by
  refine ⟨_, h.putText hown hg hat, ((Fr.refl _ w).grown hg (fun k e => .inl (.inr (.inl e)))).setCell (.inl (.inl rfl)) _, ?_⟩
  rintro k (rfl | hk | hk | hk)
  · exact .inl (.inl rfl)
  · simp only [Value.ownBlock, Option.some.injEq] at hk
    subst hk
    rcases hat with e | e
    · exact .inl (.inr (.inl e))
    · exact .inr e
  · exact .inl (.inr (.inr (.inl hk)))
  · exact .inl (.inr (.inr (.inr hk)))

theorem FeedRep.stackLen (h : FeedRep w b f vt vo vs) : ∃ a cap, vs = .slice a f.stack.length cap := by
  obtain ⟨a, cap, hv, _⟩ := h.stack.len
  exact ⟨a, cap, by simpa using hv⟩
end
end Go.Proofs.YtclbbfmpkhfigaaDoor
