/-
  What jsonfeed's value does to the feed's memory: a token at hand, a frame more.
-/
import Derived.Test.YtahojodgmjmpnaaYcJ
import Derived.Test.YtahojodgmjmpnaaJgM
namespace Go.Proofs.Ytahojodgmjmpnaa
open Go.RowKit Go.Px

theorem apart_put {l1 o n l2 : List (Option Nat)} (h : (l1 ++ (o ++ l2)).Pairwise Apart) (hn : n.Pairwise Apart) (hf : ∀ k, some k ∈ n → some k ∉ l1 ∧ some k ∉ l2) : (l1 ++ (n ++ l2)).Pairwise Apart := by
  rw [List.pairwise_append, List.pairwise_append] at h ⊢
  obtain ⟨h1, ⟨h2, h3, h4⟩, h5⟩ := h
  refine ⟨h1, ⟨hn, h3, ?_⟩, ?_⟩
  · intro x hx y hy k e1 e2
    subst e1
    subst e2
    exact (hf k hx).2 hy
  · intro x hx y hy k e1 e2
    subst e1
    subst e2
    rcases List.mem_append.1 hy with hy | hy
    · exact (hf k hy).1 hx
    · exact h5 _ hx _ (List.mem_append_right _ hy) k rfl rfl
section
variable {w w' : World} {b : Nat} {f : J6.Feed} {vo vs tv tv' : Value} {tb tb' : List (Option Nat)} {ps : List (J6.Fm × Value)} {F : Nat → Prop}
/-- Another token comes to hand. -/
theorem Parts.setTok (h : Parts w f vo vs tv tb ps) {t' : J6.Tok} (ht : TokIs w tv' tb' t') (hn : ∀ k, some k ∈ tb' → some k ∉ blocks vo vs tb ps) : Parts w { f with now := t' } vo vs tv' tb' ps := by
  refine ⟨h.out, h.stack, h.fms, h.names, ht, ?_⟩
  refine apart_put (l1 := [vo.ownBlock, vs.ownBlock]) (o := tb) (n := tb') (l2 := nmBlocks ps) h.ap ht.ap fun k hk => ⟨fun x => hn k hk ?_, fun x => hn k hk ?_⟩
  · simp only [List.mem_cons, List.not_mem_nil, or_false] at x
    exact mem_blocks.2 (x.elim (fun y => .inl y.symm) (fun y => .inr (.inl y.symm)))
  · exact mem_blocks.2 (.inr (.inr (.inr x)))
theorem FeedAt.lt (h : FeedAt w b f F) : ∀ k, F k → k < w.heap.size := by
  obtain ⟨vo, vs, tv, tb, ps, h, rfl⟩ := h
  exact fun k hk => h.footLt hk
theorem FeedAt.same (h : FeedAt w b f F) (hs : Same w w') : FeedAt w' b f F := by
  obtain ⟨vo, vs, tv, tb, ps, h, e⟩ := h
  exact ⟨vo, vs, tv, tb, ps, h.same hs, e⟩
theorem FeedAt.own (h : FeedAt w b f F) : F b := by
  obtain ⟨vo, vs, tv, tb, ps, _, rfl⟩ := h
  exact .inl rfl
/-- A token is laid at hand: nothing was. -/
theorem FeedAt.tok (h : FeedAt w b f F) (hnow : f.now = .none) {t' : J6.Tok} (ht : TokIs w tv' tb' t') (hd : ∀ k, some k ∈ tb' → ¬ F k) :
    FeedAt (w.setCell ⟨b, 8, none⟩ tv') b { f with now := t' } (fun k => F k ∨ some k ∈ tb') := by
  obtain ⟨vo, vs, tv, tb, ps, h, rfl⟩ := h
  have htb : tb = [] := by have := h.parts.tok; rw [hnow] at this; exact this.2
  subst htb
  have hp := h.parts.setTok ht (fun k hk x => hd k hk (.inr x))
  have hnb : some b ∉ blocks vo vs tb' ps := fun e => by
    rcases mem_blocks.1 e with x | x | x | x
    · exact h.nb (mem_blocks.2 (.inl x))
    · exact h.nb (mem_blocks.2 (.inr (.inl x)))
    · exact hd b x (.inl rfl)
    · exact h.nb (mem_blocks.2 (.inr (.inr (.inr x))))
  refine ⟨vo, vs, tv', tb', ps, ⟨?_, hp.keep fun k hk => heap_setCell_other _ _ _ _ (fun e => hnb (by have e' : k = b := e; rw [e'] at hk; exact hk)), hnb⟩, ?_⟩
  · rw [heap_setCell_same w b 8 _ _ tv' h.blk]
    rfl
  · funext k
    simp only [foot, mem_blocks, eq_iff_iff]
    constructor
    · rintro ((x | x | x | x | x) | x)
      · exact .inl x
      · exact .inr (.inl x)
      · exact .inr (.inr (.inl x))
      · cases x
      · exact .inr (.inr (.inr (.inr x)))
      · exact .inr (.inr (.inr (.inl x)))
    · rintro (x | x | x | x | x)
      · exact .inl (.inl x)
      · exact .inl (.inr (.inl x))
      · exact .inl (.inr (.inr (.inl x)))
      · exact .inr x
      · exact .inl (.inr (.inr (.inr (.inr x))))
/-- What an append to the frames, and the store into its field, leave. -/
def AfterPush (w w' : World) (b : Nat) (f : J6.Feed) (x : J6.Fm) (F : Nat → Prop) : Prop := After w w' b { f with stack := x :: f.stack } F
theorem FeedRep.afterPush (h : FeedRep w b f vo vs tv tb ps) {g cap : Nat} {x : J6.Fm} (hx : x.names = [])
    (hown : w'.ownsRow 0 92 3 (.slice (some ⟨g, 0, none⟩) (f.stack.length + 1) cap) (f.stack.length + 1) (ps.reverse.flatMap cFr ++ cFr (x, .slice none 0 0)))
    (hg : w.grownBy w' vs.ownBlock) (hat : vs.ownBlock = some g ∨ w.heap.size ≤ g) :
    AfterPush w (w'.setCell ⟨b, 6, none⟩ (.slice (some ⟨g, 0, none⟩) (f.stack.length + 1) cap)) b f x (foot b (blocks vo vs tb ps)) := by
  have hf : Fr (fun k => vs.ownBlock = some k) w w' := (Fr.refl _ w).grown hg (fun k e => .inl e)
  have hF : ∀ k, vs.ownBlock = some k → some k ∈ blocks vo vs tb ps := fun k e => mem_blocks.2 (.inr (.inl e))
  have hn0 : ∀ k, (Value.slice (some ⟨g, 0, none⟩) (f.stack.length + 1) cap).ownBlock = some k → vs.ownBlock = some k ∨ w.heap.size ≤ k := fun k e => by
    simp only [Value.ownBlock, Option.some.injEq] at e
    subst e
    exact hat
  have hn : ∀ k, some k ∈ blocks vo (.slice (some ⟨g, 0, none⟩) (f.stack.length + 1) cap) tb ((x, .slice none 0 0) :: ps) → some k ∈ blocks vo vs tb ps ∨ w.heap.size ≤ k := fun k e => by
    rcases mem_blocks.1 e with y | y | y | y
    · exact .inl (mem_blocks.2 (.inl y))
    · exact (hn0 k y).imp (fun y => mem_blocks.2 (.inr (.inl y))) id
    · exact .inl (mem_blocks.2 (.inr (.inr (.inl y))))
    · simp only [nmBlocks, List.map_cons, Value.ownBlock, List.mem_cons, reduceCtorEq, false_or] at y
      exact .inl (mem_blocks.2 (.inr (.inr (.inr y))))
  have hl : ps.reverse.length = f.stack.length := by rw [List.length_reverse, ← h.parts.fms, List.length_map]
  have ho : Owns w' 92 3 cFr (.slice (some ⟨g, 0, none⟩) (f.stack.length + 1) cap) ((x, .slice none 0 0) :: ps).reverse := by
    rw [List.reverse_cons, ← hl]
    rw [← hl] at hown
    exact owns_append hown
  exact ⟨_, ⟨_, _, _, _, _, h.store hf hF (h.parts.push hf (fun _ e => e) hx ho hn0) hn 6 _ rfl, rfl⟩, (Fr.foot hf hF).setCell (p := ⟨b, 6, none⟩) (.inl (.inl rfl)) _, Fresh.foot hn⟩
end
theorem Try.infoFm : (Try.prog.info? 92).map (fun i => (i.zero, i.size, i.bytes)) = some (some (.agg #[.int .i64 0, .int .i64 0, .slice none 0 0]), 3, 40) := by kernel_rfl
theorem After.ofFr {w w1 w' : World} {b : Nat} {f : J6.Feed} {F : Nat → Prop} (hf : Fr F w w1) (h : After w1 w' b f F) : After w w' b f F := by
  obtain ⟨F', h1, h2, h3⟩ := h
  exact ⟨F', h1, hf.step (Fresh.refl _ _) h2, Fresh.trans (Fresh.refl _ _) hf.size h3⟩
/-- New tokens. -/
theorem tok_text (w : World) (k : Nat) (h : w.heap[k]? = some (.cells #[.int .i64 0, .slice none 0 0, .int .i32 0, .int .i64 0, .int .i32 0, .int .u8 0, .int .u8 0] 89 (0, 0))) :
    TokIs w (.iface 87 (.pointer (some ⟨k, 0, none⟩))) [some k, none] (.str J6.txt0) :=
  ⟨k, .slice none 0 0, rfl, rfl, h, owns_nil _ _ _ _, fun j hj => by simp [Value.ownBlock] at hj⟩
theorem tok_word (w : World) (k : Nat) (r : Bytes) (h : w.heap[k]? = some (.cells #[S r] 109 (0, 0))) :
    TokIs w (.iface 107 (.pointer (some ⟨k, 0, none⟩))) [some k] (.word r) := ⟨k, rfl, rfl, h⟩
theorem tok_num (w : World) (k q : Nat) (t : Bytes) (vt : Value) (h : NumAt w k q t vt) :
    TokIs w (.iface 58 (.pointer (some ⟨k, 0, none⟩))) [some k, vt.ownBlock] (.num q t) := ⟨k, vt, rfl, rfl, h⟩
end Go.Proofs.Ytahojodgmjmpnaa
