/-
  How a jsonfeed.Feed lies in memory (FeedRep), and what becomes of that under stores and appends.
-/
import Derived.Test.YtahojodgmjmpnaaWdJ
namespace Go.Proofs.Ytahojodgmjmpnaa
open Go.RowKit Go.Px

/-! Rows of blocks apart -/
theorem apart_swap {l1 o n l2 : List (Option Nat)} {B : Nat} (h : (l1 ++ (o ++ l2)).Pairwise Apart) (hlt : ∀ k, some k ∈ l1 ∨ some k ∈ l2 → k < B) (hn : n.Pairwise Apart)
    (hf : ∀ k, some k ∈ n → some k ∈ o ∨ B ≤ k) : (l1 ++ (n ++ l2)).Pairwise Apart := by
  rw [List.pairwise_append, List.pairwise_append] at h ⊢
  obtain ⟨h1, ⟨h2, h3, h4⟩, h5⟩ := h
  refine ⟨h1, ⟨hn, h3, ?_⟩, ?_⟩
  · intro x hx y hy k e1 e2
    subst e1
    subst e2
    rcases hf k hx with z | z
    · exact h4 _ z _ hy k rfl rfl
    · have := hlt k (.inr hy); omega
  · intro x hx y hy k e1 e2
    subst e1
    subst e2
    rcases List.mem_append.1 hy with hy | hy
    · rcases hf k hy with z | z
      · exact h5 _ hx _ (List.mem_append_left _ z) k rfl rfl
      · have := hlt k (.inl hx); omega
    · exact h5 _ hx _ (List.mem_append_right _ hy) k rfl rfl

def cVal (a : Val) : List Value := [.int .i64 a.kind, .int .i64 a.kids, S a.text]
theorem cVal_len (a : Val) : (cVal a).length = 3 := rfl
def cStr (l : Bytes) : List Value := [S l]
theorem cStr_len (a : Bytes) : (cStr a).length = 1 := rfl
def cFr (p : J6.Fm × Value) : List Value := [.int .i64 (p.1.no : Nat), .int .i64 (p.1.at_ : Nat), p.2]
theorem cFr_len (a : J6.Fm × Value) : (cFr a).length = 3 := rfl
/-- What a token is as a value, the blocks that it has, and what lies there. -/
def TokIs (w : World) (v : Value) (bs : List (Option Nat)) : J6.Tok → Prop
  | .none => v = .nilIface ∧ bs = []
  | .word r => ∃ k, v = .iface 107 (.pointer (some ⟨k, 0, none⟩)) ∧ bs = [some k] ∧ WordAt w k r
  | .num q t => ∃ k vt, v = .iface 58 (.pointer (some ⟨k, 0, none⟩)) ∧ bs = [some k, vt.ownBlock] ∧ NumAt w k q t vt
  | .str t => ∃ k vt, v = .iface 87 (.pointer (some ⟨k, 0, none⟩)) ∧ bs = [some k, vt.ownBlock] ∧ TxtAt w k t vt
def nmBlocks (ps : List (J6.Fm × Value)) : List (Option Nat) := ps.map fun p => p.2.ownBlock
def blocks (vo vs : Value) (tb : List (Option Nat)) (ps : List (J6.Fm × Value)) : List (Option Nat) := vo.ownBlock :: vs.ownBlock :: (tb ++ nmBlocks ps)
structure Parts (w : World) (f : J6.Feed) (vo vs tv : Value) (tb : List (Option Nat)) (ps : List (J6.Fm × Value)) : Prop where
  out : Owns w 64 3 cVal vo f.out
  stack : Owns w 92 3 cFr vs ps.reverse
  fms : ps.map Prod.fst = f.stack
  names : ∀ p ∈ ps, Owns w 9 1 cStr p.2 p.1.names
  tok : TokIs w tv tb f.now
  ap : (blocks vo vs tb ps).Pairwise Apart
def feedCells (f : J6.Feed) (vo vs tv : Value) : Array Value := #[.int .i64 f.lim.d, .int .i64 f.lim.i, .int .i64 f.lim.b, .int .i64 f.lim.r, .int .i64 (f.n : Nat), vo, vs, .int .i64 (f.next : Nat), tv, .int .i64 f.err, .int .i64 f.at_]
structure FeedRep (w : World) (b : Nat) (f : J6.Feed) (vo vs tv : Value) (tb : List (Option Nat)) (ps : List (J6.Fm × Value)) : Prop where
  blk : w.heap[b]? = some (.cells (feedCells f vo vs tv) 46 (0, 0))
  parts : Parts w f vo vs tv tb ps
  nb : some b ∉ blocks vo vs tb ps
def foot (b : Nat) (bl : List (Option Nat)) (k : Nat) : Prop := k = b ∨ some k ∈ bl
def FeedAt (w : World) (b : Nat) (f : J6.Feed) (F : Nat → Prop) : Prop := ∃ vo vs tv tb ps, FeedRep w b f vo vs tv tb ps ∧ F = foot b (blocks vo vs tb ps)
/-- What a call of the feed leaves. -/
def After (w w' : World) (b : Nat) (f' : J6.Feed) (F : Nat → Prop) : Prop := ∃ F', FeedAt w' b f' F' ∧ Fr F w w' ∧ Fresh w F F'

section
variable {w w' : World} {b : Nat} {f f' : J6.Feed} {vo vs tv vo' vs' tv' : Value} {tb tb' : List (Option Nat)} {ps ps' : List (J6.Fm × Value)} {F : Nat → Prop}

theorem TokIs.lt {v : Value} {bs : List (Option Nat)} {t : J6.Tok} (h : TokIs w v bs t) {k : Nat} (hk : some k ∈ bs) : k < w.heap.size := by
  cases t with
  | none => rw [h.2] at hk; cases hk
  | word r =>
    obtain ⟨j, _, hb, hw⟩ := h
    rw [hb] at hk
    simp only [List.mem_cons, Option.some.injEq, List.not_mem_nil, or_false] at hk
    subst hk
    exact ltOf hw
  | num q t =>
    obtain ⟨j, vt, _, hb, hw⟩ := h
    rw [hb] at hk
    simp only [List.mem_cons, Option.some.injEq, List.not_mem_nil, or_false] at hk
    rcases hk with rfl | hk
    · exact ltOf hw.blk
    · exact hw.text.lt hk.symm
  | str t =>
    obtain ⟨j, vt, _, hb, hw⟩ := h
    rw [hb] at hk
    simp only [List.mem_cons, Option.some.injEq, List.not_mem_nil, or_false] at hk
    rcases hk with rfl | hk
    · exact ltOf hw.blk
    · exact hw.text.lt hk.symm
theorem TokIs.keep {v : Value} {bs : List (Option Nat)} {t : J6.Tok} (h : TokIs w v bs t) (hk : ∀ k, some k ∈ bs → w'.heap[k]? = w.heap[k]?) : TokIs w' v bs t := by
  cases t with
  | none => exact h
  | word r =>
    obtain ⟨j, hv, hb, hw⟩ := h
    refine ⟨j, hv, hb, ?_⟩
    unfold WordAt at hw ⊢
    rw [hk j (by rw [hb]; simp)]
    exact hw
  | num q t =>
    obtain ⟨j, vt, hv, hb, hw⟩ := h
    exact ⟨j, vt, hv, hb, (hk j (by rw [hb]; simp)).trans hw.blk, hw.text.keep (fun k e => hk k (by rw [hb, ← e]; simp)), hw.tb⟩
  | str t =>
    obtain ⟨j, vt, hv, hb, hw⟩ := h
    exact ⟨j, vt, hv, hb, (hk j (by rw [hb]; simp)).trans hw.blk, hw.text.keep (fun k e => hk k (by rw [hb, ← e]; simp)), hw.tb⟩
theorem TokIs.ap {v : Value} {bs : List (Option Nat)} {t : J6.Tok} (h : TokIs w v bs t) : bs.Pairwise Apart := by
  cases t with
  | none => rw [h.2]; exact List.Pairwise.nil
  | word r => obtain ⟨j, _, hb, _⟩ := h; rw [hb]; simp
  | num q t => obtain ⟨j, vt, _, hb, hw⟩ := h; rw [hb]; simp; exact hw.tb.symm
  | str t => obtain ⟨j, vt, _, hb, hw⟩ := h; rw [hb]; simp; exact hw.tb.symm

theorem mem_blocks {k : Nat} : some k ∈ blocks vo vs tb ps ↔ (vo.ownBlock = some k ∨ vs.ownBlock = some k ∨ some k ∈ tb ∨ some k ∈ nmBlocks ps) := by
  simp only [blocks, List.mem_cons, List.mem_append]
  constructor
  · rintro (h | h | h | h)
    · exact .inl h.symm
    · exact .inr (.inl h.symm)
    · exact .inr (.inr (.inl h))
    · exact .inr (.inr (.inr h))
  · rintro (h | h | h | h)
    · exact .inl h.symm
    · exact .inr (.inl h.symm)
    · exact .inr (.inr (.inl h))
    · exact .inr (.inr (.inr h))
theorem mem_nm {k : Nat} : some k ∈ nmBlocks ps ↔ ∃ p ∈ ps, p.2.ownBlock = some k := by
  simp [nmBlocks]
theorem Parts.lt (h : Parts w f vo vs tv tb ps) {k : Nat} (hk : some k ∈ blocks vo vs tb ps) : k < w.heap.size := by
  rcases mem_blocks.1 hk with x | x | x | x
  · exact h.out.lt x
  · exact h.stack.lt x
  · exact h.tok.lt x
  · obtain ⟨p, hp, e⟩ := mem_nm.1 x
    exact (h.names p hp).lt e
theorem Parts.keep (h : Parts w f vo vs tv tb ps) (hk : ∀ k, some k ∈ blocks vo vs tb ps → w'.heap[k]? = w.heap[k]?) : Parts w' f vo vs tv tb ps :=
  ⟨h.out.keep fun k e => hk k (mem_blocks.2 (.inl e)), h.stack.keep fun k e => hk k (mem_blocks.2 (.inr (.inl e))), h.fms,
   fun p hp => (h.names p hp).keep fun k e => hk k (mem_blocks.2 (.inr (.inr (.inr (mem_nm.2 ⟨p, hp, e⟩))))), h.tok.keep fun k e => hk k (mem_blocks.2 (.inr (.inr (.inl e)))), h.ap⟩

/-- The four sorts of blocks are apart. -/
theorem Parts.split (h : Parts w f vo vs tv tb ps) : Apart vo.ownBlock vs.ownBlock ∧ (∀ k, vo.ownBlock = some k → some k ∉ tb ∧ some k ∉ nmBlocks ps) ∧ (∀ k, vs.ownBlock = some k → some k ∉ tb ∧ some k ∉ nmBlocks ps) ∧
    (∀ k, some k ∈ tb → some k ∉ nmBlocks ps) ∧ (nmBlocks ps).Pairwise Apart := by
  have h := h.ap
  simp only [blocks, List.pairwise_cons, List.pairwise_append] at h
  obtain ⟨h1, h2, h3, h4, h5⟩ := h
  refine ⟨h1 _ (by simp), fun k e => ⟨fun x => ?_, fun x => ?_⟩, fun k e => ⟨fun x => ?_, fun x => ?_⟩, fun k e x => ?_, h4⟩
  · exact h1 _ (List.mem_cons_of_mem _ (List.mem_append_left _ x)) k e rfl
  · exact h1 _ (List.mem_cons_of_mem _ (List.mem_append_right _ x)) k e rfl
  · exact h2 _ (List.mem_append_left _ x) k e rfl
  · exact h2 _ (List.mem_append_right _ x) k e rfl
  · exact h5 _ e _ x k rfl rfl

/-- The list of values has changed. -/
theorem Parts.putOut (h : Parts w f vo vs tv tb ps) (hf : Fr F w w') (hF : ∀ k, F k → vo.ownBlock = some k) {l : List Val} (ho : Owns w' 64 3 cVal vo' l)
    (hn : ∀ k, vo'.ownBlock = some k → vo.ownBlock = some k ∨ w.heap.size ≤ k) : Parts w' { f with out := l } vo' vs tv tb ps := by
  obtain ⟨s1, s2, s3, s4, s5⟩ := h.split
  have kp : ∀ k, some k ∈ blocks vo vs tb ps → vo.ownBlock ≠ some k → w'.heap[k]? = w.heap[k]? := fun k hk hne => hf.block k (h.lt hk) (fun x => hne (hF k x))
  refine ⟨ho, h.stack.keep fun k e => kp k (mem_blocks.2 (.inr (.inl e))) (fun x => s1 k x e), h.fms, fun p hp => (h.names p hp).keep fun k e => ?_, h.tok.keep fun k e => ?_, ?_⟩
  · have hm := mem_nm.2 ⟨p, hp, e⟩
    exact kp k (mem_blocks.2 (.inr (.inr (.inr hm)))) (fun x => (s2 k x).2 hm)
  · exact kp k (mem_blocks.2 (.inr (.inr (.inl e)))) (fun x => (s2 k x).1 e)
  · refine apart_swap (l1 := []) (o := [vo.ownBlock]) (n := [vo'.ownBlock]) (l2 := vs.ownBlock :: (tb ++ nmBlocks ps)) (B := w.heap.size) h.ap ?_ (by simp) ?_
    · rintro k (x | x)
      · cases x
      · exact h.lt (List.mem_cons_of_mem _ x)
    · intro k hk
      simp only [List.mem_cons, List.not_mem_nil, or_false] at hk ⊢
      rcases hn k hk.symm with x | x
      · exact .inl x.symm
      · exact .inr x
/-- The token at hand has changed. -/
theorem Parts.putTok (h : Parts w f vo vs tv tb ps) (hf : Fr F w w') (hF : ∀ k, F k → some k ∈ tb) {t' : J6.Tok} (ht : TokIs w' tv' tb' t')
    (hn : ∀ k, some k ∈ tb' → some k ∈ tb ∨ w.heap.size ≤ k) : Parts w' { f with now := t' } vo vs tv' tb' ps := by
  obtain ⟨s1, s2, s3, s4, s5⟩ := h.split
  have kp : ∀ k, some k ∈ blocks vo vs tb ps → some k ∉ tb → w'.heap[k]? = w.heap[k]? := fun k hk hne => hf.block k (h.lt hk) (fun x => hne (hF k x))
  refine ⟨h.out.keep fun k e => kp k (mem_blocks.2 (.inl e)) (s2 k e).1, h.stack.keep fun k e => kp k (mem_blocks.2 (.inr (.inl e))) (s3 k e).1, h.fms, fun p hp => (h.names p hp).keep fun k e => ?_, ht, ?_⟩
  · have hm := mem_nm.2 ⟨p, hp, e⟩
    exact kp k (mem_blocks.2 (.inr (.inr (.inr hm)))) (fun x => s4 k x hm)
  · refine apart_swap (l1 := [vo.ownBlock, vs.ownBlock]) (o := tb) (n := tb') (l2 := nmBlocks ps) (B := w.heap.size) h.ap ?_ ht.ap hn
    rintro k (x | x)
    · simp only [List.mem_cons, List.not_mem_nil, or_false] at x
      exact h.lt (mem_blocks.2 (x.elim (fun y => .inl y.symm) (fun y => .inr (.inl y.symm))))
    · exact h.lt (mem_blocks.2 (.inr (.inr (.inr x))))
/-- The innermost frame has changed, and perhaps its names. -/
theorem Parts.putTop {x x' : J6.Fm} {vn vn' : Value} {rest : List (J6.Fm × Value)} (h : Parts w f vo vs tv tb ((x, vn) :: rest)) (hf : Fr F w w') (hF : ∀ k, F k → vs.ownBlock = some k ∨ vn.ownBlock = some k)
    (hs : Owns w' 92 3 cFr vs ((x', vn') :: rest).reverse) (hnm : Owns w' 9 1 cStr vn' x'.names) (hn : ∀ k, vn'.ownBlock = some k → vn.ownBlock = some k ∨ w.heap.size ≤ k) :
    Parts w' { f with stack := x' :: rest.map Prod.fst } vo vs tv tb ((x', vn') :: rest) := by
  obtain ⟨s1, s2, s3, s4, s5⟩ := h.split
  have hvn : ∀ k, vn.ownBlock = some k → some k ∈ nmBlocks ((x, vn) :: rest) := fun k e => mem_nm.2 ⟨_, List.mem_cons_self .., e⟩
  have kp : ∀ k, some k ∈ blocks vo vs tb ((x, vn) :: rest) → vs.ownBlock ≠ some k → vn.ownBlock ≠ some k → w'.heap[k]? = w.heap[k]? := fun k hk h1 h2 => hf.block k (h.lt hk) (fun x => (hF k x).elim h1 h2)
  have s5' : ∀ p ∈ rest, Apart vn.ownBlock p.2.ownBlock := by
    have := s5
    simp only [nmBlocks, List.map_cons, List.pairwise_cons] at this
    exact fun p hp => this.1 _ (List.mem_map.2 ⟨p, hp, rfl⟩)
  refine ⟨h.out.keep fun k e => kp k (mem_blocks.2 (.inl e)) (fun y => s1 k e y) (fun y => (s2 k e).2 (hvn k y)), hs, by rw [List.map_cons], ?_, h.tok.keep fun k e => kp k (mem_blocks.2 (.inr (.inr (.inl e)))) (fun y => (s3 k y).1 e) (fun y => s4 k e (hvn k y)), ?_⟩
  · intro p hp
    rcases List.mem_cons.1 hp with rfl | hp
    · exact hnm
    · refine (h.names p (List.mem_cons_of_mem _ hp)).keep fun k e => ?_
      have hm : some k ∈ nmBlocks ((x, vn) :: rest) := mem_nm.2 ⟨p, List.mem_cons_of_mem _ hp, e⟩
      exact kp k (mem_blocks.2 (.inr (.inr (.inr hm)))) (fun y => (s3 k y).2 hm) (fun y => s5' p hp k y e)
  · have := apart_swap (l1 := vo.ownBlock :: vs.ownBlock :: tb) (o := [vn.ownBlock]) (n := [vn'.ownBlock]) (l2 := nmBlocks rest) (B := w.heap.size) (by simpa [blocks, nmBlocks] using h.ap) ?_ (by simp) ?_
    · simpa [blocks, nmBlocks] using this
    · intro k y
      refine h.lt (mem_blocks.2 ?_)
      rcases y with y | y
      · simp only [List.mem_cons] at y
        rcases y with y | y | y
        · exact .inl y.symm
        · exact .inr (.inl y.symm)
        · exact .inr (.inr (.inl y))
      · refine .inr (.inr (.inr ?_))
        simp only [nmBlocks, List.map_cons, List.mem_cons]
        exact .inr y
    · intro k hk
      simp only [List.mem_cons, List.not_mem_nil, or_false] at hk ⊢
      rcases hn k hk.symm with y | y
      · exact .inl y.symm
      · exact .inr y
/-- One more frame is begun. -/
theorem Parts.push (h : Parts w f vo vs tv tb ps) (hf : Fr F w w') (hF : ∀ k, F k → vs.ownBlock = some k) {x : J6.Fm} (hx : x.names = []) (hs : Owns w' 92 3 cFr vs' ((x, .slice none 0 0) :: ps).reverse)
    (hn : ∀ k, vs'.ownBlock = some k → vs.ownBlock = some k ∨ w.heap.size ≤ k) : Parts w' { f with stack := x :: f.stack } vo vs' tv tb ((x, .slice none 0 0) :: ps) := by
  obtain ⟨s1, s2, s3, s4, s5⟩ := h.split
  have kp : ∀ k, some k ∈ blocks vo vs tb ps → vs.ownBlock ≠ some k → w'.heap[k]? = w.heap[k]? := fun k hk h1 => hf.block k (h.lt hk) (fun x => h1 (hF k x))
  refine ⟨h.out.keep fun k e => kp k (mem_blocks.2 (.inl e)) (fun y => s1 k e y), hs, by rw [List.map_cons, h.fms], ?_, h.tok.keep fun k e => kp k (mem_blocks.2 (.inr (.inr (.inl e)))) (fun y => (s3 k y).1 e), ?_⟩
  · intro p hp
    rcases List.mem_cons.1 hp with rfl | hp
    · rw [show (x, Value.slice none 0 0).1.names = [] from hx]
      exact owns_nil _ _ _ _
    · refine (h.names p hp).keep fun k e => ?_
      have hm : some k ∈ nmBlocks ps := mem_nm.2 ⟨p, hp, e⟩
      exact kp k (mem_blocks.2 (.inr (.inr (.inr hm)))) (fun y => (s3 k y).2 hm)
  · have h1 := apart_swap (l1 := [vo.ownBlock]) (o := [vs.ownBlock]) (n := [vs'.ownBlock]) (l2 := tb ++ nmBlocks ps) (B := w.heap.size) h.ap ?_ (by simp) ?_
    · have h2 := apart_swap (l1 := vo.ownBlock :: vs'.ownBlock :: tb) (o := []) (n := [none]) (l2 := nmBlocks ps) (B := w'.heap.size) (by simpa using h1) ?_ (by simp) (fun k hk => by simp at hk)
      · simpa [blocks, nmBlocks, Value.ownBlock] using h2
      · intro k y
        have hsz := hf.size
        rcases y with y | y
        · simp only [List.mem_cons] at y
          rcases y with y | y | y
          · have := h.out.lt y.symm; omega
          · exact hs.lt y.symm
          · have := h.tok.lt y; omega
        · have := h.lt (mem_blocks.2 (.inr (.inr (.inr y)))); omega
    · intro k y
      refine h.lt (mem_blocks.2 ?_)
      rcases y with y | y
      · simp only [List.mem_cons, List.not_mem_nil, or_false] at y
        exact .inl y.symm
      · rcases List.mem_append.1 y with y | y
        · exact .inr (.inr (.inl y))
        · exact .inr (.inr (.inr y))
    · intro k hk
      simp only [List.mem_cons, List.not_mem_nil, or_false] at hk ⊢
      rcases hn k hk.symm with y | y
      · exact .inl y.symm
      · exact .inr y
/-- The innermost frame is taken off. -/
theorem Parts.pop {p : J6.Fm × Value} {rest : List (J6.Fm × Value)} {g cap : Nat} (h : Parts w f vo (.slice (some ⟨g, 0, none⟩) (rest.length + 1) cap) tv tb (p :: rest)) :
    Parts w { f with stack := rest.map Prod.fst } vo (.slice (some ⟨g, 0, none⟩) rest.length cap) tv tb rest := by
  have h' : Owns w 92 3 cFr (.slice (some ⟨g, 0, none⟩) (rest.reverse.length + 1) cap) (rest.reverse ++ [p]) := by have := h.stack; simpa using this
  have k := h'.pop cFr_len
  rw [List.length_reverse] at k
  refine ⟨h.out, k, rfl, fun q hq => h.names q (List.mem_cons_of_mem _ hq), h.tok, ?_⟩
  have := h.ap
  simp only [blocks, nmBlocks, List.map_cons, Value.ownBlock] at this ⊢
  refine List.Pairwise.sublist ?_ this
  exact List.Sublist.cons_cons _ (List.Sublist.cons_cons _ (List.Sublist.append (List.Sublist.refl _) (List.Sublist.cons _ (List.Sublist.refl _))))
theorem blocks_pop {p : J6.Fm × Value} {rest : List (J6.Fm × Value)} {g n m cap k : Nat} (h : some k ∈ blocks vo (.slice (some ⟨g, 0, none⟩) n cap) tb rest) : some k ∈ blocks vo (.slice (some ⟨g, 0, none⟩) m cap) tb (p :: rest) := by
  rcases mem_blocks.1 h with x | x | x | x
  · exact mem_blocks.2 (.inl x)
  · exact mem_blocks.2 (.inr (.inl x))
  · exact mem_blocks.2 (.inr (.inr (.inl x)))
  · refine mem_blocks.2 (.inr (.inr (.inr ?_)))
    simp only [nmBlocks, List.map_cons, List.mem_cons]
    exact .inr x

theorem FeedRep.lt (h : FeedRep w b f vo vs tv tb ps) : b < w.heap.size := ltOf h.blk
theorem FeedRep.footLt (h : FeedRep w b f vo vs tv tb ps) {k : Nat} (hk : foot b (blocks vo vs tb ps) k) : k < w.heap.size := by
  rcases hk with rfl | hk
  · exact h.lt
  · exact h.parts.lt hk
theorem FeedRep.free (h : FeedRep w b f vo vs tv tb ps) (i : Nat) : w.frozen? ⟨b, i, none⟩ = false := freeOf h.blk i
theorem FeedRep.keep (h : FeedRep w b f vo vs tv tb ps) (hk : ∀ k, foot b (blocks vo vs tb ps) k → w'.heap[k]? = w.heap[k]?) : FeedRep w' b f vo vs tv tb ps :=
  ⟨(hk b (.inl rfl)).trans h.blk, h.parts.keep (fun k e => hk k (.inr e)), h.nb⟩
theorem FeedRep.alloc (h : FeedRep w b f vo vs tv tb ps) (o : Obj) : FeedRep (w.alloc o) b f vo vs tv tb ps := h.keep fun k hk => Below.heap_alloc w o k (h.footLt hk)
theorem FeedRep.fr (h : FeedRep w b f vo vs tv tb ps) (hf : Fr F w w') (hd : ∀ k, foot b (blocks vo vs tb ps) k → ¬ F k) : FeedRep w' b f vo vs tv tb ps := h.keep fun k hk => hf.block k (h.footLt hk) (hd k hk)
theorem FeedRep.same (h : FeedRep w b f vo vs tv tb ps) (hs : Same w w') : FeedRep w' b f vo vs tv tb ps := h.keep fun k hk => hs.block k (h.footLt hk) (fun x => x)
theorem FeedRep.drew (h : FeedRep w b f vo vs tv tb ps) : FeedRep w.drew b f vo vs tv tb ps := h.keep fun _ _ => rfl
theorem FeedRep.drewN (h : FeedRep w b f vo vs tv tb ps) (n : Nat) : FeedRep (w.drewN n) b f vo vs tv tb ps := h.keep fun _ _ => rfl
/-- The parts have changed, no field. -/
theorem FeedRep.inner (h : FeedRep w b f vo vs tv tb ps) (hf : Fr F w w') (hF : ∀ k, F k → some k ∈ blocks vo vs tb ps) (hp : Parts w' f' vo' vs' tv' tb' ps')
    (hn : ∀ k, some k ∈ blocks vo' vs' tb' ps' → some k ∈ blocks vo vs tb ps ∨ w.heap.size ≤ k) (hc : feedCells f vo vs tv = feedCells f' vo' vs' tv') : FeedRep w' b f' vo' vs' tv' tb' ps' := by
  refine ⟨?_, hp, fun e => ?_⟩
  · rw [hf.block b h.lt (fun x => h.nb (hF b x)), h.blk, hc]
  · rcases hn b e with x | x
    · exact h.nb x
    · have := h.lt; omega
/-- The parts have changed, and a field is written. -/
theorem FeedRep.store (h : FeedRep w b f vo vs tv tb ps) (hf : Fr F w w') (hF : ∀ k, F k → some k ∈ blocks vo vs tb ps) (hp : Parts w' f' vo' vs' tv' tb' ps')
    (hn : ∀ k, some k ∈ blocks vo' vs' tb' ps' → some k ∈ blocks vo vs tb ps ∨ w.heap.size ≤ k) (i : Nat) (v : Value) (hc : (feedCells f vo vs tv).setIfInBounds i v = feedCells f' vo' vs' tv') :
    FeedRep (w'.setCell ⟨b, i, none⟩ v) b f' vo' vs' tv' tb' ps' := by
  have hnb : some b ∉ blocks vo' vs' tb' ps' := fun e => by
    rcases hn b e with x | x
    · exact h.nb x
    · have := h.lt; omega
  have hb' : w'.heap[b]? = some (.cells (feedCells f vo vs tv) 46 (0, 0)) := (hf.block b h.lt (fun x => h.nb (hF b x))).trans h.blk
  refine ⟨?_, hp.keep fun k hk => heap_setCell_other _ _ _ _ (fun e => hnb (by have e' : k = b := e; rw [e'] at hk; exact hk)), hnb⟩
  rw [heap_setCell_same w' b i _ _ v hb', hc]
/-- A plain field is written. -/
theorem FeedRep.set (h : FeedRep w b f vo vs tv tb ps) (i : Nat) (v : Value) (f' : J6.Feed) (hc : (feedCells f vo vs tv).setIfInBounds i v = feedCells f' vo vs tv)
    (ho : f'.out = f.out) (hs : f'.stack = f.stack) (hnw : f'.now = f.now) : FeedRep (w.setCell ⟨b, i, none⟩ v) b f' vo vs tv tb ps :=
  h.store (F := fun _ => False) (Fr.refl _ w) (fun _ x => x.elim) ⟨by rw [ho]; exact h.parts.out, h.parts.stack, by rw [hs]; exact h.parts.fms, h.parts.names, by rw [hnw]; exact h.parts.tok, h.parts.ap⟩ (fun _ x => .inl x) i v hc
theorem Fresh.foot {bl bl' : List (Option Nat)} (hn : ∀ k, some k ∈ bl' → some k ∈ bl ∨ w.heap.size ≤ k) : Fresh w (foot b bl) (foot b bl') := by
  rintro k (rfl | hk)
  · exact .inl (.inl rfl)
  · exact (hn k hk).imp .inr id
theorem Fr.foot {bl : List (Option Nat)} (hf : Fr F w w') (hF : ∀ k, F k → some k ∈ bl) : Fr (foot b bl) w w' := hf.mono fun k x => .inr (hF k x)

/-- The innermost frame, open. -/
theorem FeedRep.top {x : J6.Fm} {rest : List J6.Fm} (h : FeedRep w b f vo vs tv tb ps) (hs : f.stack = x :: rest) :
    ∃ vn ps2, ps = (x, vn) :: ps2 ∧ ps2.map Prod.fst = rest ∧ ∃ g cap, vs = .slice (some ⟨g, 0, none⟩) (ps2.length + 1) cap ∧ ps2.length + 1 ≤ cap ∧ cap ≤ maxLen ∧
      w.cell? ⟨g, ps2.length * 3, none⟩ = some (.int .i64 (x.no : Nat)) ∧ w.cell? ⟨g, ps2.length * 3 + 1, none⟩ = some (.int .i64 (x.at_ : Nat)) ∧ w.cell? ⟨g, ps2.length * 3 + 2, none⟩ = some vn ∧ (∀ i, w.frozen? ⟨g, i, none⟩ = false) := by
  have hm := h.parts.fms
  rw [hs] at hm
  cases ps with
  | nil => cases hm
  | cons p ps2 =>
    obtain ⟨x', vn⟩ := p
    simp only [List.map_cons, List.cons.injEq] at hm
    obtain ⟨rfl, hm⟩ := hm
    refine ⟨vn, ps2, rfl, hm, ?_⟩
    have h' : Owns w 92 3 cFr vs (ps2.reverse ++ [(x', vn)]) := by have := h.parts.stack; simpa using this
    obtain ⟨g, cap, h1, h2, h3, h4, h5⟩ := h'.last cFr_len
    rw [List.length_reverse] at h1 h2 h4
    exact ⟨g, cap, h1, h2, h3, h4 0 _ rfl, h4 1 _ rfl, h4 2 _ rfl, h5⟩
theorem FeedRep.stackLen (h : FeedRep w b f vo vs tv tb ps) : ∃ a cap, vs = .slice a f.stack.length cap ∧ (a = none → f.stack = []) := by
  obtain ⟨a, cap, hv, _, _, hn⟩ := h.parts.stack.len
  have e : ps.reverse.length = f.stack.length := by rw [List.length_reverse, ← h.parts.fms, List.length_map]
  rw [e] at hv
  refine ⟨a, cap, hv, fun ha => ?_⟩
  have := (hn ha).1
  rw [← h.parts.fms, List.reverse_eq_nil_iff.1 this]
  rfl
/-- A value of the list, open. -/
theorem FeedRep.val {j : Nat} {a : Val} (h : FeedRep w b f vo vs tv tb ps) (hj : f.out[j]? = some a) :
    ∃ g cap, vo = .slice (some ⟨g, 0, none⟩) f.out.length cap ∧ f.out.length ≤ cap ∧ cap ≤ maxLen ∧ w.cell? ⟨g, j * 3, none⟩ = some (.int .i64 a.kind) ∧ w.cell? ⟨g, j * 3 + 1, none⟩ = some (.int .i64 a.kids) ∧ w.cell? ⟨g, j * 3 + 2, none⟩ = some (S a.text) ∧ (∀ i, w.frozen? ⟨g, i, none⟩ = false) := by
  obtain ⟨g, cap, h1, h2, h3, h4, h5⟩ := h.parts.out.at cVal_len hj
  exact ⟨g, cap, h1, h2, h3, h4 0 _ rfl, h4 1 _ rfl, h4 2 _ rfl, h5⟩
end

theorem flat_set {α : Type} {c : α → List Value} {sz : Nat} (hc : ∀ a, (c a).length = sz) : ∀ (l : List α) (j i : Nat) (a a' : α) (u : Value), l[j]? = some a → i < sz → c a' = (c a).set i u → (l.flatMap c).set (j * sz + i) u = (l.set j a').flatMap c
  | [], j, i, a, a', u, h, _, _ => by simp at h
  | x :: l, 0, i, a, a', u, h, hi, he => by
    simp only [List.getElem?_cons_zero, Option.some.injEq] at h
    subst h
    rw [List.flatMap_cons, List.set_cons_zero, List.flatMap_cons, Nat.zero_mul, Nat.zero_add, List.set_append_left _ _ (by rw [hc]; exact hi), he]
  | x :: l, j + 1, i, a, a', u, h, hi, he => by
    simp only [List.getElem?_cons_succ] at h
    rw [List.flatMap_cons, List.set_cons_succ, List.flatMap_cons, List.set_append_right _ _ (by rw [hc, Nat.add_mul]; omega), hc, ← flat_set hc l j i a a' u h hi he]
    congr 2
    rw [Nat.add_mul]
    omega
/-- A cell of some element is written. -/
theorem owns_setAt {α : Type} {w : World} {T sz : Nat} {c : α → List Value} {l : List α} {a a' : α} {g cap j n : Nat} (hc : ∀ a, (c a).length = sz) (h : Owns w T sz c (.slice (some ⟨g, 0, none⟩) n cap) l) (hj : l[j]? = some a) (i : Nat) (hi : i < sz) (u : Value) (he : c a' = (c a).set i u) :
    Owns (w.setCell ⟨g, j * sz + i, none⟩ u) T sz c (.slice (some ⟨g, 0, none⟩) n cap) (l.set j a') := by
  obtain ⟨_, _, hv, _⟩ := h.len
  simp only [Value.slice.injEq] at hv
  have hn : n = l.length := hv.2.1
  subst hn
  have hs := (World.ownsRow.stored (show w.ownsRow 0 T sz (.slice (some ⟨g, 0, none⟩) l.length cap) l.length (l.flatMap c) from h) (j * sz + i) u).1
  unfold Owns
  rw [List.length_set, ← flat_set hc l j i a a' u hj hi he]
  exact hs
theorem modify_set {α : Type} (l : List α) (j : Nat) (a : α) (g : α → α) (h : l[j]? = some a) : l.modify j g = l.set j (g a) := by
  have hl : j < l.length := (List.getElem?_eq_some_iff.1 h).1
  apply List.ext_getElem?
  intro i
  rw [List.getElem?_modify, List.getElem?_set]
  by_cases e : j = i
  · subst e
    rw [if_pos rfl, h, if_pos hl]
    simp
  · rw [if_neg e]
    simp [e]
section
variable {w w' : World} {b : Nat} {f : J6.Feed} {vo vs tv : Value} {tb : List (Option Nat)} {ps : List (J6.Fm × Value)}
/-- A cell of a value of the list is written. -/
theorem FeedRep.setVal {j g n cap : Nat} {a a' : Val} (h : FeedRep w b f (.slice (some ⟨g, 0, none⟩) n cap) vs tv tb ps) (hj : f.out[j]? = some a) (i : Nat) (hi : i < 3) (u : Value) (he : cVal a' = (cVal a).set i u) :
    FeedRep (w.setCell ⟨g, j * 3 + i, none⟩ u) b { f with out := f.out.set j a' } (.slice (some ⟨g, 0, none⟩) n cap) vs tv tb ps := by
  have hf : Fr (fun k => k = g) w (w.setCell ⟨g, j * 3 + i, none⟩ u) := Fr.setCell (Fr.refl (fun k => k = g) w) (p := ⟨g, j * 3 + i, none⟩) (.inl rfl) u
  have hF : ∀ k, k = g → some k ∈ blocks (.slice (some ⟨g, 0, none⟩) n cap) vs tb ps := fun k e => mem_blocks.2 (.inl (by rw [e]; rfl))
  exact h.inner hf hF (h.parts.putOut hf (fun k e => by rw [e]; rfl) (owns_setAt cVal_len h.parts.out hj i hi u he) (fun k e => .inl e)) (fun k e => .inl e) rfl
/-- A plain cell of the innermost frame is written. -/
theorem FeedRep.setTop {x x' : J6.Fm} {vn : Value} {rest : List (J6.Fm × Value)} {g cap : Nat} (h : FeedRep w b f vo (.slice (some ⟨g, 0, none⟩) (rest.length + 1) cap) tv tb ((x, vn) :: rest)) (i : Nat) (u : Value) (hc : cFr (x', vn) = (cFr (x, vn)).set i u) (hnm : x'.names = x.names) :
    FeedRep (w.setCell ⟨g, rest.length * 3 + i, none⟩ u) b { f with stack := x' :: rest.map Prod.fst } vo (.slice (some ⟨g, 0, none⟩) (rest.length + 1) cap) tv tb ((x', vn) :: rest) := by
  have hf : Fr (fun k => k = g) w (w.setCell ⟨g, rest.length * 3 + i, none⟩ u) := Fr.setCell (Fr.refl (fun k => k = g) w) (p := ⟨g, rest.length * 3 + i, none⟩) (.inl rfl) u
  have hF : ∀ k, k = g → some k ∈ blocks vo (.slice (some ⟨g, 0, none⟩) (rest.length + 1) cap) tb ((x, vn) :: rest) := fun k e => mem_blocks.2 (.inr (.inl (by rw [e]; rfl)))
  have h' : Owns w 92 3 cFr (.slice (some ⟨g, 0, none⟩) (rest.reverse.length + 1) cap) (rest.reverse ++ [(x, vn)]) := by have := h.parts.stack; simpa using this
  have k := h'.setLast (b := (x', vn)) cFr_len i u hc
  rw [List.length_reverse] at k
  have hvn : vn.ownBlock ≠ some g := fun e => (h.parts.split.2.2.1 g rfl).2 (mem_nm.2 ⟨_, List.mem_cons_self .., e⟩)
  refine h.inner hf hF (h.parts.putTop hf (fun k e => .inl (by rw [e]; rfl)) (by simpa using k) ?_ (fun k e => .inl e)) (fun k e => .inl ?_) rfl
  · rw [hnm]
    exact (h.parts.names _ (List.mem_cons_self ..)).setCell (p := ⟨g, _, none⟩) hvn u
  · simpa [blocks, nmBlocks] using e
/-- The innermost frame is taken off. -/
theorem FeedRep.pop {p : J6.Fm × Value} {rest : List (J6.Fm × Value)} {g cap : Nat} (h : FeedRep w b f vo (.slice (some ⟨g, 0, none⟩) (rest.length + 1) cap) tv tb (p :: rest)) :
    FeedRep (w.setCell ⟨b, 6, none⟩ (.slice (some ⟨g, 0, none⟩) rest.length cap)) b { f with stack := rest.map Prod.fst } vo (.slice (some ⟨g, 0, none⟩) rest.length cap) tv tb rest :=
  h.store (F := fun _ => False) (Fr.refl _ w) (fun _ x => x.elim) h.parts.pop (fun _ e => .inl (blocks_pop e)) 6 _ rfl
end
end Go.Proofs.Ytahojodgmjmpnaa
