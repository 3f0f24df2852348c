/-
  Several texts in one: How the stack of json's Encode lies in memory, with its names, and what becomes of it. The walk over json.shape.
-/
import Derived.Test.YtahojodgmjmpnaaDoorTM
/-! How the stack of json's Encode lies in memory, with its names, and what becomes of it. -/
namespace Go.Proofs.YtahojodgmjmpnaaDoor
open Go.RowKit Go.Px

def cOp (p : E6.Op × Value) : List Value := [.int .i64 p.1.kind, .int .i64 p.1.all, .int .i64 (p.1.told : Nat), p.2]
theorem cOp_len (a : E6.Op × Value) : (cOp a).length = 4 := rfl
def opB (ps : List (E6.Op × Value)) : List (Option Nat) := ps.map fun p => p.2.ownBlock
def sbl (vs : Value) (ps : List (E6.Op × Value)) : List (Option Nat) := vs.ownBlock :: opB ps
/-- A stack of the call's own. -/
structure Stk (w wr : World) (vs : Value) (ps : List (E6.Op × Value)) (st : List E6.Op) : Prop where
  stack : Owns wr 66 4 cOp vs ps.reverse
  fms : ps.map Prod.fst = st
  names : ∀ p ∈ ps, Owns wr 9 1 cStr p.2 p.1.names
  ap : (sbl vs ps).Pairwise Apart
  same : Same w wr
  new : ∀ k, some k ∈ sbl vs ps → w.heap.size ≤ k
section
variable {w wr w2 : World} {vs vs' : Value} {ps rest : List (E6.Op × Value)} {st : List E6.Op} {o o' : E6.Op} {vn : Value} {g cap gg c2 : Nat} {t : Bytes} {F : Nat → Prop}
theorem mem_opB {k : Nat} : some k ∈ opB ps ↔ ∃ p ∈ ps, p.2.ownBlock = some k := by simp [opB]
theorem mem_sbl {k : Nat} : some k ∈ sbl vs ps ↔ (vs.ownBlock = some k ∨ some k ∈ opB ps) := by
  simp only [sbl, List.mem_cons]
  constructor
  · rintro (h | h)
    · exact .inl h.symm
    · exact .inr h
  · rintro (h | h)
    · exact .inl h.symm
    · exact .inr h
theorem stk_nil (w : World) : Stk w w (.slice none 0 0) [] [] :=
  ⟨owns_nil _ _ _ _, rfl, (fun p hp => by cases hp), by simp [sbl, opB], Same.refl w, (fun k hk => by simp [sbl, opB, Value.ownBlock] at hk)⟩
theorem Stk.lt (h : Stk w wr vs ps st) {k : Nat} (hk : some k ∈ sbl vs ps) : k < wr.heap.size := by
  rcases mem_sbl.1 hk with y | y
  · exact h.stack.lt y
  · obtain ⟨p, hp, e⟩ := mem_opB.1 y
    exact (h.names p hp).lt e
theorem Stk.keep (h : Stk w wr vs ps st) (hf : Fr F wr w2) (hF : ∀ k, F k → some k ∉ sbl vs ps) (hs : Same w w2) : Stk w w2 vs ps st := by
  have kp : ∀ k, some k ∈ sbl vs ps → w2.heap[k]? = wr.heap[k]? := fun k hk => hf.block k (h.lt hk) (fun x => hF k x hk)
  exact ⟨h.stack.keep fun k e => kp k (mem_sbl.2 (.inl e)), h.fms, fun p hp => (h.names p hp).keep fun k e => kp k (mem_sbl.2 (.inr (mem_opB.2 ⟨p, hp, e⟩))), h.ap, hs, h.new⟩
theorem Stk.sm (h : Stk w wr vs ps st) (hs : Same wr w2) : Stk w w2 vs ps st := h.keep hs (fun _ x => x.elim) (h.same.trans hs)
theorem Stk.split (h : Stk w wr vs ps st) : (∀ k, vs.ownBlock = some k → some k ∉ opB ps) ∧ (opB ps).Pairwise Apart := by
  have h := h.ap
  simp only [sbl, List.pairwise_cons] at h
  exact ⟨fun k e y => h.1 _ y k e rfl, h.2⟩
theorem Stk.len (h : Stk w wr vs ps st) : ∃ a cp, vs = .slice a ps.length cp := by
  obtain ⟨a, cp, hv, _⟩ := h.stack.len
  rw [List.length_reverse] at hv
  exact ⟨a, cp, hv⟩
theorem Stk.plen (h : Stk w wr vs ps st) : ps.length = st.length := by rw [← h.fms, List.length_map]
theorem Stk.row (h : Stk w wr vs ps st) : wr.ownsRow 0 66 4 vs ps.length (ps.reverse.flatMap cOp) := by
  have := h.stack
  unfold Owns at this
  rw [List.length_reverse] at this
  exact this
theorem Stk.topCells (h : Stk w wr vs ((o, vn) :: rest) st) : ∃ g cp, vs = .slice (some ⟨g, 0, none⟩) (rest.length + 1) cp ∧ rest.length + 1 ≤ cp ∧ cp ≤ maxLen ∧
    wr.cell? ⟨g, rest.length * 4, none⟩ = some (.int .i64 o.kind) ∧ wr.cell? ⟨g, rest.length * 4 + 1, none⟩ = some (.int .i64 o.all) ∧ wr.cell? ⟨g, rest.length * 4 + 2, none⟩ = some (.int .i64 (o.told : Nat)) ∧ wr.cell? ⟨g, rest.length * 4 + 3, none⟩ = some vn ∧ (∀ i, wr.frozen? ⟨g, i, none⟩ = false) ∧ g < wr.heap.size := by
  have h' : Owns wr 66 4 cOp vs (rest.reverse ++ [(o, vn)]) := by have := h.stack; simpa using this
  obtain ⟨g', cap', h1, h2, h3, h4, h5⟩ := h'.last cOp_len
  rw [List.length_reverse] at h1 h2 h4
  exact ⟨g', cap', h1, h2, h3, h4 0 _ rfl, h4 1 _ rfl, h4 2 _ rfl, h4 3 _ rfl, h5, h'.lt (by rw [h1]; rfl)⟩
/-- The innermost one's cell is written. -/
theorem Stk.setTop (h : Stk w wr (.slice (some ⟨g, 0, none⟩) (rest.length + 1) cap) ((o, vn) :: rest) st) (i : Nat) (u : Value) (hc : cOp (o', vn) = (cOp (o, vn)).set i u) (hn : o'.names = o.names) :
    Stk w (wr.setCell ⟨g, rest.length * 4 + i, none⟩ u) (.slice (some ⟨g, 0, none⟩) (rest.length + 1) cap) ((o', vn) :: rest) (o' :: rest.map Prod.fst) := by
  have h0 : Owns wr 66 4 cOp (.slice (some ⟨g, 0, none⟩) (rest.reverse.length + 1) cap) (rest.reverse ++ [(o, vn)]) := by have := h.stack; simpa using this
  have k := h0.setLast (b := (o', vn)) cOp_len i u hc
  rw [List.length_reverse] at k
  have hg := h.new g (mem_sbl.2 (.inl rfl))
  refine ⟨by simpa using k, rfl, fun p hp => ?_, by simpa [sbl, opB] using h.ap, h.same.setCell (p := ⟨g, rest.length * 4 + i, none⟩) (.inr hg) u, fun k hk => h.new k (by simpa [sbl, opB] using hk)⟩
  have key : ∀ v l, (v, l) ∈ ((vn, o.names) :: rest.map fun p => (p.2, p.1.names)) → Owns (wr.setCell ⟨g, rest.length * 4 + i, none⟩ u) 9 1 cStr v l := by
    intro v l hm
    have hv : some g ∉ opB ((o, vn) :: rest) := h.split.1 g rfl
    rcases List.mem_cons.1 hm with e | e
    · cases e
      exact (h.names _ (List.mem_cons_self ..)).setCell (p := ⟨g, rest.length * 4 + i, none⟩) (fun e => hv (mem_opB.2 ⟨_, List.mem_cons_self .., e⟩)) _
    · obtain ⟨p, hp, e⟩ := List.mem_map.1 e
      cases e
      exact (h.names p (List.mem_cons_of_mem _ hp)).setCell (p := ⟨g, rest.length * 4 + i, none⟩) (fun e => hv (mem_opB.2 ⟨_, List.mem_cons_of_mem _ hp, e⟩)) _
  rcases List.mem_cons.1 hp with rfl | hp
  · exact key vn o'.names (by rw [hn]; exact List.mem_cons_self ..)
  · exact key p.2 p.1.names (List.mem_cons_of_mem _ (List.mem_map.2 ⟨p, hp, rfl⟩))
/-- One more is begun. -/
theorem Stk.push (h : Stk w wr vs ps st) (ho : o.names = [])
    (hown : w2.ownsRow 0 66 4 (.slice (some ⟨g, 0, none⟩) (ps.length + 1) cap) (ps.length + 1) (ps.reverse.flatMap cOp ++ cOp (o, .slice none 0 0)))
    (hg : wr.grownBy w2 vs.ownBlock) (hat : vs.ownBlock = some g ∨ wr.heap.size ≤ g) : Stk w w2 (.slice (some ⟨g, 0, none⟩) (ps.length + 1) cap) ((o, .slice none 0 0) :: ps) (o :: st) := by
  have hf : Fr (fun k => vs.ownBlock = some k) wr w2 := (Fr.refl _ wr).grown hg (fun k e => .inl e)
  have s1 := h.split.1
  have hsame : Same w w2 := Fr.grown h.same hg (fun k e => .inr (h.new k (mem_sbl.2 (.inl e))))
  have hs : Owns w2 66 4 cOp (.slice (some ⟨g, 0, none⟩) (ps.length + 1) cap) (((o, .slice none 0 0) : E6.Op × Value) :: ps).reverse := by
    unfold Owns
    rw [List.reverse_cons, List.length_append, List.length_reverse, List.flatMap_append]
    simpa using hown
  refine ⟨hs, by rw [List.map_cons, h.fms], ?_, ?_, hsame, ?_⟩
  · intro p hp
    rcases List.mem_cons.1 hp with rfl | hp
    · rw [show ((o, Value.slice none 0 0) : E6.Op × Value).1.names = [] from ho]
      exact owns_nil _ _ _ _
    · refine (h.names p hp).keep fun k e => hf.block k ((h.names p hp).lt e) (fun x => s1 k x (mem_opB.2 ⟨p, hp, e⟩))
  · have h1 := apart_swap (l1 := []) (o := [vs.ownBlock]) (n := [(Value.slice (some ⟨g, 0, none⟩) (ps.length + 1) cap).ownBlock]) (l2 := opB ps) (B := wr.heap.size) (by simpa [sbl] using h.ap) ?_ (by simp) ?_
    · have h1' : ((Value.slice (some ⟨g, 0, none⟩) (ps.length + 1) cap).ownBlock :: opB ps).Pairwise Apart := by simpa using h1
      simp only [sbl, opB, List.map_cons]
      rw [List.pairwise_cons] at h1' ⊢
      refine ⟨fun x hx => ?_, ?_⟩
      · rcases List.mem_cons.1 hx with rfl | hx
        · intro k _ e; cases e
        · exact h1'.1 x hx
      · rw [List.pairwise_cons]
        exact ⟨(fun x _ k e => by cases e), h1'.2⟩
    · rintro k (x | x)
      · cases x
      · exact h.lt (mem_sbl.2 (.inr x))
    · intro k hk
      simp only [List.mem_cons, List.not_mem_nil, or_false, Value.ownBlock, Option.some.injEq] at hk ⊢
      subst hk
      exact hat.imp Eq.symm id
  · intro k hk
    rcases mem_sbl.1 hk with y | y
    · simp only [Value.ownBlock, Option.some.injEq] at y
      subst y
      rcases hat with e | e
      · exact h.new _ (mem_sbl.2 (.inl e))
      · exact Nat.le_trans h.same.size e
    · obtain ⟨p, hp, e⟩ := mem_opB.1 y
      rcases List.mem_cons.1 hp with rfl | hp
      · cases e
      · exact h.new k (mem_sbl.2 (.inr (mem_opB.2 ⟨p, hp, e⟩)))
/-- The innermost is taken off. -/
theorem Stk.pop {p : E6.Op × Value} (h : Stk w wr (.slice (some ⟨g, 0, none⟩) (rest.length + 1) cap) (p :: rest) st) : Stk w wr (.slice (some ⟨g, 0, none⟩) rest.length cap) rest (rest.map Prod.fst) := by
  have h' : Owns wr 66 4 cOp (.slice (some ⟨g, 0, none⟩) (rest.reverse.length + 1) cap) (rest.reverse ++ [p]) := by have := h.stack; simpa using this
  have k := h'.pop cOp_len
  rw [List.length_reverse] at k
  refine ⟨k, rfl, fun q hq => h.names q (List.mem_cons_of_mem _ hq), ?_, h.same, ?_⟩
  · have := h.ap
    simp only [sbl, opB, List.map_cons, Value.ownBlock] at this ⊢
    exact List.Pairwise.sublist (List.Sublist.cons_cons _ (List.Sublist.cons _ (List.Sublist.refl _))) this
  · intro k hk
    rcases mem_sbl.1 hk with y | y
    · exact h.new k (mem_sbl.2 (.inl y))
    · refine h.new k (mem_sbl.2 (.inr ?_))
      obtain ⟨q, hq, e⟩ := mem_opB.1 y
      exact mem_opB.2 ⟨q, List.mem_cons_of_mem _ hq, e⟩
/-- The innermost has one name more. -/
theorem Stk.putName (h : Stk w wr (.slice (some ⟨g, 0, none⟩) (rest.length + 1) cap) ((o, vn) :: rest) st)
    (hown : w2.ownsRow 0 9 1 (.slice (some ⟨gg, 0, none⟩) (o.names.length + 1) c2) (o.names.length + 1) (o.names.flatMap cStr ++ cStr t))
    (hg : wr.grownBy w2 vn.ownBlock) (hat : vn.ownBlock = some gg ∨ wr.heap.size ≤ gg) :
    Stk w (w2.setCell ⟨g, rest.length * 4 + 3, none⟩ (.slice (some ⟨gg, 0, none⟩) (o.names.length + 1) c2)) (.slice (some ⟨g, 0, none⟩) (rest.length + 1) cap)
      (({ o with names := o.names ++ [t] }, .slice (some ⟨gg, 0, none⟩) (o.names.length + 1) c2) :: rest) ({ o with names := o.names ++ [t] } :: rest.map Prod.fst) := by
  have hvn : vn.ownBlock ≠ some g := fun e => h.split.1 g rfl (mem_opB.2 ⟨_, List.mem_cons_self .., e⟩)
  have hgl : g < wr.heap.size := h.stack.lt rfl
  have hgg : gg ≠ g := by
    rcases hat with e | e
    · exact fun x => hvn (by rw [e, x])
    · omega
  have hgn := h.new g (mem_sbl.2 (.inl rfl))
  have hf : Fr (fun k => vn.ownBlock = some k ∨ k = g) wr (w2.setCell ⟨g, rest.length * 4 + 3, none⟩ (.slice (some ⟨gg, 0, none⟩) (o.names.length + 1) c2)) :=
    ((Fr.refl _ wr).grown hg (fun k e => .inl (.inl e))).setCell (p := ⟨g, rest.length * 4 + 3, none⟩) (.inl (.inr rfl)) _
  have h0 : Owns wr 66 4 cOp (.slice (some ⟨g, 0, none⟩) (rest.reverse.length + 1) cap) (rest.reverse ++ [(o, vn)]) := by have := h.stack; simpa using this
  have h1 := h0.grown hg (fun k e e2 => by
    simp only [Value.ownBlock, Option.some.injEq] at e
    subst e
    exact hvn e2)
  have k := h1.setLast (b := ({ o with names := o.names ++ [t] }, .slice (some ⟨gg, 0, none⟩) (o.names.length + 1) c2)) cOp_len 3 (.slice (some ⟨gg, 0, none⟩) (o.names.length + 1) c2) rfl
  rw [List.length_reverse] at k
  have s2 : ∀ p ∈ rest, Apart vn.ownBlock p.2.ownBlock := by
    have := h.split.2
    simp only [opB, List.map_cons, List.pairwise_cons] at this
    exact fun p hp => this.1 _ (List.mem_map.2 ⟨p, hp, rfl⟩)
  refine ⟨by simpa using k, rfl, fun p hp => ?_, ?_, ?_, ?_⟩
  · rcases List.mem_cons.1 hp with rfl | hp
    · exact (owns_append hown).setCell (p := ⟨g, rest.length * 4 + 3, none⟩) (fun e => by
        simp only [Value.ownBlock, Option.some.injEq] at e
        exact hgg e) _
    · refine (h.names p (List.mem_cons_of_mem _ hp)).keep fun k e => hf.block k ((h.names p (List.mem_cons_of_mem _ hp)).lt e) ?_
      rintro (x | x)
      · exact s2 p hp k x e
      · subst x
        exact h.split.1 _ rfl (mem_opB.2 ⟨p, List.mem_cons_of_mem _ hp, e⟩)
  · have h2 := apart_swap (l1 := [some g]) (o := [vn.ownBlock]) (n := [some gg]) (l2 := opB rest) (B := wr.heap.size) (by simpa [sbl, opB, Value.ownBlock] using h.ap) ?_ (by simp) ?_
    · simpa [sbl, opB, Value.ownBlock] using h2
    · rintro k (x | x)
      · simp at x; omega
      · obtain ⟨p, hp, e⟩ := mem_opB.1 x
        exact (h.names p (List.mem_cons_of_mem _ hp)).lt e
    · intro k hk
      simp only [List.mem_cons, List.not_mem_nil, or_false, Option.some.injEq] at hk ⊢
      subst hk
      exact hat.imp Eq.symm id
  · refine (Fr.grown h.same hg (fun k e => .inr (h.new k (mem_sbl.2 (.inr (mem_opB.2 ⟨_, List.mem_cons_self .., e⟩)))))).setCell (p := ⟨g, rest.length * 4 + 3, none⟩) (.inr hgn) _
  · intro k hk
    rcases mem_sbl.1 hk with y | y
    · exact h.new k (mem_sbl.2 (.inl y))
    · obtain ⟨p, hp, e⟩ := mem_opB.1 y
      rcases List.mem_cons.1 hp with rfl | hp
      · simp only [Value.ownBlock, Option.some.injEq] at e
        subst e
        rcases hat with e | e
        · exact h.new _ (mem_sbl.2 (.inr (mem_opB.2 ⟨_, List.mem_cons_self .., e⟩)))
        · exact Nat.le_trans h.same.size e
      · exact h.new k (mem_sbl.2 (.inr (mem_opB.2 ⟨p, List.mem_cons_of_mem _ hp, e⟩)))

/-- The stack, and the value that is looked at, in a block of its own. -/
structure SV (w wr : World) (vb : Nat) (x : Val) (vs : Value) (ps : List (E6.Op × Value)) (st : List E6.Op) : Prop where
  stk : Stk w wr vs ps st
  val : wr.heap[vb]? = some (.cells #[.int .i64 x.kind, .int .i64 x.kids, S x.text] 58 (0, 0))
  nb : some vb ∉ sbl vs ps
variable {vb : Nat} {x : Val}
theorem SV.new (h : Stk w wr vs ps st) (x : Val) : SV w (wr.alloc (.cells #[.int .i64 x.kind, .int .i64 x.kids, S x.text] 58 (0, 0))) wr.heap.size x vs ps st :=
  ⟨h.sm ((Same.refl wr).alloc _), heap_alloc_new wr _, fun hk => Nat.lt_irrefl _ (h.lt hk)⟩
theorem SV.lt (h : SV w wr vb x vs ps st) : vb < wr.heap.size := ltOf h.val
theorem SV.sm (h : SV w wr vb x vs ps st) (hs : Same wr w2) : SV w w2 vb x vs ps st := ⟨h.stk.sm hs, (hs.block vb h.lt (fun x => x)).trans h.val, h.nb⟩
theorem SV.drewN (h : SV w wr vb x vs ps st) (n : Nat) : SV w (wr.drewN n) vb x vs ps st := h.sm (Fr.drewN (Fr.refl _ _) n)
theorem SV.setTop (h : SV w wr vb x (.slice (some ⟨g, 0, none⟩) (rest.length + 1) cap) ((o, vn) :: rest) st) (i : Nat) (u : Value) (hc : cOp (o', vn) = (cOp (o, vn)).set i u) (hn : o'.names = o.names) :
    SV w (wr.setCell ⟨g, rest.length * 4 + i, none⟩ u) vb x (.slice (some ⟨g, 0, none⟩) (rest.length + 1) cap) ((o', vn) :: rest) (o' :: rest.map Prod.fst) := by
  refine ⟨h.stk.setTop i u hc hn, ?_, fun hk => h.nb (by simpa [sbl, opB] using hk)⟩
  rw [heap_setCell_other _ _ _ _ (fun e => h.nb (mem_sbl.2 (.inl (by have e' : vb = g := e; rw [e']; rfl))))]
  exact h.val
theorem SV.push (h : SV w wr vb x vs ps st) (ho : o.names = [])
    (hown : w2.ownsRow 0 66 4 (.slice (some ⟨g, 0, none⟩) (ps.length + 1) cap) (ps.length + 1) (ps.reverse.flatMap cOp ++ cOp (o, .slice none 0 0)))
    (hg : wr.grownBy w2 vs.ownBlock) (hat : vs.ownBlock = some g ∨ wr.heap.size ≤ g) : SV w w2 vb x (.slice (some ⟨g, 0, none⟩) (ps.length + 1) cap) ((o, .slice none 0 0) :: ps) (o :: st) := by
  refine ⟨h.stk.push ho hown hg hat, (hg.block vb h.lt (fun e => h.nb (mem_sbl.2 (.inl e.symm)))).trans h.val, fun hk => ?_⟩
  rcases mem_sbl.1 hk with y | y
  · simp only [Value.ownBlock, Option.some.injEq] at y
    subst y
    rcases hat with e | e
    · exact h.nb (mem_sbl.2 (.inl e))
    · have := h.lt; omega
  · obtain ⟨p, hp, e⟩ := mem_opB.1 y
    rcases List.mem_cons.1 hp with rfl | hp
    · cases e
    · exact h.nb (mem_sbl.2 (.inr (mem_opB.2 ⟨p, hp, e⟩)))
theorem SV.pop {p : E6.Op × Value} (h : SV w wr vb x (.slice (some ⟨g, 0, none⟩) (rest.length + 1) cap) (p :: rest) st) : SV w wr vb x (.slice (some ⟨g, 0, none⟩) rest.length cap) rest (rest.map Prod.fst) := by
  refine ⟨h.stk.pop, h.val, fun hk => h.nb ?_⟩
  rcases mem_sbl.1 hk with y | y
  · exact mem_sbl.2 (.inl y)
  · obtain ⟨q, hq, e⟩ := mem_opB.1 y
    exact mem_sbl.2 (.inr (mem_opB.2 ⟨q, List.mem_cons_of_mem _ hq, e⟩))
theorem SV.putName (h : SV w wr vb x (.slice (some ⟨g, 0, none⟩) (rest.length + 1) cap) ((o, vn) :: rest) st)
    (hown : w2.ownsRow 0 9 1 (.slice (some ⟨gg, 0, none⟩) (o.names.length + 1) c2) (o.names.length + 1) (o.names.flatMap cStr ++ cStr t))
    (hg : wr.grownBy w2 vn.ownBlock) (hat : vn.ownBlock = some gg ∨ wr.heap.size ≤ gg) :
    SV w (w2.setCell ⟨g, rest.length * 4 + 3, none⟩ (.slice (some ⟨gg, 0, none⟩) (o.names.length + 1) c2)) vb x (.slice (some ⟨g, 0, none⟩) (rest.length + 1) cap)
      (({ o with names := o.names ++ [t] }, .slice (some ⟨gg, 0, none⟩) (o.names.length + 1) c2) :: rest) ({ o with names := o.names ++ [t] } :: rest.map Prod.fst) := by
  refine ⟨h.stk.putName hown hg hat, ?_, fun hk => ?_⟩
  · rw [heap_setCell_other _ _ _ _ (fun e => h.nb (mem_sbl.2 (.inl (by have e' : vb = g := e; rw [e']; rfl))))]
    exact (hg.block vb h.lt (fun e => h.nb (mem_sbl.2 (.inr (mem_opB.2 ⟨_, List.mem_cons_self .., e.symm⟩))))).trans h.val
  · rcases mem_sbl.1 hk with y | y
    · exact h.nb (mem_sbl.2 (.inl y))
    · obtain ⟨p, hp, e⟩ := mem_opB.1 y
      rcases List.mem_cons.1 hp with rfl | hp
      · simp only [Value.ownBlock, Option.some.injEq] at e
        subst e
        rcases hat with e | e
        · exact h.nb (mem_sbl.2 (.inr (mem_opB.2 ⟨_, List.mem_cons_self .., e⟩)))
        · have := h.lt; omega
      · exact h.nb (mem_sbl.2 (.inr (mem_opB.2 ⟨p, List.mem_cons_of_mem _ hp, e⟩)))
end
end Go.Proofs.YtahojodgmjmpnaaDoor

/-! The walk over json.shape. -/
namespace Go.Proofs.YtahojodgmjmpnaaDoor
open Go.RowKit Go.Px

theorem Tryd.infoOpen : (Tryd.prog.info? 66).map (fun i => (i.zero, i.size, i.bytes)) = some (some (.agg #[.int .i64 0, .int .i64 0, .int .i64 0, .slice none 0 0]), 4, 48) := by kernel_rfl
theorem lies_same {α : Type} {w w' : World} {sz : Nat} {c : α → List Value} {v : Value} {l : List α} (h : Lies w sz c v l) (hs : Same w w') : Lies w' sz c v l :=
  ⟨h.slice, fun j x hj => by
    obtain ⟨b, off, cap, h1, h2, h3⟩ := h.cell j x hj
    exact ⟨b, off, cap, h1, Nat.lt_of_lt_of_le h2 hs.size, fun i u hu => (hs.cell (p := ⟨b, off + (j * sz + i), none⟩) h2 (fun x => x)).trans (h3 i u hu)⟩⟩
/-- What holds at the head of shape's loop. -/
structure ShpJ (w wr : World) (v : Value) (l : List Val) (k most : Nat) (ps : List (E6.Op × Value)) (st : List E6.Op) : Prop where
  stk : Stk w wr v ps st
  eq : E6.shape l = E6.shapeN (l.drop k) (k == 0) st most
  len : st.length ≤ k
  sm : st.length ≤ most
  most : most ≤ k
  ok : ∀ o ∈ st, o.told ≤ k ∧ o.names.length ≤ k ∧ -9223372036854775808 ≤ o.all ∧ o.all ≤ 9223372036854775807
theorem shapeN_cons {l : List Val} {k : Nat} {st : List E6.Op} {most : Nat} (hk : k < l.length) : E6.shapeN (l.drop k) (k == 0) st most =
    if (!(k == 0) && st.isEmpty) || !E6.right l[k] then (0, false)
    else match E6.enter l[k] st with
      | none => (0, false)
      | some st => E6.shapeN (l.drop (k + 1)) (k + 1 == 0) (E6.close (E6.begun l[k] st)) (max most (E6.begun l[k] st).length) := by
  rw [List.drop_eq_getElem_cons hk, E6.shapeN]
  rfl
/-- The four ways of a value in the innermost one. -/
theorem enter_ways (x : Val) (o : E6.Op) (r : List E6.Op) : (o.kind = 6 ∧ o.told % 2 = 0 ∧ x.kind ≠ 4 ∧ E6.enter x (o :: r) = none) ∨ (o.kind = 6 ∧ o.told % 2 = 0 ∧ x.kind = 4 ∧ o.names.contains x.text = true ∧ E6.enter x (o :: r) = none) ∨
    (o.kind = 6 ∧ o.told % 2 = 0 ∧ x.kind = 4 ∧ o.names.contains x.text = false ∧ E6.enter x (o :: r) = some ({ o with names := o.names ++ [x.text], told := o.told + 1 } :: r)) ∨
    (o.kind = 6 ∧ o.told % 2 = 1 ∧ E6.enter x (o :: r) = some ({ o with told := o.told + 1 } :: r)) ∨ (o.kind ≠ 6 ∧ E6.enter x (o :: r) = some ({ o with told := o.told + 1 } :: r)) := by
  by_cases h1 : o.kind = 6
  · have b1 : (o.kind == 6) = true := by simpa using h1
    rcases Nat.mod_two_eq_zero_or_one o.told with h2 | h2
    · have b2 : (o.told % 2 == 0) = true := by simpa using h2
      have e : E6.enter x (o :: r) = if x.kind != 4 || o.names.contains x.text then none else some ({ o with names := o.names ++ [x.text], told := o.told + 1 } :: r) := by
        show (if (o.kind == 6 && o.told % 2 == 0) = true then _ else _) = _
        rw [b1, b2, if_pos (by rfl)]
      by_cases h3 : x.kind = 4
      · have b3 : (x.kind != 4) = false := by simpa using h3
        rw [b3, Bool.false_or] at e
        cases h4 : o.names.contains x.text with
        | true => rw [h4] at e; exact .inr (.inl ⟨h1, h2, h3, rfl, e.trans (if_pos rfl)⟩)
        | false => rw [h4] at e; exact .inr (.inr (.inl ⟨h1, h2, h3, rfl, e.trans (if_neg (by decide))⟩))
      · have b3 : (x.kind != 4) = true := by simpa using h3
        rw [b3, Bool.true_or] at e
        exact .inl ⟨h1, h2, h3, e.trans (if_pos rfl)⟩
    · have b2 : (o.told % 2 == 0) = false := by simp [h2]
      refine .inr (.inr (.inr (.inl ⟨h1, h2, ?_⟩)))
      show (if (o.kind == 6 && o.told % 2 == 0) = true then _ else _) = _
      rw [b2, Bool.and_false, if_neg (by decide)]
  · have b1 : (o.kind == 6) = false := by simpa using h1
    refine .inr (.inr (.inr (.inr ⟨h1, ?_⟩)))
    show (if (o.kind == 6 && o.told % 2 == 0) = true then _ else _) = _
    rw [b1, Bool.false_and, if_neg (by decide)]
theorem SV.tell {w wr : World} {vb g cap : Nat} {x : Val} {vn : Value} {o : E6.Op} {rest : List (E6.Op × Value)} {st r : List E6.Op} (h : SV w wr vb x (.slice (some ⟨g, 0, none⟩) (rest.length + 1) cap) ((o, vn) :: rest) st) (hm : rest.map Prod.fst = r) :
    SV w (wr.setCell ⟨g, rest.length * 4 + 2, none⟩ (.int .i64 ((o.told : Int) + 1))) vb x (.slice (some ⟨g, 0, none⟩) (rest.length + 1) cap) (({ o with told := o.told + 1 }, vn) :: rest) ({ o with told := o.told + 1 } :: r) := by
  subst hm
  exact h.setTop (o' := { o with told := o.told + 1 }) 2 (.int .i64 ((o.told : Int) + 1)) (by simp [cOp]) rfl
theorem close_le : ∀ st : List E6.Op, (E6.close st).length ≤ st.length
  | [] => Nat.le_refl _
  | o :: r => by
    unfold E6.close
    split
    · have := close_le r; simp; omega
    · exact Nat.le_refl _
/-- What may be told of a value. -/
def Fair (a : Val) : Prop := (-9223372036854775808 ≤ a.kind ∧ a.kind ≤ 9223372036854775807) ∧ (-9223372036854775808 ≤ a.kids ∧ a.kids ≤ 9223372036854775807) ∧ a.text.length ≤ 140737488355327
set_option maxRecDepth 100000 in
set_option maxHeartbeats 8000000 in
theorem eshape_any (v : Value) (l : List Val) (w : World) (h : Lies w 3 cVal v l) (hl : l.length ≤ 4096) (hw : ∀ a ∈ l, Fair a) (hT : Tabs w) :
    Calls Tryd.prog 24 #[v] w fun e w' => e = .returned (.tuple #[.int .i64 ((E6.shape l).1 : Nat), .bool (E6.shape l).2]) ∧ Same w w' := by
  obtain ⟨va, vc, hv, hv1, hv2⟩ := h.slice
  subst hv
  have H := Px.hid (And.intro h (And.intro hw hT))
  clear h hw hT
  obtain ⟨i0, hi0, hz0, hz1, hz2⟩ := info_parts Tryd.infoOpen
  obtain ⟨j0, hj0, hy0, hy1, hy2⟩ := info_parts Tryd.infoStr
  go_enter Tryd.func24, Tryd.ntmps24
  go_wp2
  go_loopg [4, 5, 13] (l.length + 1) (fun gk v4 t5 i wr => ∃ (k most : Nat) (ps : List (E6.Op × Value)) (st : List E6.Op), gk + k = l.length + 1 ∧ k ≤ l.length ∧ i = .int .i64 (k : Nat) ∧ t5 = .int .i64 (most : Nat) ∧ Hid (ShpJ w wr v4 l k most ps st))
  case atStart => exact ⟨0, 0, [], [], rfl, Nat.zero_le _, rfl, rfl, Px.hid ⟨stk_nil w, by rw [List.drop_zero]; rfl, Nat.le_refl _, Nat.le_refl _, Nat.le_refl _, (fun o ho => by cases ho)⟩⟩
  case round =>
    obtain ⟨k, most, ps, st, hgk, hk, rfl, rfl, HS⟩ := hrel
    have HG := Px.hid hgk
    clear hgk
    obtain ⟨la, lc, hv4⟩ := HS.out.stk.len
    have hpl := HS.out.stk.plen
    obtain ⟨n, hn⟩ : ∃ n, st.length = n := ⟨_, rfl⟩
    rw [hpl, hn] at hv4
    subst hv4
    have hlen4 : n ≤ 4096 := by have := HS.out.len; omega
    have HNL := Px.hid hn
    clear hpl hn
    by_cases hlt : k < l.length
    · have hlz : (k : Int) < (l.length : Int) := by omega
      obtain ⟨xb, xo, xc, hve, hxb, hcx⟩ := (lies_same H.out.1 HS.out.stk.same).cell k l[k] (by simp [hlt])
      simp only [Value.slice.injEq, true_and] at hve
      obtain ⟨rfl, rfl⟩ := hve
      have x0 := hcx 0 _ rfl
      have x1 := hcx 1 _ rfl
      have x2 := hcx 2 _ rfl
      rw [← Nat.add_assoc] at x0 x1 x2
      rw [Nat.add_zero] at x0
      obtain ⟨x, hx⟩ : ∃ x, x = l[k] := ⟨_, rfl⟩
      rw [← hx] at x0 x1 x2
      have hxl := H.out.2.1 x (by rw [hx]; exact List.getElem_mem _)
      have hst := shapeN_cons (st := st) (most := most) hlt
      rw [← hx, ← HS.out.eq] at hst
      have HX := Px.hid (And.intro hxl hst)
      have HX2 := Px.hid hxl
      clear hcx hx hxl hst
      go_upto_region 6 with fail
      obtain ⟨g', rfl⟩ : ∃ g', gk = g' + 1 := ⟨gk - 1, by have := HG.out; omega⟩
      obtain ⟨WX, hWX⟩ : ∃ WX, WX = wr.alloc (.cells #[.int .i64 x.kind, .int .i64 x.kids, S x.text] 58 (0, 0)) := ⟨_, rfl⟩
      have HV := Px.hid (show SV w WX wr.heap.size x (.slice la n lc) ps st by rw [hWX]; exact SV.new HS.out.stk x)
      rw [← hWX]
      clear hWX x0 x1 x2
      have x0 := cellOf HV.out.val 0 rfl
      have x1 := cellOf HV.out.val 1 rfl
      have x2 := cellOf HV.out.val 2 rfl
      by_cases hstop : st = [] ∧ 0 < k
      · obtain ⟨rfl, hk0⟩ := hstop
        obtain rfl : n = 0 := HNL.out.symm
        have hkz : (0 : Int) < (k : Int) := by omega
        have HR := Px.hid (show E6.shape l = (0, false) by
          rw [HX.out.2, if_pos]
          have : (k == 0) = false := by simp; omega
          rw [this]
          rfl)
        clear hk0
        go_wp2
        go_ret2
        rw [HR.out]
        exact ⟨rfl, HV.out.stk.same⟩
      · have hforms : (k = 0 ∧ st = []) ∨ (0 < k ∧ st ≠ []) := by
          by_cases h1 : st = []
          · exact .inl ⟨by have : ¬ 0 < k := fun e => hstop ⟨h1, e⟩; omega, h1⟩
          · refine .inr ⟨?_, h1⟩
            have := HS.out.len
            have : 0 < st.length := List.length_pos_iff.2 h1
            omega
        have HRT := Px.hid (fun W (hT : Tabs W) => eright_any x W HX.out.1.2.2 hT)
        obtain ⟨R, hR⟩ : ∃ R, E6.right x = R := ⟨_, rfl⟩
        have HRX := Px.hid hR
        simp only [hR] at HRT
        have HGD := Px.hid (show ((!(k == 0) && st.isEmpty) || !E6.right x) = !R by
          rw [hR]
          rcases hforms with ⟨h1, h2⟩ | ⟨h1, h2⟩
          · simp [h1]
          · have : st.isEmpty = false := by cases st with | nil => exact absurd rfl h2 | cons a b => rfl
            simp [this])
        clear hR hstop
        have HXV := Px.hid (show WX.cell? ⟨wr.heap.size, 0, none⟩ = some (.int .i64 x.kind) from x0)
        go_cut [29] (fun t29 wx => t29 = .bool (!R) ∧ Same WX wx)
        case first =>
          rcases hforms with ⟨rfl, rfl⟩ | ⟨hk0, hs0⟩
          · obtain rfl : n = 0 := HNL.out.symm
            go_wp2_with fail
            refine (HRT.out _ (H.out.2.2.same HV.out.stk.same)).mono ?_
            rintro e w2 ⟨rfl, hs⟩
            go_wp2_with fail
            go_meet
            exact ⟨rfl, hs⟩
          · have z0 : (0 : Int) < (k : Int) := by omega
            have z1 : ((n : Int) == 0) = false := by
              have : 0 < st.length := List.length_pos_iff.2 hs0
              have := HNL.out
              simp only [beq_eq_false_iff_ne, ne_eq]; omega
            clear hk0 hs0
            go_wp2_with fail
            refine (HRT.out _ (H.out.2.2.same HV.out.stk.same)).mono ?_
            rintro e w2 ⟨rfl, hs⟩
            go_wp2_with fail
            go_meet
            exact ⟨rfl, hs⟩
        case rest =>
          obtain ⟨rfl, hs⟩ := hcut
          have HV2 := Px.hid (HV.out.sm hs)
          have hvb : wr.heap.size < wc.heap.size := HV2.out.lt
          clear hs x0 x1 x2 HXV
          have x0 := cellOf HV2.out.val 0 rfl
          have x1 := cellOf HV2.out.val 1 rfl
          have x2 := cellOf HV2.out.val 2 rfl
          cases R with
          | false =>
            have HR := Px.hid (show E6.shape l = (0, false) by rw [HX.out.2, HGD.out]; rfl)
            go_wp2
            go_ret2
            rw [HR.out]
            exact ⟨rfl, HV2.out.stk.same⟩
          | true =>
            have HSH := Px.hid (show E6.shape l = match E6.enter x st with
              | none => (0, false)
              | some st => E6.shapeN (l.drop (k + 1)) (k + 1 == 0) (E6.close (E6.begun x st)) (max most (E6.begun x st).length) by rw [HX.out.2, HGD.out]; rfl)
            clear HRT HRX HGD HV
            go_upto_if 33 with fail
            obtain ⟨vb, hvbe⟩ : ∃ vb, wr.heap.size = vb := ⟨_, rfl⟩
            rw [hvbe] at HV2 hvb x0 x1 x2 ⊢
            clear hvbe
            go_cut [9] (fun v9 wx => ∃ st2 ps2, st2.length = n ∧ E6.enter x st = some st2 ∧ Hid (SV w wx vb x (.slice la n lc) ps2 st2) ∧ (∀ o ∈ st2, o.told ≤ k + 1 ∧ o.names.length ≤ k + 1 ∧ -9223372036854775808 ≤ o.all ∧ o.all ≤ 9223372036854775807))
            case first =>
              have hok := HS.out.ok
              have hlk : k ≤ 4096 := by omega
              clear hforms HS
              cases st with
              | nil =>
                obtain rfl : n = 0 := HNL.out.symm
                go_wp2_with fail
                go_meet
                exact ⟨[], ps, rfl, rfl, HV2, fun o ho => by cases ho⟩
              | cons o r =>
                obtain ⟨vn, rest, hps, hmr⟩ : ∃ vn rest, ps = (o, vn) :: rest ∧ rest.map Prod.fst = r := by
                  have hm := HV2.out.stk.fms
                  cases ps with
                  | nil => cases hm
                  | cons p rest =>
                    obtain ⟨o', vn⟩ := p
                    simp only [List.map_cons, List.cons.injEq] at hm
                    obtain ⟨rfl, hm⟩ := hm
                    exact ⟨vn, rest, rfl, hm⟩
                subst hps
                obtain ⟨g, cp, hve, q1, q2, t0, t1, t2, t3, tf, hgl⟩ := HV2.out.stk.topCells
                simp only [Value.slice.injEq] at hve
                obtain ⟨rfl, rfl, rfl⟩ := hve
                have hrr : r.length = rest.length := by rw [← hmr, List.length_map]
                obtain ⟨ho1, ho2, ho3, ho4⟩ := hok o (List.mem_cons_self ..)
                have hokr : ∀ o' ∈ r, o'.told ≤ k + 1 ∧ o'.names.length ≤ k + 1 ∧ -9223372036854775808 ≤ o'.all ∧ o'.all ≤ 9223372036854775807 := fun o' ho' => by
                  obtain ⟨b1, b2, b3, b4⟩ := hok o' (List.mem_cons_of_mem _ ho')
                  exact ⟨by omega, by omega, b3, b4⟩
                have HOK := Px.hid (And.intro hmr (And.intro hokr (And.intro ho1 (And.intro ho2 (And.intro ho3 ho4)))))
                unfold maxLen at q2
                have hr4 : rest.length ≤ 4096 := by omega
                have htb : (o.told : Int) ≤ 4096 := by omega
                have htw : IntKind.i64.wrap ((o.told : Int) + 1) = (o.told : Int) + 1 := IntWalk.i64_in _ ⟨by omega, by omega⟩
                have f2 := tf (rest.length * 4 + 2)
                have f3 := tf (rest.length * 4 + 3)
                have hn4 : o.names.length ≤ 4096 := by omega
                have HEV := Px.hid (show E6.enter x (o :: r) = E6.enter x (o :: r) from rfl)
                clear hok hokr hmr ho1 ho2 ho3 ho4 hrr tf hlen4
                rcases enter_ways x o r with ⟨a1, a2, a3, a4⟩ | ⟨a1, a2, a3, a5, a4⟩ | ⟨a1, a2, a3, a5, a4⟩ | ⟨a1, a2, a4⟩ | ⟨a1, a4⟩
                · have HR := Px.hid (show E6.shape l = (0, false) by rw [HSH.out, a4])
                  have b1 : o.kind = 6 := a1
                  rw [b1] at t0
                  have b2 : (o.told : Int).tmod 2 = 0 := by rw [Int.tmod_eq_emod_of_nonneg (by omega)]; omega
                  have b3 : (x.kind != 4) = true := by simpa using a3
                  clear a1 a2 a3 a4 b1
                  go_wp2_with fail
                  go_quiet (fail)
                  have HQ := Px.hid (HV2.out.drewN nq)
                  go_wp2
                  go_ret2
                  rw [HR.out]
                  exact ⟨rfl, HQ.out.stk.same⟩
                · have HR := Px.hid (show E6.shape l = (0, false) by rw [HSH.out, a4])
                  have b1 : o.kind = 6 := a1
                  rw [b1] at t0
                  rw [a3] at x0
                  have b2 : (o.told : Int).tmod 2 = 0 := by rw [Int.tmod_eq_emod_of_nonneg (by omega)]; omega
                  have HON := Px.hid (HV2.out.stk.names (o, vn) (List.mem_cons_self ..))
                  have HCT := Px.hid (fun n : Nat => (show Calls Tryd.prog 40 #[vn, S x.text] (wc.drewN n) fun e w' => e = .returned (.bool true) ∧ w' = wc.drewN n from
                    (contains_any vn o.names x.text (by omega) (wc.drewN n) (HON.out.drewN n)).mono (fun _ _ h => ⟨by rw [h.1, a5], h.2.symm⟩)))
                  clear a1 a2 a3 a4 a5 b1
                  go_wp2_with fail
                  go_quiet ((go_at_call 40; exact Calls.quiet_of_same (HCT.out _)))
                  have HQ := Px.hid (HV2.out.drewN nq)
                  go_wp2
                  go_ret2
                  rw [HR.out]
                  exact ⟨rfl, HQ.out.stk.same⟩
                · have HEN := Px.hid a4
                  have b1 : o.kind = 6 := a1
                  rw [b1] at t0
                  rw [a3] at x0
                  have b2 : (o.told : Int).tmod 2 = 0 := by rw [Int.tmod_eq_emod_of_nonneg (by omega)]; omega
                  have HON := Px.hid (HV2.out.stk.names (o, vn) (List.mem_cons_self ..))
                  have HCT := Px.hid (fun n : Nat => (show Calls Tryd.prog 40 #[vn, S x.text] (wc.drewN n) fun e w' => e = .returned (.bool false) ∧ w' = wc.drewN n from
                    (contains_any vn o.names x.text (by omega) (wc.drewN n) (HON.out.drewN n)).mono (fun _ _ h => ⟨by rw [h.1, a5], h.2.symm⟩)))
                  clear a1 a2 a3 a4 a5 b1
                  go_wp2_with fail
                  go_quiet ((go_at_call 40; exact Calls.quiet_of_same (HCT.out _)))
                  go_upto_region 14 with fail
                  have HQ := Px.hid (HV2.out.drewN nq)
                  have HON2 := Px.hid (show (wc.drewN nq).ownsRow 0 9 1 vn o.names.length (o.names.flatMap cStr) from HON.out.drewN nq)
                  obtain ⟨W4, hW4⟩ : ∃ W4, W4 = wc.drewN nq := ⟨_, rfl⟩
                  rw [← hW4] at HQ HON2 ⊢
                  obtain ⟨g', cp', hve', q1', q2', t0', t1', t2', t3', tf', hgl'⟩ := HQ.out.stk.topCells
                  simp only [Value.slice.injEq, Option.some.injEq, Addr.mk.injEq, and_true, true_and] at hve'
                  obtain ⟨rfl, rfl⟩ := hve'
                  have f3' := tf' (rest.length * 4 + 3)
                  have x2' := cellOf HQ.out.val 2 rfl
                  have hvb4 : vb < W4.heap.size := HQ.out.lt
                  obtain ⟨na, nc, hvn, _⟩ := HON.out.len
                  have HNE := Px.hid (show vn.ownBlock ≠ some g from fun e => HQ.out.stk.split.1 g rfl (mem_opB.2 ⟨_, List.mem_cons_self .., e⟩))
                  clear hW4 x0 x1 x2 t0 t1 t2 t3 f2 f3 hgl hvb HON HCT HV2 tf' q1' q2' t0' t1' t2' hvn
                  go_cut [] (fun wx => ∃ vn', SV w wx vb x (.slice (some ⟨g, 0, none⟩) (rest.length + 1) lc) (({ o with names := o.names ++ [x.text] }, vn') :: rest) ({ o with names := o.names ++ [x.text] } :: rest.map Prod.fst))
                  case first =>
                    go_region_law
                      ((refine step_append_lies _ (by rfl) _ _ _ (by rfl) 0 9 j0 _ 1 16 Tryd.underlying64 hj0 hy0 hy1 hy2 rfl (by omega) vn o.names.length (o.names.flatMap cStr) (by rfl) ((HON2.out.alloc _).drew)
                            ⟨W4.heap.size, 0, none⟩ 1 1 (cStr x.text) (by rfl) (by rfl) (World.news_of_block (cs := #[S x.text]) (t := 9) (fr := (0, 0)) (heap_alloc_new W4 _)) (by simp [cStr, Value.oneCell'])
                            (by omega) (by unfold maxLen; omega) (by omega) (by simp) (W4.heap.size + 1) (by simp) ?_; intro gg cap w1 hown1 hgrow hat hlt1; have k5 := grown_cell hgrow t3' HNE.out; have e5 := grown_free hgrow t3' f3' HNE.out))
                    all_goals (go_wp2_with fail; go_meet; exact ⟨_, HQ.out.putName hown1 (grown_alloc hgrow) (hat.imp id (fun e => by omega))⟩)
                  case rest =>
                    obtain ⟨vn', hV5⟩ := hcut
                    obtain ⟨g5, cp5, hve5, _, _, _, _, t2, _, tf5, hgl5⟩ := hV5.stk.topCells
                    simp only [Value.slice.injEq, Option.some.injEq, Addr.mk.injEq, and_true, true_and] at hve5
                    obtain ⟨rfl, rfl⟩ := hve5
                    have f2 := tf5 (rest.length * 4 + 2)
                    have HV5 := Px.hid hV5
                    clear hV5 tf5 x2' t3' f3' hgl' hvb4
                    go_wp2_with fail
                    go_meet
                    refine ⟨_, _, ?_, HEN.out, Px.hid (HV5.out.tell HOK.out.1), ?_⟩
                    · rw [← HNL.out]; simp
                    · exact fun o' ho' => by
                          rcases List.mem_cons.1 ho' with rfl | ho'
                          · exact ⟨by show o.told + 1 ≤ _; have := HOK.out.2.2.1; omega, by simp only [List.length_append, List.length_singleton]; have := HOK.out.2.2.2.1; omega, HOK.out.2.2.2.2.1, HOK.out.2.2.2.2.2⟩
                          · exact HOK.out.2.1 o' ho'
                · have HEN := Px.hid a4
                  have b1 : o.kind = 6 := a1
                  rw [b1] at t0
                  have b2 : (o.told : Int).tmod 2 = 1 := by rw [Int.tmod_eq_emod_of_nonneg (by omega)]; omega
                  clear a1 a2 a4 b1
                  go_wp2_with fail
                  go_meet
                  refine ⟨_, _, ?_, HEN.out, Px.hid (HV2.out.tell HOK.out.1), ?_⟩
                  · rw [← HNL.out]; simp
                  · exact fun o' ho' => by
                        rcases List.mem_cons.1 ho' with rfl | ho'
                        · exact ⟨by show o.told + 1 ≤ _; have := HOK.out.2.2.1; omega, by show o.names.length ≤ _; have := HOK.out.2.2.2.1; omega, HOK.out.2.2.2.2.1, HOK.out.2.2.2.2.2⟩
                        · exact HOK.out.2.1 o' ho'
                · have HEN := Px.hid (And.intro a1 a4)
                  have b1 : (o.kind == 6) = false := by simpa using a1
                  clear a1 a4
                  go_wp2_with fail
                  go_meet
                  refine ⟨_, _, ?_, HEN.out.2, Px.hid (HV2.out.tell HOK.out.1), ?_⟩
                  · rw [← HNL.out]; simp
                  · exact fun o' ho' => by
                        rcases List.mem_cons.1 ho' with rfl | ho'
                        · exact ⟨by show o.told + 1 ≤ _; have := HOK.out.2.2.1; omega, by show o.names.length ≤ _; have := HOK.out.2.2.2.1; omega, HOK.out.2.2.2.2.1, HOK.out.2.2.2.2.2⟩
                        · exact HOK.out.2.1 o' ho'
            case rest =>
              obtain ⟨st2, ps2, hl2, hen, HV3, hok2⟩ := hcut
              have HE2 := Px.hid (And.intro hl2 (And.intro hen hok2))
              clear hl2 hen hok2 hforms HV2 x0 x1 x2
              have x0 := cellOf HV3.out.val 0 rfl
              have x1 := cellOf HV3.out.val 1 rfl
              have hvb3 : vb < wc.heap.size := HV3.out.lt
              have hml : most ≤ 4096 := by have := HS.out.most; omega
              have hp2 : ps2.length = n := by rw [HV3.out.stk.plen, HE2.out.1]
              go_upto_if 83 with fail
              go_cut [4, 5] (fun v4 t5 wx => ∃ (a3 : Option Addr) (c3 n3 m3 : Nat) (ps3 : List (E6.Op × Value)), v4 = .slice a3 n3 c3 ∧ t5 = .int .i64 (m3 : Nat) ∧ n3 ≤ n + 1 ∧ m3 ≤ 4097 ∧ Hid (SV w wx vb x v4 ps3 (E6.begun x st2) ∧ m3 = max most (E6.begun x st2).length ∧ n3 = (E6.begun x st2).length))
              case first =>
                by_cases h5 : 5 ≤ x.kind
                · have HB := Px.hid (show E6.begun x st2 = ⟨x.kind, x.kids, 0, []⟩ :: st2 by unfold E6.begun; rw [decide_eq_true h5]; rfl)
                  obtain ⟨RL, hRL⟩ : ∃ RL, RL = ps2.reverse.flatMap cOp := ⟨_, rfl⟩
                  have HRO := Px.hid (show wc.ownsRow 0 66 4 (.slice la n lc) n RL by rw [hRL, ← hp2]; have := HV3.out.stk.row; rw [hp2] at this ⊢; exact this)
                  have HRL := Px.hid hRL
                  have HP2 := Px.hid hp2
                  clear hRL hp2
                  go_wp2_with (at_builtin; go_must (refine wpList_append_lies _ rfl _ _ _ rfl 0 66 i0 _ 4 48 Tryd.underlying61 hi0 hz0 hz1 hz2 rfl (by omega) (.slice la n lc) n RL rfl (HRO.out.alloc _) ⟨wc.heap.size, 0, none⟩ 1 1 [.int .i64 x.kind, .int .i64 x.kids, .int .i64 0, .slice none 0 0] rfl rfl (World.news_of_block (cs := #[.int .i64 x.kind, .int .i64 x.kids, .int .i64 0, .slice none 0 0]) (t := 66) (fr := (0, 0)) (heap_alloc_new wc _)) (by simp [Value.oneCell']) (by omega) (by unfold maxLen; omega) (by omega) (by omega) (wc.heap.size + 1) (by simp) ?_))
                  intro gg cap WY hown1 hgrow hat hlt1
                  have HP := Px.hid (show SV w WY vb x (.slice (some ⟨gg, 0, none⟩) (n + 1) cap) ((⟨x.kind, x.kids, 0, []⟩, .slice none 0 0) :: ps2) (⟨x.kind, x.kids, 0, []⟩ :: st2) from by
                    have h1 := hown1
                    rw [HRL.out, ← HP2.out] at h1
                    have h2 := hat
                    have h3 := grown_alloc1 (w := wc) hgrow
                    have h4 := HV3.out
                    rw [← HP2.out] at h2 h3 h4 ⊢
                    exact h4.push rfl h1 h3 (h2.imp id (fun e => by omega)))
                  clear hown1 hgrow hat
                  go_wp2_with fail
                  go_meet
                  refine ⟨_, _, n + 1, max most (n + 1), _, rfl, by go_num, Nat.le_refl _, by omega, Px.hid ⟨by rw [HB.out]; exact HP.out, ?_, ?_⟩⟩
                  · rw [HB.out, List.length_cons, HE2.out.1]
                  · rw [HB.out, List.length_cons, HE2.out.1]
                · have HB := Px.hid (show E6.begun x st2 = st2 by unfold E6.begun; rw [decide_eq_false h5]; rfl)
                  go_wp2_with fail
                  go_meet
                  refine ⟨_, _, n, most, _, rfl, rfl, Nat.le_succ _, by omega, Px.hid ⟨by rw [HB.out]; exact HV3.out, ?_, ?_⟩⟩
                  · rw [HB.out, HE2.out.1]; have := HS.out.sm; have := HNL.out; omega
                  · rw [HB.out, HE2.out.1]
              case rest =>
                obtain ⟨a3, c3, n3, m3, ps3, rfl, rfl, hn3, hm3, HV4⟩ := hcut
                have hok3 : ∀ o ∈ E6.begun x st2, o.told ≤ k + 1 ∧ o.names.length ≤ k + 1 ∧ -9223372036854775808 ≤ o.all ∧ o.all ≤ 9223372036854775807 := by
                  intro o ho
                  unfold E6.begun at ho
                  split at ho
                  · rcases List.mem_cons.1 ho with rfl | ho
                    · exact ⟨Nat.zero_le _, Nat.zero_le _, HX2.out.2.1.1, HX2.out.2.1.2⟩
                    · exact HE2.out.2.2 o ho
                  · exact HE2.out.2.2 o ho
                obtain ⟨B, hB⟩ : ∃ B, B = E6.begun x st2 := ⟨_, rfl⟩
                have HSH2 := Px.hid (show E6.shape l = E6.shapeN (l.drop (k + 1)) (k + 1 == 0) (E6.close B) m3 by rw [HSH.out, HE2.out.2.1, HV4.out.2.1, hB])
                have HN := Px.hid (show Stk w wc (.slice a3 n3 c3) ps3 B ∧ n3 = B.length ∧ m3 = max most B.length ∧ (∀ o ∈ B, o.told ≤ k + 1 ∧ o.names.length ≤ k + 1 ∧ -9223372036854775808 ≤ o.all ∧ o.all ≤ 9223372036854775807) from ⟨by rw [hB]; exact HV4.out.1.stk, by rw [hB]; exact HV4.out.2.2, by rw [hB]; exact HV4.out.2.1, by rw [hB]; exact hok3⟩)
                have hmn : max most n3 = m3 := by rw [HN.out.2.1, HN.out.2.2.1]
                have HMN := Px.hid hmn
                clear HV3 HV4 HE2 hok3 hB x0 x1 hvb3 hvb HSH hmn hp2
                have hn34 : n3 ≤ 4097 := by omega
                go_wp2
                obtain ⟨wo, rfl⟩ : ∃ wo : World, wo = wc := ⟨_, rfl⟩
                go_loopg [4, 10] (n3 + 1) (fun gk2 v4 t10 w2 => ∃ (lf : List E6.Op) (ps4 : List (E6.Op × Value)) (a4 : Option Addr) (c4 n4 : Nat), lf.length < gk2 ∧ v4 = .slice a4 n4 c4 ∧ t10 = .int .i64 (n4 : Nat) ∧ n4 = lf.length ∧ n4 ≤ n3 ∧ Hid (Stk w w2 v4 ps4 lf ∧ E6.close lf = E6.close B ∧ ∀ o ∈ lf, o ∈ B))
                case atStart => exact ⟨B, ps3, a3, c3, n3, by rw [← HN.out.2.1]; omega, rfl, rfl, HN.out.2.1, Nat.le_refl _, Px.hid ⟨HN.out.1, rfl, fun _ h => h⟩⟩
                case round =>
                  obtain ⟨lf, ps4, a4, c4, n4, hgl, rfl, rfl, hn4, hn4l, HL⟩ := hrel
                  have HGL := Px.hid (And.intro hgl hn4)
                  clear hgl hn4
                  have hkm : (k : Int) < 9223372036854775807 := by omega
                  rcases hlf : lf with _ | ⟨o, rs⟩
                  · rw [hlf] at HL HGL
                    obtain rfl : n4 = 0 := HGL.out.2
                    clear hlf
                    go_wp2_with fail
                    go_quiet (fail)
                    have HQ := Px.hid (HL.out.1.sm (Fr.drewN (Fr.refl _ _) nq))
                    go_wp2
                    go_roundg g'
                    case measure => omega
                    case rel =>
                      have hcb : E6.close B = [] := HL.out.2.1.symm
                      refine ⟨k + 1, m3, ps4, [], by have := HG.out; omega, by omega, by go_num, rfl, Px.hid ⟨HQ.out, by rw [HSH2.out, hcb], Nat.zero_le _, Nat.zero_le _, ?_, (fun o ho => by cases ho)⟩⟩
                      have := HS.out.most
                      have := HMN.out
                      have := HS.out.len
                      have := HNL.out
                      omega
                  · rw [hlf] at HL HGL
                    clear hlf
                    obtain ⟨vn, rest, hps, hmr⟩ : ∃ vn rest, ps4 = (o, vn) :: rest ∧ rest.map Prod.fst = rs := by
                      have hm := HL.out.1.fms
                      cases ps4 with
                      | nil => cases hm
                      | cons p rest =>
                        obtain ⟨o', vn⟩ := p
                        simp only [List.map_cons, List.cons.injEq] at hm
                        obtain ⟨rfl, hm⟩ := hm
                        exact ⟨vn, rest, rfl, hm⟩
                    subst hps
                    obtain ⟨g, cp, hve, q1, q2, t0, t1, t2, t3, tf, hgl⟩ := HL.out.1.topCells
                    simp only [Value.slice.injEq] at hve
                    obtain ⟨rfl, rfl, rfl⟩ := hve
                    unfold maxLen at q2
                    have hr4 : rest.length ≤ 4097 := by omega
                    have HMR := Px.hid hmr
                    clear t0 t3 tf hmr
                    by_cases hc0 : (o.told : Int) = o.all
                    · have hcz : ((o.told : Int) == o.all) = true := by simpa using hc0
                      have HC := Px.hid (show E6.close (o :: rs) = E6.close rs by conv => lhs; unfold E6.close; rw [if_pos hc0])
                      clear hc0
                      go_wp2_with fail
                      go_quiet (fail)
                      have HQ := Px.hid (HL.out.1.sm (Fr.drewN (Fr.refl _ _) nq))
                      go_wp2
                      go_roundg (rs.length + 1)
                      case measure => have := HGL.out.1; simp at this; omega
                      case rel =>
                        have hpop := HQ.out.pop
                        rw [HMR.out] at hpop
                        exact ⟨rs, rest, _, _, rest.length, by omega, rfl, by go_num, by rw [← HMR.out, List.length_map], by omega, Px.hid ⟨hpop, by rw [← HC.out]; exact HL.out.2.1, fun o' ho' => HL.out.2.2 o' (List.mem_cons_of_mem _ ho')⟩⟩
                    · have hcz : ((o.told : Int) == o.all) = false := by simpa using hc0
                      have HC := Px.hid (show E6.close (o :: rs) = o :: rs by conv => lhs; unfold E6.close; rw [if_neg hc0])
                      clear hc0
                      go_wp2_with fail
                      go_quiet (fail)
                      have HQ := Px.hid (HL.out.1.sm (Fr.drewN (Fr.refl _ _) nq))
                      go_wp2
                      go_roundg g'
                      case measure => omega
                      case rel =>
                        have hcb : E6.close B = o :: rs := by rw [← HL.out.2.1, HC.out]
                        have hle := close_le B
                        rw [hcb] at hle
                        have hbl := HN.out.2.1
                        refine ⟨k + 1, m3, _, o :: rs, by have := HG.out; omega, by omega, by go_num, rfl, Px.hid ⟨HQ.out, by rw [HSH2.out, hcb], ?_, ?_, ?_, fun o' ho' => HN.out.2.2.2 o' (HL.out.2.2 o' ho')⟩⟩
                        · have := HS.out.len; have := HNL.out; omega
                        · have := HMN.out; omega
                        · have := HS.out.most; have := HMN.out; have := HS.out.len; have := HNL.out; omega
    · have hlz : ¬ (k : Int) < (l.length : Int) := by omega
      have hke : k = l.length := by omega
      have HR := Px.hid (show E6.shape l = (most, !(k == 0) && st.isEmpty) by rw [HS.out.eq, hke, List.drop_length]; rfl)
      have HSM := Px.hid HS.out.stk.same
      by_cases h0 : k = 0
      · have z0 : ¬ (0 : Int) < (l.length : Int) := by omega
        have HB := Px.hid (show (!(k == 0) && st.isEmpty) = false by simp [h0])
        go_wp2
        go_ret2
        rw [HR.out, HB.out]
        exact ⟨rfl, HSM.out⟩
      · have z0 : (0 : Int) < (l.length : Int) := by omega
        have HB := Px.hid (show (!(k == 0) && st.isEmpty) = ((n : Int) == 0) by
          have : (k == 0) = false := by simpa using h0
          rw [this, ← HNL.out]
          cases st <;> simp
          omega)
        obtain ⟨B, hB⟩ : ∃ B, ((n : Int) == 0) = B := ⟨_, rfl⟩
        rw [hB] at HB
        go_wp2
        go_ret2
        rw [HR.out, HB.out]
        exact ⟨rfl, HSM.out⟩
end Go.Proofs.YtahojodgmjmpnaaDoor
