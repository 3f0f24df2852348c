/-
  Several texts in one: The reference's reader of layer 15 with what it owns; where a head stops; frames that are kept (plain). The walk over the reference's element (layer 15) where it fails ahead of a body, way by way. The walk over the reference's element (layer 15) behind its head. The walk over the reference's inside; its element, whole (layer 15). The reference's element, whole (layer 15).
-/
import Derived.Test.YtpfhollohodcjaaGreatDoorXF
import Derived.Test.YtpfhollohodcjaaGreatDoorXJ
/-! The reference's reader of layer 15 with what it owns; where a head stops; frames that are kept (plain). -/
namespace Go.Proofs.YtpfhollohodcjaaGreatDoor
open Go.RowKit Go.Px Go.Px.R5

structure RdRep (w : World) (b : Nat) (s : Bytes) (lim : Lim) (x : St) (vo : Value) : Prop where
  rd : Rd w b 136 s lim x vo []
  out : Owns w 90 3 cNode vo x.out
  ob : Apart vo.ownBlock (some b)
def rfoot (b : Nat) (vo : Value) (k : Nat) : Prop := k = b ∨ vo.ownBlock = some k
def RdAt (w : World) (b : Nat) (s : Bytes) (lim : Lim) (x : St) (F : Nat → Prop) : Prop := ∃ vo, RdRep w b s lim x vo ∧ F = rfoot b vo
section
variable {w w' : World} {b : Nat} {s : Bytes} {lim : Lim} {x y : St} {vo : Value}
theorem RdRep.keep (h : RdRep w b s lim x vo) (hk : ∀ k, rfoot b vo k → w'.heap[k]? = w.heap[k]?) : RdRep w' b s lim x vo :=
  ⟨h.rd.keep (hk b (.inl rfl)), h.out.keep (fun k e => hk k (.inr e)), h.ob⟩
theorem RdRep.footLt (h : RdRep w b s lim x vo) : ∀ k, rfoot b vo k → k < w.heap.size := by
  rintro k (rfl | hk)
  · exact h.rd.lt
  · exact h.out.lt hk
theorem RdRep.same (h : RdRep w b s lim x vo) (hs : Same w w') : RdRep w' b s lim x vo := h.keep fun k hk => hs.block k (h.footLt k hk) (fun x => x)
theorem RdRep.alloc (h : RdRep w b s lim x vo) (o : Obj) : RdRep (w.alloc o) b s lim x vo := h.keep fun k hk => Below.heap_alloc w o k (h.footLt k hk)
theorem RdRep.drewN (h : RdRep w b s lim x vo) (n : Nat) : RdRep (w.drewN n) b s lim x vo := h.keep fun _ _ => rfl
theorem RdRep.step (h : RdRep w b s lim x vo) (hr : Rd w' b 136 s lim y vo []) (hf : Fr (It b) w w') (ho : y.out = x.out) : RdRep w' b s lim y vo :=
  ⟨hr, by rw [ho]; exact h.out.fr hf (fun k hk e => h.ob k hk (by rw [show k = b from e])), h.ob⟩
def RAfter (w w' : World) (b : Nat) (s : Bytes) (lim : Lim) (x : St) (a : Px.Node) (vo : Value) : Prop :=
  ∃ vo', RdRep w' b s lim { x with out := x.out ++ [a] } vo' ∧ Fr (rfoot b vo) w w' ∧ Fresh w (rfoot b vo) (rfoot b vo')
theorem RdRep.afterOut (h : RdRep w b s lim x vo) {g cap : Nat} {a : Px.Node}
    (hown : w'.ownsRow 0 90 3 (.slice (some ⟨g, 0, none⟩) (x.out.length + 1) cap) (x.out.length + 1) (x.out.flatMap cNode ++ cNode a))
    (hg : w.grownBy w' vo.ownBlock) (hat : vo.ownBlock = some g ∨ w.heap.size ≤ g) :
    RAfter w (w'.setCell ⟨b, 5, none⟩ (.slice (some ⟨g, 0, none⟩) (x.out.length + 1) cap)) b s lim x a vo := by
  have hgb : g ≠ b := by rcases hat with e | e; exact fun x => h.ob g e (by rw [x]); have := h.rd.lt; omega
  have hb' : Rd w' b 136 s lim x vo [] := h.rd.keep (hg.block b h.rd.lt (fun e => h.ob b e.symm rfl))
  refine ⟨.slice (some ⟨g, 0, none⟩) (x.out.length + 1) cap, ⟨hb'.set 5 _ { x with out := x.out ++ [a] } _ _ (by simp [rdCells]), ?_, ?_⟩, ((Fr.refl _ w).grown hg (fun k e => .inl (.inr e))).setCell (.inl (.inl rfl)) _, ?_⟩
  · exact (owns_append hown).setCell (p := ⟨b, 5, none⟩) (by simpa [Value.ownBlock] using hgb) _
  · intro k hk; simp [Value.ownBlock] at hk; subst hk; simpa using Ne.symm hgb
  · rintro k (rfl | hk)
    · exact .inl (.inl rfl)
    · simp only [Value.ownBlock, Option.some.injEq] at hk
      subst hk
      rcases hat with e | e
      · exact .inl (.inr e)
      · exact .inr e
/-- An element of the list has one more. -/
theorem RdRep.bumpAt {g cap n j : Nat} {a : Px.Node} (h : RdRep w b s lim x (.slice (some ⟨g, 0, none⟩) n cap)) (hj : x.out[j]? = some a) :
    RdRep (w.setCell ⟨g, j * 3 + 1, none⟩ (.int .i64 (a.kids + 1))) b s lim { x with out := R5.bump x.out j } (.slice (some ⟨g, 0, none⟩) n cap) := by
  refine ⟨⟨?_⟩, ?_, h.ob⟩
  · rw [heap_setCell_other _ _ _ _ (fun e => h.ob g rfl (by rw [e]))]
    exact h.rd.blk
  · rw [bump_set x.out j a hj]
    exact owns_setAt cNode_len h.out hj 1 (by decide) _ rfl
theorem RdRep.kids (h : RdRep w b s lim x vo) {j : Nat} {a : Px.Node} (hj : x.out[j]? = some a) :
    ∃ g cap, vo = .slice (some ⟨g, 0, none⟩) x.out.length cap ∧ x.out.length ≤ cap ∧ cap ≤ maxLen ∧ w.cell? ⟨g, j * 3 + 1, none⟩ = some (.int .i64 a.kids) ∧ (∀ i, w.frozen? ⟨g, i, none⟩ = false) := by
  obtain ⟨g, cap, h1, h2, h3, h4, h5⟩ := h.out.at cNode_len hj
  exact ⟨g, cap, h1, h2, h3, h4 1 _ rfl, h5⟩
end
def Did (w : World) (b : Nat) (s : Bytes) (lim : Lim) (F : Nat → Prop) (y : St) (w' : World) : Prop := ∃ F', RdAt w' b s lim y F' ∧ Fr F w w' ∧ Fresh w F F'
theorem Did.trans {w w1 w2 : World} {b : Nat} {s : Bytes} {lim : Lim} {F F1 : Nat → Prop} {z : St} (h : Fr F w w1) (hn : Fresh w F F1) (k : Did w1 b s lim F1 z w2) : Did w b s lim F z w2 := by
  obtain ⟨F2, k1, k2, k3⟩ := k
  exact ⟨F2, k1, h.step hn k2, Fresh.trans hn h.size k3⟩
end Go.Proofs.YtpfhollohodcjaaGreatDoor

/-! The walk over the reference's element (layer 15) where it fails ahead of a body, way by way. -/
namespace Go.Proofs.YtpfhollohodcjaaGreatDoor
open Go.RowKit Go.Px Go.Px.R5

end Go.Proofs.YtpfhollohodcjaaGreatDoor

/-! The walk over the reference's element (layer 15) behind its head. -/
namespace Go.Proofs.YtpfhollohodcjaaGreatDoor
open Go.RowKit Go.Px Go.Px.R5

end Go.Proofs.YtpfhollohodcjaaGreatDoor

/-! The walk over the reference's inside; its element, whole (layer 15). -/
namespace Go.Proofs.YtpfhollohodcjaaGreatDoor
open Go.RowKit Go.Px Go.Px.R5

end Go.Proofs.YtpfhollohodcjaaGreatDoor

/-! The reference's element, whole (layer 15). -/
namespace Go.Proofs.YtpfhollohodcjaaGreatDoor
open Go.RowKit Go.Px Go.Px.R5

end Go.Proofs.YtpfhollohodcjaaGreatDoor
