/-
  Several texts in one: What begin does to the reader's memory (package der): an element's number of Kids, an element more, a frame more. The walks over the references' reader (layer 15): Take, fault, Want. How such a reader lies in memory. UTF-8 as the reference reads it, against the library's words (plain law). No program is named here. The walks over the reference's Utf and Text: a text is UTF-8 as the library says. The walks over the reference's Tag and Body (layer 15). The walk over the reference's Body (layer 15). The walks over the reference's all and length (layer 15).
-/
import Derived.Test.YtpfhollohodcjaaGreatDoorXE
import Derived.Deep.RegionWith
import Derived.Test.YtpfhollohodcjaaGreatDoorXA
import Derived.Lib.TrimUEq
import Derived.Lib.MapLaws
import Derived.Test.YtpfhollohodcjaaGreatDoorXB
import Derived.Deep.CutBlock
/-! What begin does to the reader's memory (package der): an element's number of Kids, an element more, a frame more. -/
namespace Go.Proofs.YtpfhollohodcjaaGreatDoor
open Go.RowKit Go.Px

theorem Tryz.infoNode : (Tryz.prog.info? 90).map (fun i => (i.zero, i.size, i.bytes)) = some (some (.agg #[.int .u8 0, .int .i64 0, .string ByteArray.empty]), 3, 32) := by kernel_rfl
theorem Tryz.infoFm5 : (Tryz.prog.info? 165).map (fun i => (i.zero, i.size, i.bytes)) = some (some (.agg #[.int .u8 0, .int .i64 0, .int .i64 0, .int .i64 0, .string ByteArray.empty]), 5, 48) := by kernel_rfl
theorem grown_cell1 {w w1 : World} {o : Obj} {row : Option Nat} (hg : (w.alloc o).grownBy w1 row) {a : Addr} {v : Value} (hc : w.cell? a = some v) (hne : row ≠ some a.block) : w1.cell? a = some v :=
  hg.cell (show (w.alloc o).cell? a = some v from cell_alloc hc) (Ne.symm hne)
theorem grown_free1 {w w1 : World} {o : Obj} {row : Option Nat} (hg : (w.alloc o).grownBy w1 row) {a : Addr} {v : Value} (hc : w.cell? a = some v) (hf : w.frozen? a = false) (hne : row ≠ some a.block) : w1.frozen? a = false :=
  (World.frozen?_of_block (hg.block a.block (by have := World.block_lt_of_cell? w a hc; simp; omega) (Ne.symm hne))).trans ((frozen_alloc_some (w := w) (o := o) (by simp [hc])).trans hf)
theorem grown_alloc1 {w w1 : World} {o : Obj} {row : Option Nat} (hg : (w.alloc o).grownBy w1 row) : w.grownBy w1 row :=
  ⟨hg.os, hg.tape, hg.output, by have := hg.size; simp at this; omega, fun k hk hne => (hg.block k (by simp; omega) hne).trans (Below.heap_alloc w o k hk)⟩
theorem flat_set {α : Type} {c : α → List Value} {sz : Nat} (hc : ∀ a, (c a).length = sz) : ∀ (l : List α) (j i : Nat) (a a' : α) (u : Value), l[j]? = some a → i < sz → c a' = (c a).set i u → (l.flatMap c).set (j * sz + i) u = (l.set j a').flatMap c
  | [], j, i, a, a', u, h, _, _ => by simp at h
  | x :: l, 0, i, a, a', u, h, hi, he => by
    simp only [List.getElem?_cons_zero, Option.some.injEq] at h
    subst h
    rw [List.flatMap_cons, List.set_cons_zero, List.flatMap_cons, Nat.zero_mul, Nat.zero_add, List.set_append_left _ _ (by rw [hc]; exact hi), he]
  | x :: l, j + 1, i, a, a', u, h, hi, he => by
    simp only [List.getElem?_cons_succ] at h
    rw [List.flatMap_cons, List.set_cons_succ, List.flatMap_cons, List.set_append_right _ _ (by rw [hc, Nat.add_mul]; omega), hc, ← flat_set hc l j i a a' u h hi he]
    congr 2
    rw [Nat.add_mul]
    omega
/-- A cell of some element is written. -/
theorem owns_setAt {α : Type} {w : World} {T sz : Nat} {c : α → List Value} {l : List α} {a a' : α} {g cap j n : Nat} (hc : ∀ a, (c a).length = sz) (h : Owns w T sz c (.slice (some ⟨g, 0, none⟩) n cap) l) (hj : l[j]? = some a) (i : Nat) (hi : i < sz) (u : Value) (he : c a' = (c a).set i u) :
    Owns (w.setCell ⟨g, j * sz + i, none⟩ u) T sz c (.slice (some ⟨g, 0, none⟩) n cap) (l.set j a') := by
  obtain ⟨_, _, hv, _⟩ := h.len
  simp only [Value.slice.injEq] at hv
  have hn : n = l.length := hv.2.1
  subst hn
  have hs := (World.ownsRow.stored (show w.ownsRow 0 T sz (.slice (some ⟨g, 0, none⟩) l.length cap) l.length (l.flatMap c) from h) (j * sz + i) u).1
  unfold Owns
  rw [List.length_set, ← flat_set hc l j i a a' u hj hi he]
  exact hs
section
variable {w w' : World} {b : Nat} {s : Bytes} {lim : Lim} {x : D5.Dx} {vs vo : Value}
theorem DrRep.alloc (h : DrRep w b s lim x vs vo) (o : Obj) : DrRep (w.alloc o) b s lim x vs vo := h.keep fun k hk => Below.heap_alloc w o k (h.footLt k hk)
theorem bump_set (l : List Px.Node) (j : Nat) (a : Px.Node) (h : l[j]? = some a) : R5.bump l j = l.set j { a with kids := a.kids + 1 } := by
  unfold R5.bump
  have hl : j < l.length := (List.getElem?_eq_some_iff.1 h).1
  apply List.ext_getElem?
  intro i
  rw [List.getElem?_modify, List.getElem?_set]
  by_cases e : j = i
  · subst e
    rw [if_pos rfl, h, if_pos hl]
    simp
  · rw [if_neg e]
    simp [e]
/-- An element of the list has one more. -/
theorem DrRep.bumpAt {g cap n j : Nat} {a : Px.Node} (h : DrRep w b s lim x vs (.slice (some ⟨g, 0, none⟩) n cap)) (hj : x.out[j]? = some a) :
    DrRep (w.setCell ⟨g, j * 3 + 1, none⟩ (.int .i64 (a.kids + 1))) b s lim { x with out := R5.bump x.out j } vs (.slice (some ⟨g, 0, none⟩) n cap) := by
  refine ⟨?_, h.stack.setCell (p := ⟨g, j * 3 + 1, none⟩) (fun e => h.so _ e rfl) _, ?_, h.sb, h.ob, h.so⟩
  · rw [heap_setCell_other _ _ _ _ (fun e => h.ob g rfl (by rw [e]))]
    exact h.blk
  · rw [bump_set x.out j a hj]
    exact owns_setAt cNode_len h.out hj 1 (by decide) _ rfl
/-- An element's number of Kids, open. -/
theorem DrRep.kids (h : DrRep w b s lim x vs vo) {j : Nat} {a : Px.Node} (hj : x.out[j]? = some a) :
    ∃ g cap, vo = .slice (some ⟨g, 0, none⟩) x.out.length cap ∧ x.out.length ≤ cap ∧ cap ≤ maxLen ∧ w.cell? ⟨g, j * 3 + 1, none⟩ = some (.int .i64 a.kids) ∧ (∀ i, w.frozen? ⟨g, i, none⟩ = false) := by
  obtain ⟨g, cap, h1, h2, h3, h4, h5⟩ := h.out.at cNode_len hj
  exact ⟨g, cap, h1, h2, h3, h4 1 _ rfl, h5⟩
def DAfter (w w' : World) (b : Nat) (s : Bytes) (lim : Lim) (x : D5.Dx) (a : Px.Node) (vs vo : Value) : Prop :=
  ∃ vo', DrRep w' b s lim { x with out := x.out ++ [a] } vs vo' ∧ Fr (dfoot b vs vo) w w' ∧ Fresh w (dfoot b vs vo) (dfoot b vs vo')
theorem DrRep.afterOut (h : DrRep w b s lim x vs vo) {g cap : Nat} {a : Px.Node}
    (hown : w'.ownsRow 0 90 3 (.slice (some ⟨g, 0, none⟩) (x.out.length + 1) cap) (x.out.length + 1) (x.out.flatMap cNode ++ cNode a))
    (hg : w.grownBy w' vo.ownBlock) (hat : vo.ownBlock = some g ∨ w.heap.size ≤ g) :
    DAfter w (w'.setCell ⟨b, 7, none⟩ (.slice (some ⟨g, 0, none⟩) (x.out.length + 1) cap)) b s lim x a vs vo := by
  have hgb : g ≠ b := by rcases hat with e | e; exact fun x => h.ob g e (by rw [x]); have := h.lt; omega
  have hb' : w'.heap[b]? = some (.cells (drCells s lim x.at_ vs vo) 108 (0, 0)) := (hg.block b h.lt (fun e => h.ob b e.symm rfl)).trans h.blk
  refine ⟨.slice (some ⟨g, 0, none⟩) (x.out.length + 1) cap, ⟨?_, ?_, ?_, h.sb, ?_, ?_⟩, ((Fr.refl _ w).grown hg (fun k e => .inl (.inr (.inr e)))).setCell (.inl (.inl rfl)) _, ?_⟩
  · rw [heap_setCell_same w' b 7 _ _ _ hb']; rfl
  · exact (h.stack.grown hg h.so).setCell (p := ⟨b, 7, none⟩) h.sb.ne _
  · exact (owns_append hown).setCell (p := ⟨b, 7, none⟩) (by simpa [Value.ownBlock] using hgb) _
  · intro k hk; simp [Value.ownBlock] at hk; subst hk; simpa using Ne.symm hgb
  · intro k hk e
    rcases hat with y | y
    · exact h.so k hk (by rw [y]; exact e)
    · have := h.stack.lt hk; simp [Value.ownBlock] at e; omega
  · rintro k (rfl | hk | hk)
    · exact .inl (.inl rfl)
    · exact .inl (.inr (.inl hk))
    · simp only [Value.ownBlock, Option.some.injEq] at hk
      subst hk
      rcases hat with e | e
      · exact .inl (.inr (.inr e))
      · exact .inr e
def DPush (w w' : World) (b : Nat) (s : Bytes) (lim : Lim) (x : D5.Dx) (a : D5.Fm) (vs vo : Value) : Prop :=
  ∃ vs', DrRep w' b s lim { x with stack := a :: x.stack } vs' vo ∧ Fr (dfoot b vs vo) w w' ∧ Fresh w (dfoot b vs vo) (dfoot b vs' vo)
theorem DrRep.afterPush (h : DrRep w b s lim x vs vo) {g cap : Nat} {a : D5.Fm}
    (hown : w'.ownsRow 0 165 5 (.slice (some ⟨g, 0, none⟩) (x.stack.length + 1) cap) (x.stack.length + 1) (x.stack.reverse.flatMap cFm5 ++ cFm5 a))
    (hg : w.grownBy w' vs.ownBlock) (hat : vs.ownBlock = some g ∨ w.heap.size ≤ g) :
    DPush w (w'.setCell ⟨b, 6, none⟩ (.slice (some ⟨g, 0, none⟩) (x.stack.length + 1) cap)) b s lim x a vs vo := by
  have hgb : g ≠ b := by rcases hat with e | e; exact fun x => h.sb g e (by rw [x]); have := h.lt; omega
  have hb' : w'.heap[b]? = some (.cells (drCells s lim x.at_ vs vo) 108 (0, 0)) := (hg.block b h.lt (fun e => h.sb b e.symm rfl)).trans h.blk
  have hrl : x.stack.reverse.length = x.stack.length := List.length_reverse
  refine ⟨.slice (some ⟨g, 0, none⟩) (x.stack.length + 1) cap, ⟨?_, ?_, ?_, ?_, h.ob, ?_⟩, ((Fr.refl _ w).grown hg (fun k e => .inl (.inr (.inl e)))).setCell (.inl (.inl rfl)) _, ?_⟩
  · rw [heap_setCell_same w' b 6 _ _ _ hb']; rfl
  · have := owns_append (l := x.stack.reverse) (c := cFm5) (a := a) (w := w') (T := 165) (sz := 5) (g := g) (cap := cap) (by rw [hrl]; exact hown)
    rw [hrl] at this
    have e : ({ x with stack := a :: x.stack } : D5.Dx).stack.reverse = x.stack.reverse ++ [a] := by simp
    rw [e]
    exact this.setCell (p := ⟨b, 6, none⟩) (by simpa [Value.ownBlock] using hgb) _
  · exact (h.out.grown hg h.so.symm).setCell (p := ⟨b, 6, none⟩) h.ob.ne _
  · intro k hk; simp [Value.ownBlock] at hk; subst hk; simpa using Ne.symm hgb
  · intro k hk e
    simp [Value.ownBlock] at hk
    subst hk
    rcases hat with y | y
    · exact h.so _ y e
    · have := h.out.lt e; omega
  · rintro k (rfl | hk | hk)
    · exact .inl (.inl rfl)
    · simp only [Value.ownBlock, Option.some.injEq] at hk
      subst hk
      rcases hat with e | e
      · exact .inl (.inr (.inl e))
      · exact .inr e
    · exact .inl (.inr (.inr hk))
end
def BegPost (w : World) (b : Nat) (s : Bytes) (lim : Lim) (F : Nat → Prop) (res : Except D5.Flt D5.Dx) (r : Ending) (w' : World) : Prop :=
  match res with
  | .error e => r = panics e ∧ Fr F w w'
  | .ok y => r = .returned (.tuple #[]) ∧ ∃ F', DrAt w' b s lim y F' ∧ Fr F w w' ∧ Fresh w F F'
theorem begin_fin {w w1 w2 : World} {b : Nat} {s : Bytes} {lim : Lim} {F F1 : Nat → Prop} {res : Except D5.Flt D5.Dx} {r : Ending} (hf : Fr F w w1) (hn : Fresh w F F1) (h : EndPost w1 b s lim F1 res r w2) : BegPost w b s lim F res r w2 := by
  unfold EndPost at h
  unfold BegPost
  cases res with
  | error e => exact ⟨h.1, hf.step hn h.2⟩
  | ok y => exact ⟨h.1, F1, h.2.1, hf.step hn h.2.2, hn⟩
/-- What must hold of a reader that reads on. -/
structure DOk (s : Bytes) (lim : Lim) (x : D5.Dx) : Prop where
  sl : x.stack.length ≤ 900
  ol : x.out.length ≤ 1000000
  here : x.at_ ≤ s.length
  may : lim.may = true
  no : ∀ f ∈ x.stack, f.no < x.out.length ∧ f.end_ ≤ 5000000000
  kids : ∀ a ∈ x.out, -1 ≤ a.kids ∧ a.kids ≤ x.out.length

/-! Where a head stops, and what one that was read tells -/
theorem lenN_lt {s : Bytes} {lim : Lim} : ∀ (m p : Nat) (f : Bool) (n v : Nat), D5.lenN s lim m p f n = .ok v → p ≤ s.length → (p : Int) ≤ lim.b → p + m ≤ s.length ∧ ((p + m : Nat) : Int) ≤ lim.b ∧ v < (n + 1) * 256 ^ m
  | 0, p, f, n, v, h, hp, hb => by
    have : n = v := by simpa [D5.lenN] using h
    subst this
    exact ⟨hp, by simpa using hb, by simp⟩
  | m + 1, p, f, n, v, h, hp, hb => by
    unfold D5.lenN at h
    cases hw : D5.want s lim p with
    | error e => rw [hw] at h; cases h
    | ok c =>
      rw [hw] at h
      simp only at h
      obtain ⟨q1, q2, q3, _⟩ := want_place hw
      by_cases hc : (f && c == 0) = true
      · rw [if_pos hc] at h; cases h
      · rw [if_neg hc] at h
        obtain ⟨r1, r2, r3⟩ := lenN_lt m (p + 1) _ _ v h (by omega) (by omega)
        refine ⟨by omega, by omega, Nat.lt_of_lt_of_le r3 ?_⟩
        rw [Nat.pow_succ, Nat.mul_comm (256 ^ m) 256, ← Nat.mul_assoc]
        exact Nat.mul_le_mul_right _ (by omega)
theorem length_place {s : Bytes} {lim : Lim} {p n q : Nat} (h : D5.length s lim p = .ok (n, q)) : p < q ∧ q ≤ s.length ∧ (q : Int) ≤ lim.b ∧ n < 4294967296 := by
  unfold D5.length at h
  cases hw : D5.want s lim p with
  | error e => rw [hw] at h; cases h
  | ok c =>
    rw [hw] at h
    simp only at h
    obtain ⟨q1, q2, q3, _⟩ := want_place hw
    by_cases h1 : c < 128
    · rw [if_pos h1] at h
      simp only [Except.ok.injEq, Prod.mk.injEq] at h
      omega
    · rw [if_neg h1] at h
      by_cases h2 : c = 128 ∨ 132 < c
      · rw [if_pos h2] at h; cases h
      · rw [if_neg h2] at h
        cases hn : D5.lenN s lim (c % 128) (p + 1) true 0 with
        | error e => rw [hn] at h; cases h
        | ok v =>
          rw [hn] at h
          simp only at h
          obtain ⟨r1, r2, r3⟩ := lenN_lt _ _ _ _ _ hn (by omega) (by omega)
          by_cases h3 : v < 128
          · rw [if_pos h3] at h; cases h
          · rw [if_neg h3] at h
            simp only [Except.ok.injEq, Prod.mk.injEq] at h
            obtain ⟨rfl, rfl⟩ := h
            have hv : v < 4294967296 := by
              have e : c % 128 = 1 ∨ c % 128 = 2 ∨ c % 128 = 3 ∨ c % 128 = 4 := by omega
              rcases e with e | e | e | e <;> rw [e] at r3 <;> exact Nat.lt_of_lt_of_le r3 (by decide)
            exact ⟨by omega, by omega, by omega, hv⟩
theorem head_ok {s : Bytes} {lim : Lim} {o k p n q : Nat} {e : Option Nat} (h : D5.head s lim o k p e = .ok (n, q)) :
    ∃ c, D5.want s lim p = .ok c ∧ ¬ (o : Int) = lim.i ∧ R5.tagE c = 0 ∧ (R5.inner c = true → ¬ (k : Int) = lim.d) ∧ D5.length s lim (p + 1) = .ok (n, q) ∧ (∀ v, e = some v → q + n ≤ v) := by
  unfold D5.head at h
  cases hw : D5.want s lim p with
  | error e => rw [hw] at h; cases h
  | ok c =>
    rw [hw] at h
    simp only at h
    refine ⟨c, rfl, ?_⟩
    by_cases h1 : (o : Int) = lim.i
    · rw [if_pos h1] at h; cases h
    · rw [if_neg h1] at h
      by_cases h2 : R5.tagE c ≠ 0
      · rw [if_pos h2] at h; cases h
      · rw [if_neg h2] at h
        by_cases h3 : (R5.inner c && decide ((k : Int) = lim.d)) = true
        · rw [if_pos h3] at h; cases h
        · rw [if_neg h3] at h
          cases hl : D5.length s lim (p + 1) with
          | error e => rw [hl] at h; cases h
          | ok v =>
            obtain ⟨n', q'⟩ := v
            rw [hl] at h
            simp only at h
            by_cases h4 : (e.any fun v => decide (v < q' + n')) = true
            · rw [if_pos h4] at h; cases h
            · rw [if_neg h4] at h
              simp only [Except.ok.injEq, Prod.mk.injEq] at h
              obtain ⟨rfl, rfl⟩ := h
              refine ⟨h1, by omega, fun hi hk => h3 (by rw [hi, decide_eq_true hk]; rfl), rfl, fun v hv => ?_⟩
              subst hv
              simp only [Option.any_some, decide_eq_true_eq] at h4
              omega
theorem head_bad {s : Bytes} {lim : Lim} {o k p : Nat} {e : Option Nat} {f : D5.Flt} (h : D5.head s lim o k p e = .error f) :
    D5.want s lim p = .error f ∨ ∃ c, D5.want s lim p = .ok c ∧
      (((o : Int) = lim.i ∧ f = ((p : Int), 10)) ∨ (¬ (o : Int) = lim.i ∧ ((R5.tagE c ≠ 0 ∧ f = ((p : Int), R5.tagE c)) ∨ (R5.tagE c = 0 ∧ ((R5.inner c = true ∧ (k : Int) = lim.d ∧ f = ((p : Int), 10)) ∨ ((R5.inner c = true → ¬ (k : Int) = lim.d) ∧
        (D5.length s lim (p + 1) = .error f ∨ ∃ n q v, D5.length s lim (p + 1) = .ok (n, q) ∧ e = some v ∧ v < q + n ∧ f = ((p : Int), 9)))))))) := by
  unfold D5.head at h
  cases hw : D5.want s lim p with
  | error e => rw [hw] at h; left; simpa using h
  | ok c =>
    right
    rw [hw] at h
    simp only at h
    refine ⟨c, rfl, ?_⟩
    by_cases h1 : (o : Int) = lim.i
    · rw [if_pos h1] at h
      simp only [Except.error.injEq] at h
      exact .inl ⟨h1, h.symm⟩
    · rw [if_neg h1] at h
      refine .inr ⟨h1, ?_⟩
      by_cases h2 : R5.tagE c ≠ 0
      · rw [if_pos h2] at h
        simp only [Except.error.injEq] at h
        exact .inl ⟨h2, h.symm⟩
      · rw [if_neg h2] at h
        refine .inr ⟨by omega, ?_⟩
        by_cases h3 : (R5.inner c && decide ((k : Int) = lim.d)) = true
        · rw [if_pos h3] at h
          simp only [Except.error.injEq] at h
          simp only [Bool.and_eq_true, decide_eq_true_eq] at h3
          exact .inl ⟨h3.1, h3.2, h.symm⟩
        · rw [if_neg h3] at h
          refine .inr ⟨fun hi hk => h3 (by rw [hi, decide_eq_true hk]; rfl), ?_⟩
          cases hl : D5.length s lim (p + 1) with
          | error e => rw [hl] at h; left; simpa using h
          | ok v =>
            right
            obtain ⟨n', q'⟩ := v
            rw [hl] at h
            simp only at h
            cases e with
            | none => simp at h
            | some v =>
              simp only [Option.any_some] at h
              by_cases h4 : v < q' + n'
              · rw [if_pos (by simpa using h4)] at h
                simp only [Except.error.injEq] at h
                exact ⟨n', q', v, rfl, rfl, h4, h.symm⟩
              · rw [if_neg (by simpa using h4)] at h; cases h
end Go.Proofs.YtpfhollohodcjaaGreatDoor

/-! The walks over the references' reader (layer 15): Take, fault, Want. How such a reader lies in memory. -/
namespace Go.Proofs.YtpfhollohodcjaaGreatDoor
open Go.RowKit Go.Px Go.Px.R5

/-- The first eleven cells of a reader. -/
def rdCells (s : Bytes) (lim : Lim) (x : St) (vn : Value) (tl : List Value) : Array Value :=
  (S s :: .int .i64 lim.d :: .int .i64 lim.i :: .int .i64 lim.b :: .int .i64 lim.r :: vn :: .int .i64 x.err :: .int .i64 x.place :: .int .i64 (x.taken : Nat) :: .int .i64 (x.frames : Nat) :: .bool x.ended :: tl).toArray
structure Rd (w : World) (b T : Nat) (s : Bytes) (lim : Lim) (x : St) (vn : Value) (tl : List Value) : Prop where
  blk : w.heap[b]? = some (.cells (rdCells s lim x vn tl) T (0, 0))
section
variable {w w' : World} {b T : Nat} {s : Bytes} {lim : Lim} {x : St} {vn : Value} {tl : List Value}
theorem Rd.cells (h : Rd w b T s lim x vn tl) :
    w.cell? ⟨b, 0, none⟩ = some (S s) ∧ w.cell? ⟨b, 1, none⟩ = some (.int .i64 lim.d) ∧ w.cell? ⟨b, 2, none⟩ = some (.int .i64 lim.i) ∧ w.cell? ⟨b, 3, none⟩ = some (.int .i64 lim.b) ∧
    w.cell? ⟨b, 6, none⟩ = some (.int .i64 x.err) ∧ w.cell? ⟨b, 7, none⟩ = some (.int .i64 x.place) ∧ w.cell? ⟨b, 8, none⟩ = some (.int .i64 (x.taken : Nat)) ∧ w.cell? ⟨b, 9, none⟩ = some (.int .i64 (x.frames : Nat)) ∧ w.cell? ⟨b, 10, none⟩ = some (.bool x.ended) :=
  ⟨cellOf h.blk 0 (by simp [rdCells]), cellOf h.blk 1 (by simp [rdCells]), cellOf h.blk 2 (by simp [rdCells]), cellOf h.blk 3 (by simp [rdCells]), cellOf h.blk 6 (by simp [rdCells]), cellOf h.blk 7 (by simp [rdCells]),
   cellOf h.blk 8 (by simp [rdCells]), cellOf h.blk 9 (by simp [rdCells]), cellOf h.blk 10 (by simp [rdCells])⟩
theorem Rd.free (h : Rd w b T s lim x vn tl) (i : Nat) : w.frozen? ⟨b, i, none⟩ = false := freeOf h.blk i
theorem Rd.lt (h : Rd w b T s lim x vn tl) : b < w.heap.size := ltOf h.blk
theorem Rd.keep (h : Rd w b T s lim x vn tl) (hk : w'.heap[b]? = w.heap[b]?) : Rd w' b T s lim x vn tl := ⟨hk.trans h.blk⟩
theorem Rd.fr {F : Nat → Prop} (h : Rd w b T s lim x vn tl) (hf : Fr F w w') (hb : ¬ F b) : Rd w' b T s lim x vn tl := h.keep (hf.block b h.lt hb)
theorem Rd.same (h : Rd w b T s lim x vn tl) (hs : Same w w') : Rd w' b T s lim x vn tl := h.fr hs (fun x => x)
theorem Rd.alloc (h : Rd w b T s lim x vn tl) (o : Obj) : Rd (w.alloc o) b T s lim x vn tl := h.keep (Below.heap_alloc w o b h.lt)
theorem Rd.drew (h : Rd w b T s lim x vn tl) : Rd w.drew b T s lim x vn tl := ⟨h.blk⟩
theorem Rd.drewN (h : Rd w b T s lim x vn tl) (n : Nat) : Rd (w.drewN n) b T s lim x vn tl := ⟨h.blk⟩
theorem Rd.set (h : Rd w b T s lim x vn tl) (i : Nat) (v : Value) (y : St) (vn' : Value) (tl' : List Value) (hc : (rdCells s lim x vn tl).setIfInBounds i v = rdCells s lim y vn' tl') : Rd (w.setCell ⟨b, i, none⟩ v) b T s lim y vn' tl' :=
  ⟨by rw [heap_setCell_same w b i _ _ v h.blk, hc]⟩
end

end Go.Proofs.YtpfhollohodcjaaGreatDoor

/-! UTF-8 as the reference reads it, against the library's words (plain law). No program is named here. -/
namespace Go.Px.Utf
open Go.Lib

end Go.Px.Utf

/-! The walks over the reference's Utf and Text: a text is UTF-8 as the library says. -/
namespace Go.Proofs.YtpfhollohodcjaaGreatDoor
open Go.RowKit Go.Px Go.Px.Utf

end Go.Proofs.YtpfhollohodcjaaGreatDoor

/-! The walks over the reference's Tag and Body (layer 15). -/
namespace Go.Proofs.YtpfhollohodcjaaGreatDoor
open Go.RowKit Go.Px

end Go.Proofs.YtpfhollohodcjaaGreatDoor

/-! The walk over the reference's Body (layer 15). -/
namespace Go.Proofs.YtpfhollohodcjaaGreatDoor
open Go.RowKit Go.Px

end Go.Proofs.YtpfhollohodcjaaGreatDoor

/-! The walks over the reference's all and length (layer 15). -/
namespace Go.Proofs.YtpfhollohodcjaaGreatDoor
open Go.RowKit Go.Px

end Go.Proofs.YtpfhollohodcjaaGreatDoor
