/-
  The reference's reader of layer 15 with what it owns; where a head stops; frames that are kept (plain).
-/
import Derived.Test.YtceffhkgnifmeaaDoorRlV
import Derived.Test.YtceffhkgnifmeaaDoorE5U
namespace Go.Proofs.YtceffhkgnifmeaaDoor
open Go.RowKit Go.Px Go.Px.R5

structure RdRep (w : World) (b : Nat) (s : Bytes) (lim : Lim) (x : St) (vo : Value) : Prop where
  rd : Rd w b 75 s lim x vo []
  out : Owns w 63 3 cNode vo x.out
  ob : Apart vo.ownBlock (some b)
def rfoot (b : Nat) (vo : Value) (k : Nat) : Prop := k = b ∨ vo.ownBlock = some k
def RdAt (w : World) (b : Nat) (s : Bytes) (lim : Lim) (x : St) (F : Nat → Prop) : Prop := ∃ vo, RdRep w b s lim x vo ∧ F = rfoot b vo
section
variable {w w' : World} {b : Nat} {s : Bytes} {lim : Lim} {x y : St} {vo : Value}
theorem RdRep.keep (h : RdRep w b s lim x vo) (hk : ∀ k, rfoot b vo k → w'.heap[k]? = w.heap[k]?) : RdRep w' b s lim x vo :=
  ⟨h.rd.keep (hk b (.inl rfl)), h.out.keep (fun k e => hk k (.inr e)), h.ob⟩
theorem RdRep.footLt (h : RdRep w b s lim x vo) : ∀ k, rfoot b vo k → k < w.heap.size := by
  rintro k (rfl | hk)
  · exact h.rd.lt
  · exact h.out.lt hk
theorem RdRep.same (h : RdRep w b s lim x vo) (hs : Same w w') : RdRep w' b s lim x vo := h.keep fun k hk => hs.block k (h.footLt k hk) (fun x => x)
theorem RdRep.alloc (h : RdRep w b s lim x vo) (o : Obj) : RdRep (w.alloc o) b s lim x vo := h.keep fun k hk => Below.heap_alloc w o k (h.footLt k hk)
theorem RdRep.drewN (h : RdRep w b s lim x vo) (n : Nat) : RdRep (w.drewN n) b s lim x vo := h.keep fun _ _ => rfl
theorem RdRep.step (h : RdRep w b s lim x vo) (hr : Rd w' b 75 s lim y vo []) (hf : Fr (It b) w w') (ho : y.out = x.out) : RdRep w' b s lim y vo :=
  ⟨hr, by rw [ho]; exact h.out.fr hf (fun k hk e => h.ob k hk (by rw [show k = b from e])), h.ob⟩
theorem It.foot (hf : Fr (It b) w w') : Fr (rfoot b vo) w w' := hf.mono fun _ e => .inl e
theorem RdRep.cell5 (h : RdRep w b s lim x vo) : w.cell? ⟨b, 5, none⟩ = some vo := cellOf h.rd.blk 5 (by simp [rdCells])
def RAfter (w w' : World) (b : Nat) (s : Bytes) (lim : Lim) (x : St) (a : Px.Node) (vo : Value) : Prop :=
  ∃ vo', RdRep w' b s lim { x with out := x.out ++ [a] } vo' ∧ Fr (rfoot b vo) w w' ∧ Fresh w (rfoot b vo) (rfoot b vo')
theorem RdRep.afterOut (h : RdRep w b s lim x vo) {g cap : Nat} {a : Px.Node}
    (hown : w'.ownsRow 0 63 3 (.slice (some ⟨g, 0, none⟩) (x.out.length + 1) cap) (x.out.length + 1) (x.out.flatMap cNode ++ cNode a))
    (hg : w.grownBy w' vo.ownBlock) (hat : vo.ownBlock = some g ∨ w.heap.size ≤ g) :
    RAfter w (w'.setCell ⟨b, 5, none⟩ (.slice (some ⟨g, 0, none⟩) (x.out.length + 1) cap)) b s lim x a vo := by
  have hgb : g ≠ b := by rcases hat with e | e; exact fun x => h.ob g e (by rw [x]); have := h.rd.lt; omega
  have hb' : Rd w' b 75 s lim x vo [] := h.rd.keep (hg.block b h.rd.lt (fun e => h.ob b e.symm rfl))
  refine ⟨.slice (some ⟨g, 0, none⟩) (x.out.length + 1) cap, ⟨hb'.set 5 _ { x with out := x.out ++ [a] } _ _ (by simp [rdCells]), ?_, ?_⟩, ((Fr.refl _ w).grown hg (fun k e => .inl (.inr e))).setCell (.inl (.inl rfl)) _, ?_⟩
  · exact (owns_append hown).setCell (p := ⟨b, 5, none⟩) (by simpa [Value.ownBlock] using hgb) _
  · intro k hk; simp [Value.ownBlock] at hk; subst hk; simpa using Ne.symm hgb
  · rintro k (rfl | hk)
    · exact .inl (.inl rfl)
    · simp only [Value.ownBlock, Option.some.injEq] at hk
      subst hk
      rcases hat with e | e
      · exact .inl (.inr e)
      · exact .inr e
/-- An element of the list has one more. -/
theorem RdRep.bumpAt {g cap n j : Nat} {a : Px.Node} (h : RdRep w b s lim x (.slice (some ⟨g, 0, none⟩) n cap)) (hj : x.out[j]? = some a) :
    RdRep (w.setCell ⟨g, j * 3 + 1, none⟩ (.int .i64 (a.kids + 1))) b s lim { x with out := R5.bump x.out j } (.slice (some ⟨g, 0, none⟩) n cap) := by
  refine ⟨⟨?_⟩, ?_, h.ob⟩
  · rw [heap_setCell_other _ _ _ _ (fun e => h.ob g rfl (by rw [e]))]
    exact h.rd.blk
  · rw [bump_set x.out j a hj]
    exact owns_setAt cNode_len h.out hj 1 (by decide) _ rfl
theorem RdRep.kids (h : RdRep w b s lim x vo) {j : Nat} {a : Px.Node} (hj : x.out[j]? = some a) :
    ∃ g cap, vo = .slice (some ⟨g, 0, none⟩) x.out.length cap ∧ x.out.length ≤ cap ∧ cap ≤ maxLen ∧ w.cell? ⟨g, j * 3 + 1, none⟩ = some (.int .i64 a.kids) ∧ (∀ i, w.frozen? ⟨g, i, none⟩ = false) := by
  obtain ⟨g, cap, h1, h2, h3, h4, h5⟩ := h.out.at cNode_len hj
  exact ⟨g, cap, h1, h2, h3, h4 1 _ rfl, h5⟩
end
theorem rwant_out (s : Bytes) (lim : Lim) (x : St) (p : Nat) : (R5.want s lim x p).2.out = x.out := by
  unfold R5.want; repeat' split
  all_goals rfl
theorem rlenN_out (s : Bytes) (lim : Lim) : ∀ (m : Nat) (x : St) (p : Nat) (f : Bool) (n : Nat), (R5.lenN s lim m x p f n).2.out = x.out
  | 0, x, p, f, n => rfl
  | m + 1, x, p, f, n => by
    unfold R5.lenN
    have hw := rwant_out s lim x p
    cases h : R5.want s lim x p with
    | mk b y =>
      rw [h] at hw
      cases b
      · exact hw
      · simp only
        split
        · exact hw
        · exact (rlenN_out s lim m y _ _ _).trans hw
theorem rlength_out (s : Bytes) (lim : Lim) (x : St) (p : Nat) : (R5.length s lim x p).2.out = x.out := by
  unfold R5.length
  have hw := rwant_out s lim x p
  cases h : R5.want s lim x p with
  | mk b y =>
    rw [h] at hw
    cases b
    · exact hw
    · simp only
      by_cases h1 : (s.getD p 0).toNat < 128
      · rw [if_pos h1]; exact hw
      · rw [if_neg h1]
        by_cases h2 : (s.getD p 0).toNat = 128 ∨ 132 < (s.getD p 0).toNat
        · rw [if_pos h2]; exact hw
        · rw [if_neg h2]
          have hl := rlenN_out s lim ((s.getD p 0).toNat % 128) y (p + 1) true 0
          cases h3 : R5.lenN s lim ((s.getD p 0).toNat % 128) y (p + 1) true 0 with
          | mk o z =>
            rw [h3] at hl
            cases o with
            | none => exact hl.trans hw
            | some v =>
              simp only
              split
              · exact hl.trans hw
              · exact hl.trans hw
/-! What a head tells -/
theorem rhead_ok {s : Bytes} {lim : Lim} {room : Bool} {x z : St} {p n q : Nat} {e : Option Nat} (h : R5.head s lim room x p e = (some (n, q), z)) :
    ∃ y, R5.want s lim x p = (true, y) ∧ ¬ lim.i ≤ x.out.length ∧ tagE (s.getD p 0).toNat = 0 ∧ (inner (s.getD p 0).toNat = true → room = true) ∧ R5.length s lim y (p + 1) = (some (n, q), z) ∧ (∀ v, e = some v → q + n ≤ v) := by
  unfold R5.head at h
  have hwo := rwant_out s lim x p
  cases hw : R5.want s lim x p with
  | mk b y =>
    rw [hw] at h hwo
    simp only at hwo
    cases b
    · simp at h
    · refine ⟨y, rfl, ?_⟩
      simp only at h
      rw [hwo] at h
      by_cases h1 : lim.i ≤ x.out.length
      · rw [if_pos h1] at h; simp at h
      · rw [if_neg h1] at h
        by_cases h2 : tagE (s.getD p 0).toNat ≠ 0
        · rw [if_pos h2] at h; simp at h
        · rw [if_neg h2] at h
          by_cases h3 : (inner (s.getD p 0).toNat && !room) = true
          · rw [if_pos h3] at h; simp at h
          · rw [if_neg h3] at h
            cases hl : R5.length s lim y (p + 1) with
            | mk o u =>
              rw [hl] at h
              cases o with
              | none => simp at h
              | some v =>
                obtain ⟨n', q'⟩ := v
                simp only at h
                by_cases h4 : (e.any fun v => decide (v < q' + n')) = true
                · rw [if_pos h4] at h; simp at h
                · rw [if_neg h4] at h
                  simp only [Prod.mk.injEq, Option.some.injEq] at h
                  obtain ⟨⟨rfl, rfl⟩, rfl⟩ := h
                  refine ⟨h1, by omega, fun hi => ?_, rfl, fun v hv => ?_⟩
                  · cases room with
                    | true => rfl
                    | false => exact absurd (by rw [hi]; rfl) h3
                  · subst hv
                    simp only [Option.any_some, decide_eq_true_eq] at h4
                    omega
theorem rhead_bad {s : Bytes} {lim : Lim} {room : Bool} {x z : St} {p : Nat} {e : Option Nat} (h : R5.head s lim room x p e = (none, z)) :
    R5.want s lim x p = (false, z) ∨ ∃ y, R5.want s lim x p = (true, y) ∧
      ((lim.i ≤ x.out.length ∧ z = fault y p 10) ∨ (¬ lim.i ≤ x.out.length ∧ ((tagE (s.getD p 0).toNat ≠ 0 ∧ z = fault y p (tagE (s.getD p 0).toNat)) ∨ (tagE (s.getD p 0).toNat = 0 ∧ ((inner (s.getD p 0).toNat = true ∧ room = false ∧ z = fault y p 10) ∨ ((inner (s.getD p 0).toNat = true → room = true) ∧
        (R5.length s lim y (p + 1) = (none, z) ∨ ∃ n q u v, R5.length s lim y (p + 1) = (some (n, q), u) ∧ e = some v ∧ v < q + n ∧ z = fault u p 9))))))) := by
  unfold R5.head at h
  have hwo := rwant_out s lim x p
  cases hw : R5.want s lim x p with
  | mk b y =>
    rw [hw] at h hwo
    simp only at hwo
    cases b
    · simp only [Prod.mk.injEq, true_and] at h
      left; rw [h]
    · right
      refine ⟨y, rfl, ?_⟩
      simp only at h
      rw [hwo] at h
      by_cases h1 : lim.i ≤ x.out.length
      · rw [if_pos h1] at h
        simp only [Prod.mk.injEq, true_and] at h
        exact .inl ⟨h1, h.symm⟩
      · rw [if_neg h1] at h
        refine .inr ⟨h1, ?_⟩
        by_cases h2 : tagE (s.getD p 0).toNat ≠ 0
        · rw [if_pos h2] at h
          simp only [Prod.mk.injEq, true_and] at h
          exact .inl ⟨h2, h.symm⟩
        · rw [if_neg h2] at h
          refine .inr ⟨by omega, ?_⟩
          by_cases h3 : (inner (s.getD p 0).toNat && !room) = true
          · rw [if_pos h3] at h
            simp only [Prod.mk.injEq, true_and] at h
            simp only [Bool.and_eq_true, Bool.not_eq_true'] at h3
            exact .inl ⟨h3.1, h3.2, h.symm⟩
          · rw [if_neg h3] at h
            refine .inr ⟨fun hi => ?_, ?_⟩
            · cases room with
              | true => rfl
              | false => exact absurd (by rw [hi]; rfl) h3
            · cases hl : R5.length s lim y (p + 1) with
              | mk o u =>
                rw [hl] at h
                cases o with
                | none =>
                  simp only [Prod.mk.injEq, true_and] at h
                  left; rw [h]
                | some v =>
                  right
                  obtain ⟨n', q'⟩ := v
                  simp only at h
                  cases e with
                  | none => simp at h
                  | some v =>
                    simp only [Option.any_some] at h
                    by_cases h4 : v < q' + n'
                    · rw [if_pos (by simpa using h4)] at h
                      simp only [Prod.mk.injEq, true_and] at h
                      exact ⟨n', q', u, v, rfl, rfl, h4, h.symm⟩
                    · rw [if_neg (by simpa using h4)] at h
                      simp at h
/-! Frames are kept -/
theorem rwant_true_eq {s : Bytes} {lim : Lim} {x y : St} {p : Nat} (h : R5.want s lim x p = (true, y)) : y = take x (p + 1) := by
  unfold R5.want at h
  by_cases h1 : p < s.length ∧ (p : Int) < lim.b
  · rw [if_pos h1] at h
    simp only [Prod.mk.injEq, true_and] at h
    exact h.symm
  · rw [if_neg h1] at h
    split at h <;> simp at h
theorem leaf_frames {s : Bytes} {lim : Lim} {x z : St} {t : UInt8} {p q n r : Nat} (h : R5.leaf s lim x t p q n = (some r, z)) : z.frames = x.frames := by
  unfold R5.leaf at h
  by_cases hn : n = 0
  · rw [if_pos hn] at h
    simp only at h
    split at h
    · simp only [Prod.mk.injEq] at h
      rw [← h.2]
    · simp at h
  · rw [if_neg hn] at h
    cases hw : R5.want s lim x (q + n - 1) with
    | mk b y =>
      rw [hw] at h
      cases b
      · simp at h
      · have := rwant_true_eq hw
        simp only at h
        split at h
        · simp only [Prod.mk.injEq] at h
          rw [← h.2, this]
          rfl
        · simp at h
def ElFr (s : Bytes) (lim : Lim) (d : Nat) : Prop := ∀ (x y : St) (p q : Nat) (e : Option Nat), D5.Ok s lim x p → R5.elem s lim d x p e = (some q, y) → y.frames = x.frames
theorem inside_frames {s : Bytes} {lim : Lim} {d : Nat} (hR : ElFr s lim d) (tg me e : Nat) : ∀ (m : Nat) (x y : St) (p q : Nat) (last : Bytes), D5.Ok s lim x p → R5.insideN s (fun x p => R5.elem s lim d x p (some e)) tg me e m x p last = (some q, y) → y.frames = x.frames
  | 0, x, y, p, q, last, _, h => by
    unfold R5.insideN at h
    simp only [Prod.mk.injEq] at h
    rw [h.2]
  | m + 1, x, y, p, q, last, hok, h => by
    unfold R5.insideN at h
    by_cases hp : p < e
    · rw [if_pos hp] at h
      cases hr : R5.elem s lim d x p (some e) with
      | mk o z =>
        rw [hr] at h
        cases o with
        | none => simp at h
        | some t =>
          simp only at h
          obtain ⟨l, hs⟩ := E5.elem_sound s lim d x z p t (some e) hok hr
          have hf := hR x z p t (some e) hok hr
          split at h
          · simp at h
          · have hok2 : D5.Ok s lim { z with out := bump z.out me } t := ⟨hs.ok.ps, hs.ok.pb, hs.ok.taken, by
              have := hs.ok.out
              show ((bump z.out me).length : Int) ≤ lim.i
              rw [D5.bump_len]; exact this⟩
            exact (inside_frames hR tg me e m _ y t q _ hok2 h).trans hf
    · rw [if_neg hp] at h
      simp only [Prod.mk.injEq] at h
      rw [h.2]
theorem elem_frames (s : Bytes) (lim : Lim) : ∀ d, ElFr s lim d := by
  intro d
  induction d with
  | zero =>
    intro x y p q e hok h
    unfold R5.elem at h
    cases hr : R5.head s lim false x p e with
    | mk o z =>
      rw [hr] at h
      cases o with
      | none => simp at h
      | some v =>
        obtain ⟨n, q1⟩ := v
        have := (E5.head_facts hok hr).1
        have h2 := leaf_frames h
        rw [h2, this]
  | succ d ih =>
    intro x y p q e hok h
    unfold R5.elem at h
    cases hr : R5.head s lim true x p e with
    | mk o z =>
      rw [hr] at h
      cases o with
      | none => simp at h
      | some v =>
        obtain ⟨n, q1⟩ := v
        obtain ⟨h2, h3, h4, h5, h7, h8, h9, h10⟩ := E5.head_facts hok hr
        simp only at h
        by_cases hin : inner (s.getD p 0).toNat = true
        · rw [if_pos hin] at h
          unfold R5.inside at h
          have hzo : z.out = x.out := by rw [h2]
          cases hi : R5.insideN s (fun x p => R5.elem s lim d x p (some (q1 + n))) (s.getD p 0).toNat z.out.length (q1 + n) (q1 + n - q1) { z with out := z.out ++ [⟨s.getD p 0, 0, []⟩], frames := z.frames + 1 } q1 [] with
          | mk o2 u =>
            rw [hi] at h
            cases o2 with
            | none => simp at h
            | some r =>
              simp only [Prod.mk.injEq, Option.some.injEq] at h
              obtain ⟨_, rfl⟩ := h
              have hok2 : D5.Ok s lim { z with out := z.out ++ [⟨s.getD p 0, 0, []⟩], frames := z.frames + 1 } q1 := ⟨h3, h4, by rw [h2], by simp only [hzo, List.length_append, List.length_singleton]; omega⟩
              have := inside_frames ih _ _ _ _ _ _ _ _ _ hok2 hi
              show u.frames - 1 = x.frames
              rw [this]
              show z.frames + 1 - 1 = x.frames
              rw [h2]
              rfl
        · rw [if_neg hin] at h
          have h11 := leaf_frames h
          rw [h11, h2]
/-! What the reader's functions hand back -/
def itemV : Option Nat → Value
  | none => .tuple #[.int .i64 0, .bool false]
  | some q => .tuple #[.int .i64 (q : Nat), .bool true]
def Did (w : World) (b : Nat) (s : Bytes) (lim : Lim) (F : Nat → Prop) (y : St) (w' : World) : Prop := ∃ F', RdAt w' b s lim y F' ∧ Fr F w w' ∧ Fresh w F F'
theorem Did.trans {w w1 w2 : World} {b : Nat} {s : Bytes} {lim : Lim} {F F1 : Nat → Prop} {z : St} (h : Fr F w w1) (hn : Fresh w F F1) (k : Did w1 b s lim F1 z w2) : Did w b s lim F z w2 := by
  obtain ⟨F2, k1, k2, k3⟩ := k
  exact ⟨F2, k1, h.step hn k2, Fresh.trans hn h.size k3⟩
def endI : Option Nat → Int
  | none => -1
  | some v => v
/-- What element does, at so many levels. -/
def ElemC (s : Bytes) (lim : Lim) (d : Nat) : Prop := ∀ (b p dp : Nat) (x : St) (e : Option Nat) (F : Nat → Prop) (w : World), RdAt w b s lim x F → D5.Ok s lim x p → x.frames ≤ dp → ((dp + d : Nat) : Int) = lim.d → (∀ v, e = some v → v ≤ 5000000000) →
  Calls Tryd.prog 45 #[.pointer (some ⟨b, 0, none⟩), .int .i64 (p : Nat), .int .i64 (dp : Nat), .int .i64 (endI e)] w fun r w' => r = .returned (itemV (R5.elem s lim d x p e).1) ∧ Did w b s lim F (R5.elem s lim d x p e).2 w'
end Go.Proofs.YtceffhkgnifmeaaDoor
