/-
  The walk over der's begin, all its ways joined; what stays true while the reader reads on.
-/
import Derived.Test.YtceffhkgnifmeaaDoorDiV
import Derived.Test.YtceffhkgnifmeaaDoorDjV
namespace Go.Proofs.YtceffhkgnifmeaaDoor
open Go.RowKit Go.Px

theorem begin_any (s : Bytes) (lim : Lim) (hs : s.length ≤ 140737488355327) (b : Nat) (x : D5.Dx) (vs vo : Value) (w : World) (h : DrRep w b s lim x vs vo) (hx : x.at_ ≤ 262144) (hok : DOk s lim x) (hT : ∀ w2, Fr (dfoot b vs vo) w w2 → Tabs w2) :
    Calls Tryd.prog 43 #[.pointer (some ⟨b, 0, none⟩)] w fun r w' => BegPost w b s lim (dfoot b vs vo) (D5.beginD s lim x) r w' := by
  unfold D5.beginD
  cases hh : D5.head s lim x.out.length x.stack.length x.at_ (x.stack.head?.map (·.end_)) with
  | error e =>
    simp only
    show Calls Tryd.prog 43 #[.pointer (some ⟨b, 0, none⟩)] w fun r w' => r = panics e ∧ Fr (dfoot b vs vo) w w'
    rcases head_bad hh with he | ⟨c, hc, ⟨hi, rfl⟩ | ⟨hi, ⟨ht, rfl⟩ | ⟨ht, ⟨hin, hd, rfl⟩ | ⟨hd, hl | ⟨n, q, v, hl, hv, hlt, rfl⟩⟩⟩⟩⟩
    · exact begin_want s lim b x vs vo w h e he
    · exact begin_full s lim b x vs vo w h hx hok c hc hi
    · exact begin_tag s lim b x vs vo w h hx hok c hc hi ht
    · exact begin_deep s lim b x vs vo w h hx hok c hc hi ht hin hd
    · cases hin : R5.inner c with
      | true => exact begin_len_i s lim b x vs vo w h hx hok c hc hi ht hin (hd hin) e hl
      | false => exact begin_len_o s lim b x vs vo w h hx hok c hc hi ht hin e hl
    · cases hst : x.stack with
      | nil => rw [hst] at hv; cases hv
      | cons f rest =>
        rw [hst] at hv
        simp only [List.head?_cons, Option.map_some, Option.some.injEq] at hv
        subst hv
        cases hin : R5.inner c with
        | true => exact begin_end_i s lim b x vs vo w h hx hok c hc hi ht hin (hd hin) n q hl f rest hst hlt
        | false => exact begin_end_o s lim b x vs vo w h hx hok c hc hi ht hin n q hl f rest hst hlt
  | ok v =>
    obtain ⟨n, q⟩ := v
    obtain ⟨c, hc, hi, ht, hd, hl, hv⟩ := head_ok hh
    have hct := (want_place hc).2.2.2
    obtain ⟨t, htt⟩ : ∃ t, t = s.getD x.at_ 0 := ⟨_, rfl⟩
    simp only
    rw [← htt] at hct ⊢
    subst hct
    clear htt
    cases hin : R5.inner t.toNat with
    | true =>
      rw [if_pos rfl]
      cases hst : x.stack with
      | nil =>
        have := begin_push_n s lim b x vs vo w h hx hok t hc hi ht hin (hd hin) n q hl hst
        rw [hst] at this
        exact this
      | cons f rest =>
        have := begin_push_c s lim b x vs vo w h hx hok t hc hi ht hin (hd hin) n q hl f rest hst (by have := hv f.end_ (by rw [hst]; rfl); omega)
        rw [hst] at this
        exact this
    | false =>
      rw [if_neg (by simp)]
      by_cases hn : n = 0
      · rw [if_pos hn]
        simp only
        cases hbd : R5.body t.toNat ((s.take (q + n)).drop q) with
        | true =>
          rw [if_pos rfl]
          cases hst : x.stack with
          | nil =>
            have := begin_leaf_n0_ok s lim b x vs vo w h hx hok t hc hi ht hin n q hl hst hn hs hT hbd
            rw [hst] at this
            exact this
          | cons f rest =>
            have := begin_leaf_c0_ok s lim b x vs vo w h hx hok t hc hi ht hin n q hl f rest hst (by have := hv f.end_ (by rw [hst]; rfl); omega) hn hs hT hbd
            rw [hst] at this
            exact this
        | false =>
          rw [if_neg (by simp)]
          cases hst : x.stack with
          | nil => exact begin_leaf_n0_bad s lim b x vs vo w h hx hok t hc hi ht hin n q hl hst hn hs hT hbd
          | cons f rest => exact begin_leaf_c0_bad s lim b x vs vo w h hx hok t hc hi ht hin n q hl f rest hst (by have := hv f.end_ (by rw [hst]; rfl); omega) hn hs hT hbd
      · rw [if_neg hn]
        cases hw : D5.want s lim (q + n - 1) with
        | error e =>
          simp only
          cases hst : x.stack with
          | nil => exact begin_leaf_n1_err s lim b x vs vo w h hx hok t hc hi ht hin n q hl hst hn e hw
          | cons f rest => exact begin_leaf_c1_err s lim b x vs vo w h hx hok t hc hi ht hin n q hl f rest hst (by have := hv f.end_ (by rw [hst]; rfl); omega) hn e hw
        | ok c2 =>
          simp only
          cases hbd : R5.body t.toNat ((s.take (q + n)).drop q) with
          | true =>
            rw [if_pos rfl]
            cases hst : x.stack with
            | nil =>
              have := begin_leaf_n1_ok s lim b x vs vo w h hx hok t hc hi ht hin n q hl hst hn c2 hw hs hT hbd
              rw [hst] at this
              exact this
            | cons f rest =>
              have := begin_leaf_c1_ok s lim b x vs vo w h hx hok t hc hi ht hin n q hl f rest hst (by have := hv f.end_ (by rw [hst]; rfl); omega) hn c2 hw hs hT hbd
              rw [hst] at this
              exact this
          | false =>
            rw [if_neg (by simp)]
            cases hst : x.stack with
            | nil => exact begin_leaf_n1_bad s lim b x vs vo w h hx hok t hc hi ht hin n q hl hst hn c2 hw hs hT hbd
            | cons f rest => exact begin_leaf_c1_bad s lim b x vs vo w h hx hok t hc hi ht hin n q hl f rest hst (by have := hv f.end_ (by rw [hst]; rfl); omega) hn c2 hw hs hT hbd

/-! What stays true -/
structure RInv (s : Bytes) (lim : Lim) (x : D5.Dx) : Prop where
  each : ∀ f ∈ x.stack, f.at_ ≤ x.at_ ∧ f.no < x.out.length ∧ f.end_ ≤ 5000000000
  sl : (x.stack.length : Int) ≤ lim.d
  ol : (x.out.length : Int) ≤ lim.i
  here : x.at_ ≤ s.length
  bound : (x.at_ : Int) ≤ lim.b
  kids : ∀ a ∈ x.out, -1 ≤ a.kids ∧ a.kids ≤ x.out.length
theorem may_parts {lim : Lim} (h : lim.may = true) : 1 ≤ lim.d ∧ lim.d ≤ 32 ∧ 1 ≤ lim.i ∧ lim.i ≤ 4096 ∧ 1 ≤ lim.b ∧ lim.b ≤ 262144 ∧ 1 ≤ lim.r ∧ lim.r ≤ 4096 := by
  simp only [Lim.may, Bool.and_eq_true, decide_eq_true_eq] at h
  omega
theorem RInv.ok {s : Bytes} {lim : Lim} {x : D5.Dx} (h : RInv s lim x) (hm : lim.may = true) : DOk s lim x := by
  obtain ⟨_, m2, _, m4, _, m6, _, _⟩ := may_parts hm
  have := h.sl
  have := h.ol
  exact ⟨by omega, by omega, h.here, hm, fun f hf => ⟨(h.each f hf).2.1, (h.each f hf).2.2⟩, h.kids⟩
theorem RInv.ended {s : Bytes} {lim : Lim} {x y : D5.Dx} {p : Nat} (h : RInv s lim x) (he : D5.ended s x p = .ok y) : RInv s lim y := by
  unfold D5.ended at he
  cases hs : x.stack with
  | nil =>
    rw [hs] at he
    simp only [Except.ok.injEq] at he
    subst he
    exact h
  | cons f rest =>
    rw [hs] at he
    simp only at he
    by_cases h1 : (f.tag.toNat == 49) = true
    · rw [if_pos h1] at he
      by_cases h2 : (Op.bytesLess ((s.take x.at_).drop p) f.last) = true
      · rw [if_pos h2] at he; cases he
      · rw [if_neg h2] at he
        simp only [Except.ok.injEq] at he
        subst he
        refine ⟨?_, ?_, h.ol, h.here, h.bound, h.kids⟩
        · intro g hg
          rcases List.mem_cons.mp hg with rfl | hg
          · exact h.each f (by rw [hs]; exact List.mem_cons_self)
          · exact h.each g (by rw [hs]; exact List.mem_cons_of_mem _ hg)
        · have := h.sl
          rw [hs] at this
          exact this
    · rw [if_neg h1] at he
      simp only [Except.ok.injEq] at he
      subst he
      exact h
theorem bump_all {N : Int} : ∀ (l : List Px.Node) (j : Nat), (∀ a ∈ l, -1 ≤ a.kids ∧ a.kids ≤ N) → ∀ a ∈ R5.bump l j, -1 ≤ a.kids ∧ a.kids ≤ N + 1
  | [], j, _ => by
    intro a ha
    have : R5.bump [] j = [] := by unfold R5.bump; simp
    rw [this] at ha
    cases ha
  | x :: l, 0, h => by
    intro a ha
    have e : R5.bump (x :: l) 0 = { x with kids := x.kids + 1 } :: l := rfl
    rw [e] at ha
    rcases List.mem_cons.1 ha with rfl | ha
    · have := h x List.mem_cons_self
      simp only
      omega
    · have := h a (List.mem_cons_of_mem _ ha)
      omega
  | x :: l, j + 1, h => by
    intro a ha
    have e : R5.bump (x :: l) (j + 1) = x :: R5.bump l j := rfl
    rw [e] at ha
    rcases List.mem_cons.1 ha with rfl | ha
    · have := h a List.mem_cons_self
      omega
    · exact bump_all l j (fun b hb => h b (List.mem_cons_of_mem _ hb)) a ha
theorem bumpTop_len (l : List Px.Node) (st : List D5.Fm) : (D5.bumpTop l st).length = l.length := by
  cases st with
  | nil => rfl
  | cons f r => unfold D5.bumpTop R5.bump; exact List.length_modify _ _ _
theorem bumpTop_all {N : Int} (l : List Px.Node) (st : List D5.Fm) (h : ∀ a ∈ l, -1 ≤ a.kids ∧ a.kids ≤ N) : ∀ a ∈ D5.bumpTop l st, -1 ≤ a.kids ∧ a.kids ≤ N + 1 := by
  cases st with
  | nil => exact fun a ha => by have := h a ha; omega
  | cons f r => exact bump_all l f.no h
/-- An element more. -/
theorem RInv.item {s : Bytes} {lim : Lim} {x : D5.Dx} {a : Px.Node} {q : Nat} (h : RInv s lim x) (hi : ¬ (x.out.length : Int) = lim.i) (hq : x.at_ ≤ q) (hqs : q ≤ s.length) (hqb : (q : Int) ≤ lim.b) (ha : -1 ≤ a.kids ∧ a.kids ≤ 0) :
    RInv s lim { at_ := q, stack := x.stack, out := D5.bumpTop x.out x.stack ++ [a] } := by
  have hl : (D5.bumpTop x.out x.stack ++ [a]).length = x.out.length + 1 := by rw [List.length_append, bumpTop_len]; rfl
  refine ⟨fun f hf => ?_, h.sl, ?_, hqs, hqb, ?_⟩
  · have := h.each f hf
    exact ⟨Nat.le_trans this.1 hq, by show f.no < (D5.bumpTop x.out x.stack ++ [a]).length; omega, this.2.2⟩
  · have := h.ol
    show ((D5.bumpTop x.out x.stack ++ [a]).length : Int) ≤ lim.i
    omega
  · intro c hc
    show -1 ≤ c.kids ∧ c.kids ≤ ((D5.bumpTop x.out x.stack ++ [a]).length : Int)
    rw [hl]
    rcases List.mem_append.1 hc with hc | hc
    · have := bumpTop_all x.out x.stack h.kids c hc
      omega
    · rw [List.mem_singleton.1 hc]
      omega
theorem RInv.begin {s : Bytes} {lim : Lim} {x y : D5.Dx} (h : RInv s lim x) (hm : lim.may = true) (he : D5.beginD s lim x = .ok y) : RInv s lim y := by
  obtain ⟨_, m2, _, m4, m5, m6, _, _⟩ := may_parts hm
  unfold D5.beginD at he
  cases hh : D5.head s lim x.out.length x.stack.length x.at_ (x.stack.head?.map (·.end_)) with
  | error e => rw [hh] at he; cases he
  | ok v =>
    obtain ⟨n, q⟩ := v
    rw [hh] at he
    obtain ⟨c, hc, hi, ht, hd, hl, hv⟩ := head_ok hh
    obtain ⟨p1, p2, p3, p4⟩ := length_place hl
    have hcc := (want_place hc).2.2.2
    simp only at he
    rw [← hcc] at he
    by_cases hin : R5.inner c = true
    · rw [if_pos hin] at he
      simp only [Except.ok.injEq] at he
      subst he
      have g := h.item (a := ⟨s.getD x.at_ 0, 0, []⟩) hi (by omega) p2 p3 ⟨by simp, by simp⟩
      refine ⟨?_, ?_, g.ol, g.here, g.bound, g.kids⟩
      · intro f hf
        rcases List.mem_cons.1 hf with rfl | hf
        · refine ⟨by show x.at_ ≤ q; omega, ?_, by show q + n ≤ 5000000000; omega⟩
          show x.out.length < (D5.bumpTop x.out x.stack ++ [_]).length
          rw [List.length_append, bumpTop_len]
          exact Nat.lt_succ_self _
        · exact g.each f hf
      · have := h.sl
        have := hd hin
        show ((_ :: x.stack : List D5.Fm).length : Int) ≤ lim.d
        rw [List.length_cons]
        omega
    · rw [if_neg hin] at he
      have fin : ∀ (p2 : q + n ≤ s.length) (p3 : ((q + n : Nat) : Int) ≤ lim.b), (if R5.body c ((s.take (q + n)).drop q) then D5.ended s { at_ := q + n, stack := x.stack, out := D5.bumpTop x.out x.stack ++ [⟨s.getD x.at_ 0, -1, (s.take (q + n)).drop q⟩] } x.at_ else .error ((x.at_ : Int), 9)) = .ok y → RInv s lim y := fun p2 p3 he => by
        by_cases hb : R5.body c ((s.take (q + n)).drop q) = true
        · rw [if_pos hb] at he
          exact (h.item hi (by omega) p2 p3 ⟨Int.le_refl _, by simp⟩).ended he
        · rw [if_neg hb] at he; cases he
      by_cases hn : n = 0
      · rw [if_pos hn] at he
        exact fin (by omega) (by omega) he
      · rw [if_neg hn] at he
        cases hw : D5.want s lim (q + n - 1) with
        | error e => rw [hw] at he; cases he
        | ok c2 =>
          rw [hw] at he
          have := want_place hw
          exact fin (by omega) (by omega) he
end Go.Proofs.YtceffhkgnifmeaaDoor
