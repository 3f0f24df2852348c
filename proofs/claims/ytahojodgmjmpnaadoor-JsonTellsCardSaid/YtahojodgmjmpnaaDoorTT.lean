/-
  Several texts in one: The walks over the statements JsonNormal, JsonBack.
-/
import Derived.Test.YtahojodgmjmpnaaDoorTP
/-! The walks over the statements JsonNormal, JsonBack. -/
namespace Go.Px
open Go.RowKit
theorem flat_get {α : Type} {c : α → List Value} {sz : Nat} (hc : ∀ a, (c a).length = sz) (hs : 0 < sz) : ∀ (l : List α) (j : Nat) (u : Value), (l.flatMap c)[j]? = some u → ∃ x, l[j / sz]? = some x ∧ (c x)[j % sz]? = some u
  | [], j, u, h => by simp at h
  | a :: t, j, u, h => by
    rw [List.flatMap_cons] at h
    by_cases hj : j < sz
    · rw [List.getElem?_append_left (by rw [hc]; exact hj)] at h
      exact ⟨a, by rw [Nat.div_eq_of_lt hj]; rfl, by rw [Nat.mod_eq_of_lt hj]; exact h⟩
    · rw [List.getElem?_append_right (by rw [hc]; omega), hc] at h
      obtain ⟨x, h1, h2⟩ := flat_get hc hs t (j - sz) u h
      have e : j = (j - sz) + sz := by omega
      have e1 : j / sz = (j - sz) / sz + 1 := by
        conv => lhs; rw [e]
        exact Nat.add_div_right _ hs
      have e2 : j % sz = (j - sz) % sz := by
        conv => lhs; rw [e]
        exact Nat.add_mod_right _ _
      exact ⟨x, by rw [e1]; exact h1, by rw [e2]; exact h2⟩
/-- What lies somewhere, as what an append takes. -/
theorem Lies.src {α : Type} {P : Program} {w : World} {sz : Nat} {c : α → List Value} {v : Value} {l : List α} {tx e' : TypeId} (h : Lies w sz c v l) (hc : ∀ a, (c a).length = sz) (hs : 0 < sz) (hk : P.underlying tx = some (.slice e')) (h1 : ∀ u ∈ l.flatMap c, u.oneCell' = true) :
    Src P sz tx v l.length (l.flatMap c) w := by
  obtain ⟨a, cap, hv, _, _⟩ := h.slice
  cases l with
  | nil =>
    subst hv
    cases a with
    | none => exact Src.ofNil w hk cap
    | some ad => exact Src.ofSlice w hk ad 0 cap [] (by simp) (fun j u hu => by simp at hu) (fun u hu => by cases hu)
  | cons x t =>
    obtain ⟨b, off, cap2, hv2, _, _⟩ := h.cell 0 x rfl
    rw [hv2]
    refine Src.ofSlice w hk ⟨b, off, none⟩ _ _ _ (flat_len hc _) (fun j u hu => ?_) h1
    obtain ⟨y, h2, h3⟩ := flat_get hc hs _ j u hu
    obtain ⟨b', off', cap3, hv3, _, hcell⟩ := h.cell _ y h2
    rw [hv2] at hv3
    simp only [Value.slice.injEq, Option.some.injEq, Addr.mk.injEq, and_true, true_and] at hv3
    obtain ⟨⟨rfl, rfl⟩, _⟩ := hv3
    have := hcell _ u h3
    have e : j / sz * sz + j % sz = j := by rw [Nat.mul_comm]; exact Nat.div_add_mod j sz
    rw [e] at this
    have hadd : (⟨b, off, none⟩ : Addr).add j = ⟨b, off + j, none⟩ := by unfold Addr.add; split <;> simp_all
    rw [hadd]
    exact this
/-- An append onto an empty slice of the call's own. -/
theorem run_append_src0 (P : Program) (w : World) (t tx ty : TypeId) (e : TypeId) (i : TypeInfo) (z : Value) (size bytes : Nat) (ht : P.underlying t = some (.slice e)) (hi : P.info? e = some i) (hz : i.zero = some z)
    (hsize : i.size = size) (hby : i.bytes = bytes) (hzs : z.cells.size = size) (b : Nat) (hb : w.heap[b]? = some (.cells #[] e (0, 0)))
    (x : Value) (m : Nat) (news : List Value) (hs : Src P size tx x m news w) (h63 : m ≤ maxLen) (hbytes : m * bytes ≤ 140737488355328) :
    ∃ g cap w', (Builtin.append_ #[t, tx] ty #[.slice (some ⟨b, 0, none⟩) 0 0, x]).run P w = .ok (.slice (some ⟨g, 0, none⟩) m cap) w' ∧
      w'.ownsRow 0 e size (.slice (some ⟨g, 0, none⟩) m cap) m news ∧ w.grownBy w' none ∧ (g = b ∨ g = w.heap.size) := by
  subst hsize
  subst hby
  by_cases hm : m = 0
  · subst hm
    have hnl : news = [] := List.eq_nil_of_length_eq_zero (by rw [hs.newsLen]; simp)
    subst hnl
    have hr := run_append_room_src (P := P) w t tx ty e i ht hi b 0 0 0 x 0 [] hs (Nat.le_refl _) (fun j hj => absurd hj (Nat.not_lt_zero j)) (fun j hj => absurd hj (Nat.not_lt_zero j))
    exact ⟨b, 0, w, hr, ⟨by simp, .inr ⟨b, 0, #[], rfl, Nat.zero_le _, hb, Nat.le_refl _, Nat.zero_le _, by simp, by simp⟩⟩, ⟨rfl, rfl, rfl, Nat.le_refl _, fun _ _ _ => rfl⟩, .inl rfl⟩
  · have hr := run_append_grow_src (P := P) w t tx ty e i z ht hi hz (some ⟨b, 0, none⟩) 0 0 [] (run_firstCells_some w.drew i.size 0 ⟨b, 0, none⟩ 0 0 [] (by simp) (fun j u hu => by simp at hu)) x m news hs (by omega) (by unfold maxLen at h63; omega) (growslice_fits (by omega) (by rw [Nat.zero_add]; exact hbytes))
    simp only [Nat.zero_add, List.nil_append] at hr
    refine ⟨w.heap.size, _, _, hr, ⟨hs.newsLen, .inr ⟨w.heap.size, _, _, rfl, Nat.zero_le _, heap_alloc_new w.drew _, grownCap_ge w m 0 e, grownCap_le_maxLen w m 0 e h63, ?_, ?_⟩⟩, ⟨rfl, rfl, rfl, by simp, fun k hk _ => heap_alloc_old w.drew _ hk⟩, .inr rfl⟩
    · have hge := grownCap_ge w m 0 e
      simp only [Array.size_append, List.size_toArray, size_zeroCells, hzs, hs.newsLen, ← Nat.add_mul]
      congr 1
      omega
    · simp only [Array.toList_append]
      rw [← hs.newsLen]
      exact List.take_left
theorem wp_append_src0 {P : Program} {w : World} {o : Oper} {a : Act} {K : Act → World → Prop} {Q : Exit → Act → World → Prop} (s x : Operand) (t tx : TypeId)
    (ho : o.op = .call { callee := .builtin .append, args := #[s, x], argTypes := #[t, tx] })
    (e : TypeId) (i : TypeInfo) (z : Value) (size bytes : Nat) (ht : P.underlying t = some (.slice e)) (hi : P.info? e = some i) (hz : i.zero = some z)
    (hsize : i.size = size) (hby : i.bytes = bytes) (hzs : z.cells.size = size) (b : Nat) (hs : a.eval s = .slice (some ⟨b, 0, none⟩) 0 0) (hb : w.heap[b]? = some (.cells #[] e (0, 0)))
    (vx : Value) (m : Nat) (news : List Value) (hx : a.eval x = vx) (hsrc : Src P size tx vx m news w) (h63 : m ≤ maxLen) (hbytes : m * bytes ≤ 140737488355328)
    (h : ∀ g cap w', w'.ownsRow 0 e size (.slice (some ⟨g, 0, none⟩) m cap) m news → w.grownBy w' none → (g = b ∨ g = w.heap.size) → K (a.put o.dst (.slice (some ⟨g, 0, none⟩) m cap)) w') : o.wp P a w K Q := by
  obtain ⟨g, cap, w', hr, h2, h3, h4⟩ := run_append_src0 P w t tx o.type e i z size bytes ht hi hz hsize hby hzs b hb vx m news hsrc h63 hbytes
  unfold Oper.wp execOp
  simp only [ho, resolve, invoke, builtin, Sem.run_bind, Sem.run_pure, Result.andThen_ok, List.map_toArray, List.map_cons, List.map_nil, hs, hx, hr]
  exact h g cap w' h2 h3 h4
theorem wpList_append_src0 {P : Program} {w : World} {ops : Array Oper} {rest : List Oper} {o : Oper} {a : Act} {Q : Exit → Act → World → Prop} (hgd : o.guard = none) (s x : Operand) (t tx : TypeId)
    (ho : o.op = .call { callee := .builtin .append, args := #[s, x], argTypes := #[t, tx] })
    (e : TypeId) (i : TypeInfo) (z : Value) (size bytes : Nat) (ht : P.underlying t = some (.slice e)) (hi : P.info? e = some i) (hz : i.zero = some z)
    (hsize : i.size = size) (hby : i.bytes = bytes) (hzs : z.cells.size = size) (b : Nat) (hs : a.eval s = .slice (some ⟨b, 0, none⟩) 0 0) (hb : w.heap[b]? = some (.cells #[] e (0, 0)))
    (vx : Value) (m : Nat) (news : List Value) (hx : a.eval x = vx) (hsrc : Src P size tx vx m news w) (h63 : m ≤ maxLen) (hbytes : m * bytes ≤ 140737488355328)
    (h : ∀ g cap w', w'.ownsRow 0 e size (.slice (some ⟨g, 0, none⟩) m cap) m news → w.grownBy w' none → (g = b ∨ g = w.heap.size) → wpList P ops Q rest (a.put o.dst (.slice (some ⟨g, 0, none⟩) m cap)) w') : wpList P ops Q (o :: rest) a w :=
  wpList_plain hgd fun _ hK => wp_append_src0 s x t tx ho e i z size bytes ht hi hz hsize hby hzs b hs hb vx m news hx hsrc h63 hbytes fun g cap w' h2 h3 h4 => hK _ _ (h g cap w' h2 h3 h4)
end Go.Px
namespace Go.Proofs.YtahojodgmjmpnaaDoor
open Go.RowKit Go.Px

set_option maxRecDepth 100000 in
set_option maxHeartbeats 2000000 in
theorem copied_any (v : Value) (l : List Val) (w : World) (h : Lies w 3 cVal v l) (hl : l.length * 32 ≤ 140737488351232) :
    Calls Tryd.prog 14 #[v] w fun e w' => ∃ vo, e = .returned vo ∧ Owns w' 58 3 cVal vo l ∧ Same w w' := by
  have hsrc : ∀ W, Same w W → Src Tryd.prog 3 25 v l.length (l.flatMap cVal) W := fun W hW => (lies_same h hW).src cVal_len (by omega) Tryd.underlying25 (val_one l)
  have H := Px.hid hsrc
  clear h hsrc
  obtain ⟨i0, hi0, hz0, hz1, hz2⟩ := info_parts Tryd.infoVal
  go_enter Tryd.func14, Tryd.ntmps14
  go_wp2_with (at_builtin; go_must (refine wpList_append_src0 rfl _ _ 25 25 rfl 58 i0 _ 3 32 Tryd.underlying25 hi0 hz0 hz1 hz2 rfl w.heap.size rfl (heap_alloc_new w _) v l.length (l.flatMap cVal) rfl (H.out _ ((Same.refl w).alloc _)) (by unfold maxLen; omega) (by omega) ?_))
  intro g cap w' hown hgrow hat
  go_wp2
  go_ret
  exact ⟨_, rfl, hown, Fr.grown ((Same.refl w).alloc _) hgrow (fun k e => by cases e)⟩
/-- What a list as an argument gives. -/
structure ValsAt (w : World) (v : Value) (l : List Val) : Prop where
  lies : Lies w 3 cVal v l
  wf : ∀ a ∈ l, (-9223372036854775808 ≤ a.kind ∧ a.kind ≤ 9223372036854775807) ∧ (-9223372036854775808 ≤ a.kids ∧ a.kids ≤ 9223372036854775807)
end Go.Proofs.YtahojodgmjmpnaaDoor
