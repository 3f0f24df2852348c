/-
  Several texts in one: The walks over the statements JsonNormal, JsonBack.
-/
import Derived.Test.YtahojodgmjmpnaaDoorVP
import Derived.Test.YtahojodgmjmpnaaDoorVL
/-! The walks over the statements JsonNormal, JsonBack. -/
namespace Go.Px
open Go.RowKit
theorem flat_get {α : Type} {c : α → List Value} {sz : Nat} (hc : ∀ a, (c a).length = sz) (hs : 0 < sz) : ∀ (l : List α) (j : Nat) (u : Value), (l.flatMap c)[j]? = some u → ∃ x, l[j / sz]? = some x ∧ (c x)[j % sz]? = some u
  | [], j, u, h => by simp at h
  | a :: t, j, u, h => by
    rw [List.flatMap_cons] at h
    by_cases hj : j < sz
    · rw [List.getElem?_append_left (by rw [hc]; exact hj)] at h
      exact ⟨a, by rw [Nat.div_eq_of_lt hj]; rfl, by rw [Nat.mod_eq_of_lt hj]; exact h⟩
    · rw [List.getElem?_append_right (by rw [hc]; omega), hc] at h
      obtain ⟨x, h1, h2⟩ := flat_get hc hs t (j - sz) u h
      have e : j = (j - sz) + sz := by omega
      have e1 : j / sz = (j - sz) / sz + 1 := by
        conv => lhs; rw [e]
        exact Nat.add_div_right _ hs
      have e2 : j % sz = (j - sz) % sz := by
        conv => lhs; rw [e]
        exact Nat.add_mod_right _ _
      exact ⟨x, by rw [e1]; exact h1, by rw [e2]; exact h2⟩
/-- What lies somewhere, as what an append takes. -/
theorem Lies.src {α : Type} {P : Program} {w : World} {sz : Nat} {c : α → List Value} {v : Value} {l : List α} {tx e' : TypeId} (h : Lies w sz c v l) (hc : ∀ a, (c a).length = sz) (hs : 0 < sz) (hk : P.underlying tx = some (.slice e')) (h1 : ∀ u ∈ l.flatMap c, u.oneCell' = true) :
    Src P sz tx v l.length (l.flatMap c) w := by
  obtain ⟨a, cap, hv, _, _⟩ := h.slice
  cases l with
  | nil =>
    subst hv
    cases a with
    | none => exact Src.ofNil w hk cap
    | some ad => exact Src.ofSlice w hk ad 0 cap [] (by simp) (fun j u hu => by simp at hu) (fun u hu => by cases hu)
  | cons x t =>
    obtain ⟨b, off, cap2, hv2, _, _⟩ := h.cell 0 x rfl
    rw [hv2]
    refine Src.ofSlice w hk ⟨b, off, none⟩ _ _ _ (flat_len hc _) (fun j u hu => ?_) h1
    obtain ⟨y, h2, h3⟩ := flat_get hc hs _ j u hu
    obtain ⟨b', off', cap3, hv3, _, hcell⟩ := h.cell _ y h2
    rw [hv2] at hv3
    simp only [Value.slice.injEq, Option.some.injEq, Addr.mk.injEq, and_true, true_and] at hv3
    obtain ⟨⟨rfl, rfl⟩, _⟩ := hv3
    have := hcell _ u h3
    have e : j / sz * sz + j % sz = j := by rw [Nat.mul_comm]; exact Nat.div_add_mod j sz
    rw [e] at this
    have hadd : (⟨b, off, none⟩ : Addr).add j = ⟨b, off + j, none⟩ := by unfold Addr.add; split <;> simp_all
    rw [hadd]
    exact this
/-- An append onto an empty slice of the call's own. -/
theorem run_append_src0 (P : Program) (w : World) (t tx ty : TypeId) (e : TypeId) (i : TypeInfo) (z : Value) (size bytes : Nat) (ht : P.underlying t = some (.slice e)) (hi : P.info? e = some i) (hz : i.zero = some z)
    (hsize : i.size = size) (hby : i.bytes = bytes) (hzs : z.cells.size = size) (b : Nat) (hb : w.heap[b]? = some (.cells #[] e (0, 0)))
    (x : Value) (m : Nat) (news : List Value) (hs : Src P size tx x m news w) (h63 : m ≤ maxLen) (hbytes : m * bytes ≤ 140737488355328) :
    ∃ g cap w', (Builtin.append_ #[t, tx] ty #[.slice (some ⟨b, 0, none⟩) 0 0, x]).run P w = .ok (.slice (some ⟨g, 0, none⟩) m cap) w' ∧
      w'.ownsRow 0 e size (.slice (some ⟨g, 0, none⟩) m cap) m news ∧ w.grownBy w' none ∧ (g = b ∨ g = w.heap.size) := by
  subst hsize
  subst hby
  by_cases hm : m = 0
  · subst hm
    have hnl : news = [] := List.eq_nil_of_length_eq_zero (by rw [hs.newsLen]; simp)
    subst hnl
    have hr := run_append_room_src (P := P) w t tx ty e i ht hi b 0 0 0 x 0 [] hs (Nat.le_refl _) (fun j hj => absurd hj (Nat.not_lt_zero j)) (fun j hj => absurd hj (Nat.not_lt_zero j))
    exact ⟨b, 0, w, hr, ⟨by simp, .inr ⟨b, 0, #[], rfl, Nat.zero_le _, hb, Nat.le_refl _, Nat.zero_le _, by simp, by simp⟩⟩, ⟨rfl, rfl, rfl, Nat.le_refl _, fun _ _ _ => rfl⟩, .inl rfl⟩
  · have hr := run_append_grow_src (P := P) w t tx ty e i z ht hi hz (some ⟨b, 0, none⟩) 0 0 [] (run_firstCells_some w.drew i.size 0 ⟨b, 0, none⟩ 0 0 [] (by simp) (fun j u hu => by simp at hu)) x m news hs (by omega) (by unfold maxLen at h63; omega) (growslice_fits (by omega) (by rw [Nat.zero_add]; exact hbytes))
    simp only [Nat.zero_add, List.nil_append] at hr
    refine ⟨w.heap.size, _, _, hr, ⟨hs.newsLen, .inr ⟨w.heap.size, _, _, rfl, Nat.zero_le _, heap_alloc_new w.drew _, grownCap_ge w m 0 e, grownCap_le_maxLen w m 0 e h63, ?_, ?_⟩⟩, ⟨rfl, rfl, rfl, by simp, fun k hk _ => heap_alloc_old w.drew _ hk⟩, .inr rfl⟩
    · have hge := grownCap_ge w m 0 e
      simp only [Array.size_append, List.size_toArray, size_zeroCells, hzs, hs.newsLen, ← Nat.add_mul]
      congr 1
      omega
    · simp only [Array.toList_append]
      rw [← hs.newsLen]
      exact List.take_left
theorem wp_append_src0 {P : Program} {w : World} {o : Oper} {a : Act} {K : Act → World → Prop} {Q : Exit → Act → World → Prop} (s x : Operand) (t tx : TypeId)
    (ho : o.op = .call { callee := .builtin .append, args := #[s, x], argTypes := #[t, tx] })
    (e : TypeId) (i : TypeInfo) (z : Value) (size bytes : Nat) (ht : P.underlying t = some (.slice e)) (hi : P.info? e = some i) (hz : i.zero = some z)
    (hsize : i.size = size) (hby : i.bytes = bytes) (hzs : z.cells.size = size) (b : Nat) (hs : a.eval s = .slice (some ⟨b, 0, none⟩) 0 0) (hb : w.heap[b]? = some (.cells #[] e (0, 0)))
    (vx : Value) (m : Nat) (news : List Value) (hx : a.eval x = vx) (hsrc : Src P size tx vx m news w) (h63 : m ≤ maxLen) (hbytes : m * bytes ≤ 140737488355328)
    (h : ∀ g cap w', w'.ownsRow 0 e size (.slice (some ⟨g, 0, none⟩) m cap) m news → w.grownBy w' none → (g = b ∨ g = w.heap.size) → K (a.put o.dst (.slice (some ⟨g, 0, none⟩) m cap)) w') : o.wp P a w K Q := by
  obtain ⟨g, cap, w', hr, h2, h3, h4⟩ := run_append_src0 P w t tx o.type e i z size bytes ht hi hz hsize hby hzs b hb vx m news hsrc h63 hbytes
  unfold Oper.wp execOp
  simp only [ho, resolve, invoke, builtin, Sem.run_bind, Sem.run_pure, Result.andThen_ok, List.map_toArray, List.map_cons, List.map_nil, hs, hx, hr]
  exact h g cap w' h2 h3 h4
theorem wpList_append_src0 {P : Program} {w : World} {ops : Array Oper} {rest : List Oper} {o : Oper} {a : Act} {Q : Exit → Act → World → Prop} (hgd : o.guard = none) (s x : Operand) (t tx : TypeId)
    (ho : o.op = .call { callee := .builtin .append, args := #[s, x], argTypes := #[t, tx] })
    (e : TypeId) (i : TypeInfo) (z : Value) (size bytes : Nat) (ht : P.underlying t = some (.slice e)) (hi : P.info? e = some i) (hz : i.zero = some z)
    (hsize : i.size = size) (hby : i.bytes = bytes) (hzs : z.cells.size = size) (b : Nat) (hs : a.eval s = .slice (some ⟨b, 0, none⟩) 0 0) (hb : w.heap[b]? = some (.cells #[] e (0, 0)))
    (vx : Value) (m : Nat) (news : List Value) (hx : a.eval x = vx) (hsrc : Src P size tx vx m news w) (h63 : m ≤ maxLen) (hbytes : m * bytes ≤ 140737488355328)
    (h : ∀ g cap w', w'.ownsRow 0 e size (.slice (some ⟨g, 0, none⟩) m cap) m news → w.grownBy w' none → (g = b ∨ g = w.heap.size) → wpList P ops Q rest (a.put o.dst (.slice (some ⟨g, 0, none⟩) m cap)) w') : wpList P ops Q (o :: rest) a w :=
  wpList_plain hgd fun _ hK => wp_append_src0 s x t tx ho e i z size bytes ht hi hz hsize hby hzs b hs hb vx m news hx hsrc h63 hbytes fun g cap w' h2 h3 h4 => hK _ _ (h g cap w' h2 h3 h4)
end Go.Px
namespace Go.Proofs.YtahojodgmjmpnaaDoor
open Go.RowKit Go.Px

theorem decode_fair {s : Bytes} {lim : Lim} (h : (R6.decode s lim).2.2 = 0) : ∀ a ∈ (R6.decode s lim).1, Fair a := by
  cases hm : lim.may with
  | false => rw [dec_no hm] at h; cases h
  | true =>
    obtain ⟨d1, d2, d3, hd⟩ : ∃ d1 d2 d3, R6.decode s lim = (d1, d2, d3) := ⟨_, _, _, rfl⟩
    rw [hd] at h ⊢
    simp only at h
    subst h
    intro a ha
    obtain ⟨b1, b2, b3, b4, b5⟩ := E6.decode_small hm hd a ha
    exact ⟨⟨by omega, by omega⟩, ⟨by omega, by omega⟩, by omega⟩
theorem decode_nil {s : Bytes} {lim : Lim} (h : ¬ (R6.decode s lim).2.2 = 0) : (R6.decode s lim).1 = [] := by
  cases hm : lim.may with
  | false => rw [dec_no hm]
  | true =>
    obtain ⟨m, r, _, e⟩ := D6.run_ref s lim hm
    rw [e] at h ⊢
    cases r with
    | error e => rfl
    | ok l => exact absurd rfl h
theorem decode_zero {s : Bytes} {lim : Lim} (h : (R6.decode s lim).2.2 = 0) : lim.may = true ∧ R6.decode s lim = ((R6.decode s lim).1, 0, 0) := by
  cases hm : lim.may with
  | false => rw [dec_no hm] at h; cases h
  | true =>
    obtain ⟨d1, d2, d3, hd⟩ : ∃ d1 d2 d3, R6.decode s lim = (d1, d2, d3) := ⟨_, _, _, rfl⟩
    rw [hd] at h
    simp only at h
    subst h
    have := D6.decode_zero hm hd
    subst this
    rw [hd]
    exact ⟨rfl, rfl⟩
set_option maxRecDepth 100000 in
set_option maxHeartbeats 2000000 in
theorem law_JsonNormal (s : Bytes) (lim : Lim) (w : World) (hs0 : s.length ≤ 140737488351232) (hT : Tabs w) :
    Calls Tryd.prog 6 #[S s, limV lim] w fun e w' => e = .returned (.bool true) ∧ Below w.heap.size w w' := by
  have hs : s.length ≤ 140737488355327 := by omega
  clear hs0
  have HS := Px.hid (And.intro hs True.intro)
  have HO := Px.hid (On.boxed lim hT)
  clear hs hT
  unfold limV
  go_enter Tryd.func6, Tryd.ntmps6
  go_wp2_with fail
  refine (wakes16_any _ HO.out.tabs).mono ?_
  rintro e w1 ⟨rfl, hs⟩
  have HO := Px.hid (HO.out.sm hs)
  clear hs
  obtain ⟨c0, c1, c2, c3⟩ := HO.out.lim.cells
  go_wp2_with fail
  refine (jdecode_any s lim (by have := HS.out.1; omega) _).mono ?_
  intro e w2 hg
  obtain ⟨a, c, rfl, ho, hs⟩ := hg.len
  have HO := Px.hid (HO.out.sm hs)
  have HA := Px.hid ho
  clear hs hg ho c0 c1 c2 c3
  obtain ⟨c0, c1, c2, c3⟩ := HO.out.lim.cells
  have hsz : (ByteArray.mk s.toArray).size = s.length := size_S s
  have hsl := HS.out.1
  by_cases he : (R6.decode s lim).2.2 = 0
  · obtain ⟨hm, hz⟩ := decode_zero he
    have HW := Px.hid (decode_fair he)
    have hnorm := E6.normal hm hz
    obtain ⟨D, hD⟩ : ∃ D, D = (R6.decode s lim).1 := ⟨_, rfl⟩
    rw [← hD] at HA HW hz hnorm
    have HR := Px.hid hz
    rw [hz]
    clear he hm hz hD
    rcases hnorm with ⟨hn1, hn2⟩ | ⟨t, hn1, hn2⟩
    · have HN := Px.hid hn1
      have zz : (43690 : Int) < (s.length : Int) := by omega
      clear hn1 hn2
      go_wp2_with fail
      refine (eencode_any _ D _ (HA.out.lies cVal_len) HW.out HO.out.tabs).mono ?_
      rintro e w3 ⟨rfl, hs⟩
      rw [HN.out]
      have HO := Px.hid (HO.out.sm hs)
      clear hs
      go_wp2
      go_ret
      exact ⟨rfl, HO.out.lim.1.below⟩
    · have hlen : t.length ≤ 9223372036854775807 := by
        have := D6.decode_bytes most_may (show R6.decode t most = (D, 0, 0) from hn2)
        have e : most.b = 262144 := rfl
        omega
      have HN := Px.hid (And.intro hn1 (And.intro (show R6.decode t most = (D, 0, 0) from hn2) hlen))
      clear hn1 hn2 hlen
      go_wp2_with fail
      refine (eencode_any _ D _ (HA.out.lies cVal_len) HW.out HO.out.tabs).mono ?_
      rintro e w3 ⟨rfl, hs⟩
      rw [HN.out.1]
      have HO := Px.hid (HO.out.sm hs)
      have HA := Px.hid (Owns.same HA.out hs)
      clear hs
      go_wp2_with fail
      refine (most_any _).mono ?_
      rintro e w4 ⟨rfl, hs⟩
      have HO := Px.hid (HO.out.sm hs)
      have HA := Px.hid (Owns.same HA.out hs)
      clear hs
      go_wp2_with fail
      refine (jdecode_any t most HN.out.2.2 _).mono ?_
      intro e w5 hg
      obtain ⟨a2, c2, rfl, ho, hs⟩ := hg.len
      rw [HN.out.2.1] at ho ⊢
      have HO := Px.hid (HO.out.sm hs)
      have HA := Px.hid (And.intro (Owns.same HA.out hs) ho)
      clear hg ho hs
      go_wp2_with fail
      refine (eencode_any _ D _ (HA.out.2.lies cVal_len) HW.out HO.out.tabs).mono ?_
      rintro e w6 ⟨rfl, hs⟩
      rw [HN.out.1]
      have HO := Px.hid (HO.out.sm hs)
      have HA := Px.hid (And.intro (Owns.same HA.out.1 hs) (Owns.same HA.out.2 hs))
      clear hs
      go_wp2_with fail
      refine (same_lies _ _ _ D (HA.out.1.lies cVal_len) (HA.out.2.lies cVal_len)).mono ?_
      rintro e w7 ⟨rfl, hs⟩
      have HO := Px.hid (HO.out.sm hs)
      clear hs
      go_wp2
      go_ret
      exact ⟨rfl, HO.out.lim.1.below⟩
  · have hnl := decode_nil he
    rw [hnl]
    have hb : ((R6.decode s lim).2.2 != 0) = true := by simpa using he
    clear he hnl HA
    obtain ⟨d, hd⟩ : ∃ d, d = R6.decode s lim := ⟨_, rfl⟩
    rw [← hd] at hb ⊢
    clear hd
    go_wp2
    go_ret
    exact ⟨rfl, HO.out.lim.1.below⟩
set_option maxRecDepth 100000 in
set_option maxHeartbeats 2000000 in
theorem copied_any (v : Value) (l : List Val) (w : World) (h : Lies w 3 cVal v l) (hl : l.length * 32 ≤ 140737488351232) :
    Calls Tryd.prog 14 #[v] w fun e w' => ∃ vo, e = .returned vo ∧ Owns w' 58 3 cVal vo l ∧ Same w w' := by
  have hsrc : ∀ W, Same w W → Src Tryd.prog 3 25 v l.length (l.flatMap cVal) W := fun W hW => (lies_same h hW).src cVal_len (by omega) Tryd.underlying25 (val_one l)
  have H := Px.hid hsrc
  clear h hsrc
  obtain ⟨i0, hi0, hz0, hz1, hz2⟩ := info_parts Tryd.infoVal
  go_enter Tryd.func14, Tryd.ntmps14
  go_wp2_with (at_builtin; go_must (refine wpList_append_src0 rfl _ _ 25 25 rfl 58 i0 _ 3 32 Tryd.underlying25 hi0 hz0 hz1 hz2 rfl w.heap.size rfl (heap_alloc_new w _) v l.length (l.flatMap cVal) rfl (H.out _ ((Same.refl w).alloc _)) (by unfold maxLen; omega) (by omega) ?_))
  intro g cap w' hown hgrow hat
  go_wp2
  go_ret
  exact ⟨_, rfl, hown, Fr.grown ((Same.refl w).alloc _) hgrow (fun k e => by cases e)⟩
/-- What a list as an argument gives. -/
structure ValsAt (w : World) (v : Value) (l : List Val) : Prop where
  lies : Lies w 3 cVal v l
  wf : ∀ a ∈ l, (-9223372036854775808 ≤ a.kind ∧ a.kind ≤ 9223372036854775807) ∧ (-9223372036854775808 ≤ a.kids ∧ a.kids ≤ 9223372036854775807)
theorem encode_fail {l : List Val} {s : Bytes} {c : Int} (h : E6.encode l = (s, c)) (hc : ¬ c = 0) : s = [] := by
  unfold E6.encode at h
  split at h
  · cases h; rfl
  · split at h
    split at h
    · cases h; rfl
    · split at h
      · cases h; rfl
      · split at h
        · cases h; rfl
        · cases h; exact absurd rfl hc
set_option maxRecDepth 100000 in
set_option maxHeartbeats 2000000 in
theorem law_JsonBack {v : Value} (l : List Val) (w : World) (h : ValsAt w v l) (hl : l.length * 32 ≤ 140737488351232 ∧ ∀ a ∈ l, a.text.length ≤ 140737488351232) (hT : Tabs w) :
    Calls Tryd.prog 5 #[v] w fun e w' => e = .returned (.bool true) ∧ Below w.heap.size w w' := by
  have hw : ∀ a ∈ l, Fair a := fun a ha => ⟨(h.wf a ha).1, (h.wf a ha).2, by have := hl.2 a ha; omega⟩
  have H := Px.hid (And.intro h.lies (And.intro hl.1 (And.intro hT hw)))
  clear h hl hT hw
  go_enter Tryd.func5, Tryd.ntmps5
  go_wp2_with fail
  refine (wakes16_any _ H.out.2.2.1).mono ?_
  rintro e w1 ⟨rfl, hs⟩
  have HS := Px.hid hs
  clear hs
  go_wp2_with fail
  refine (copied_any v l _ (lies_same H.out.1 HS.out) H.out.2.1).mono ?_
  rintro e w2 ⟨vo, rfl, ho, hs⟩
  have HO := Px.hid ho
  have HS := Px.hid (HS.out.trans hs)
  clear ho hs
  go_wp2_with fail
  refine (eencode_any vo l _ (HO.out.lies cVal_len) H.out.2.2.2 (H.out.2.2.1.same HS.out)).mono ?_
  rintro e w3 ⟨rfl, hs⟩
  have HS := Px.hid (HS.out.trans hs)
  clear hs
  obtain ⟨s, c, hd⟩ : ∃ s c, E6.encode l = (s, c) := ⟨_, _, rfl⟩
  rw [hd]
  by_cases he : c = 0
  · subst he
    have hb := E6.back (lim := most) hd rfl
    have hlen : s.length ≤ 9223372036854775807 := by
      have := D6.decode_bytes most_may hb
      have e : most.b = 262144 := rfl
      omega
    have HB := Px.hid (And.intro hb hlen)
    clear hb hlen hd
    go_wp2_with fail
    refine (most_any _).mono ?_
    rintro e w4 ⟨rfl, hs⟩
    have HS := Px.hid (HS.out.trans hs)
    clear hs
    go_wp2_with fail
    refine (jdecode_any s most HB.out.2 _).mono ?_
    intro e w5 hg
    obtain ⟨a, c, rfl, ho, hs⟩ := hg.len
    rw [HB.out.1] at ho ⊢
    have HO := Px.hid ho
    have HS := Px.hid (HS.out.trans hs)
    clear hg ho hs
    go_wp2_with fail
    refine (same_lies _ _ _ l (lies_same H.out.1 HS.out) (HO.out.lies cVal_len)).mono ?_
    rintro e w6 ⟨rfl, hs⟩
    have HS := Px.hid (HS.out.trans hs)
    clear hs
    go_wp2
    go_ret
    exact ⟨rfl, HS.out.below⟩
  · have hnl : s = [] := encode_fail hd he
    have hb : (c != 0) = true := bne_iff_ne.2 he
    clear he hd
    subst hnl
    go_wp2
    go_ret
    exact ⟨rfl, HS.out.below⟩
end Go.Proofs.YtahojodgmjmpnaaDoor
