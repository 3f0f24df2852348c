/-
  Several texts in one: What the walk over the program's der.Encode rests on: bytes that grow, appends of strings, the bytes told so far; the walk over ordered.
-/
import Derived.Test.YtpfhollohodcjaaGreatDoorXS
/-! What the walk over the program's der.Encode rests on: bytes that grow, appends of strings, the bytes told so far; the walk over ordered. -/
namespace Go.Px
open Go.RowKit
theorem flat_get {α : Type} {c : α → List Value} {sz : Nat} (hc : ∀ a, (c a).length = sz) (hs : 0 < sz) : ∀ (l : List α) (j : Nat) (u : Value), (l.flatMap c)[j]? = some u → ∃ x, l[j / sz]? = some x ∧ (c x)[j % sz]? = some u
  | [], j, u, h => by simp at h
  | a :: t, j, u, h => by
    rw [List.flatMap_cons] at h
    by_cases hj : j < sz
    · rw [List.getElem?_append_left (by rw [hc]; exact hj)] at h
      exact ⟨a, by rw [Nat.div_eq_of_lt hj]; rfl, by rw [Nat.mod_eq_of_lt hj]; exact h⟩
    · rw [List.getElem?_append_right (by rw [hc]; omega), hc] at h
      obtain ⟨x, h1, h2⟩ := flat_get hc hs t (j - sz) u h
      have e : j = (j - sz) + sz := by omega
      have e1 : j / sz = (j - sz) / sz + 1 := by
        conv => lhs; rw [e]
        exact Nat.add_div_right _ hs
      have e2 : j % sz = (j - sz) % sz := by
        conv => lhs; rw [e]
        exact Nat.add_mod_right _ _
      exact ⟨x, by rw [e1]; exact h1, by rw [e2]; exact h2⟩
/-- What lies somewhere, as what an append takes. -/
theorem Lies.src {α : Type} {P : Program} {w : World} {sz : Nat} {c : α → List Value} {v : Value} {l : List α} {tx e' : TypeId} (h : Lies w sz c v l) (hc : ∀ a, (c a).length = sz) (hs : 0 < sz) (hk : P.underlying tx = some (.slice e')) (h1 : ∀ u ∈ l.flatMap c, u.oneCell' = true) :
    Src P sz tx v l.length (l.flatMap c) w := by
  obtain ⟨a, cap, hv, _, _⟩ := h.slice
  cases l with
  | nil =>
    subst hv
    cases a with
    | none => exact Src.ofNil w hk cap
    | some ad => exact Src.ofSlice w hk ad 0 cap [] (by simp) (fun j u hu => by simp at hu) (fun u hu => by cases hu)
  | cons x t =>
    obtain ⟨b, off, cap2, hv2, _, _⟩ := h.cell 0 x rfl
    rw [hv2]
    refine Src.ofSlice w hk ⟨b, off, none⟩ _ _ _ (flat_len hc _) (fun j u hu => ?_) h1
    obtain ⟨y, h2, h3⟩ := flat_get hc hs _ j u hu
    obtain ⟨b', off', cap3, hv3, _, hcell⟩ := h.cell _ y h2
    rw [hv2] at hv3
    simp only [Value.slice.injEq, Option.some.injEq, Addr.mk.injEq, and_true, true_and] at hv3
    obtain ⟨⟨rfl, rfl⟩, _⟩ := hv3
    have := hcell _ u h3
    have e : j / sz * sz + j % sz = j := by rw [Nat.mul_comm]; exact Nat.div_add_mod j sz
    rw [e] at this
    have hadd : (⟨b, off, none⟩ : Addr).add j = ⟨b, off + j, none⟩ := by unfold Addr.add; split <;> simp_all
    rw [hadd]
    exact this
/-- An append onto an empty slice of the call's own. -/
theorem run_append_src0 (P : Program) (w : World) (t tx ty : TypeId) (e : TypeId) (i : TypeInfo) (z : Value) (size bytes : Nat) (ht : P.underlying t = some (.slice e)) (hi : P.info? e = some i) (hz : i.zero = some z)
    (hsize : i.size = size) (hby : i.bytes = bytes) (hzs : z.cells.size = size) (b : Nat) (hb : w.heap[b]? = some (.cells #[] e (0, 0)))
    (x : Value) (m : Nat) (news : List Value) (hs : Src P size tx x m news w) (h63 : m ≤ maxLen) (hbytes : m * bytes ≤ 140737488355328) :
    ∃ g cap w', (Builtin.append_ #[t, tx] ty #[.slice (some ⟨b, 0, none⟩) 0 0, x]).run P w = .ok (.slice (some ⟨g, 0, none⟩) m cap) w' ∧
      w'.ownsRow 0 e size (.slice (some ⟨g, 0, none⟩) m cap) m news ∧ w.grownBy w' none ∧ (g = b ∨ g = w.heap.size) := by
  subst hsize
  subst hby
  by_cases hm : m = 0
  · subst hm
    have hnl : news = [] := List.eq_nil_of_length_eq_zero (by rw [hs.newsLen]; simp)
    subst hnl
    have hr := run_append_room_src (P := P) w t tx ty e i ht hi b 0 0 0 x 0 [] hs (Nat.le_refl _) (fun j hj => absurd hj (Nat.not_lt_zero j)) (fun j hj => absurd hj (Nat.not_lt_zero j))
    exact ⟨b, 0, w, hr, ⟨by simp, .inr ⟨b, 0, #[], rfl, Nat.zero_le _, hb, Nat.le_refl _, Nat.zero_le _, by simp, by simp⟩⟩, ⟨rfl, rfl, rfl, Nat.le_refl _, fun _ _ _ => rfl⟩, .inl rfl⟩
  · have hr := run_append_grow_src (P := P) w t tx ty e i z ht hi hz (some ⟨b, 0, none⟩) 0 0 [] (run_firstCells_some w.drew i.size 0 ⟨b, 0, none⟩ 0 0 [] (by simp) (fun j u hu => by simp at hu)) x m news hs (by omega) (by unfold maxLen at h63; omega) (growslice_fits (by omega) (by rw [Nat.zero_add]; exact hbytes))
    simp only [Nat.zero_add, List.nil_append] at hr
    refine ⟨w.heap.size, _, _, hr, ⟨hs.newsLen, .inr ⟨w.heap.size, _, _, rfl, Nat.zero_le _, heap_alloc_new w.drew _, grownCap_ge w m 0 e, grownCap_le_maxLen w m 0 e h63, ?_, ?_⟩⟩, ⟨rfl, rfl, rfl, by simp, fun k hk _ => heap_alloc_old w.drew _ hk⟩, .inr rfl⟩
    · have hge := grownCap_ge w m 0 e
      simp only [Array.size_append, List.size_toArray, size_zeroCells, hzs, hs.newsLen, ← Nat.add_mul]
      congr 1
      omega
    · simp only [Array.toList_append]
      rw [← hs.newsLen]
      exact List.take_left
theorem wp_append_src0 {P : Program} {w : World} {o : Oper} {a : Act} {K : Act → World → Prop} {Q : Exit → Act → World → Prop} (s x : Operand) (t tx : TypeId)
    (ho : o.op = .call { callee := .builtin .append, args := #[s, x], argTypes := #[t, tx] })
    (e : TypeId) (i : TypeInfo) (z : Value) (size bytes : Nat) (ht : P.underlying t = some (.slice e)) (hi : P.info? e = some i) (hz : i.zero = some z)
    (hsize : i.size = size) (hby : i.bytes = bytes) (hzs : z.cells.size = size) (b : Nat) (hs : a.eval s = .slice (some ⟨b, 0, none⟩) 0 0) (hb : w.heap[b]? = some (.cells #[] e (0, 0)))
    (vx : Value) (m : Nat) (news : List Value) (hx : a.eval x = vx) (hsrc : Src P size tx vx m news w) (h63 : m ≤ maxLen) (hbytes : m * bytes ≤ 140737488355328)
    (h : ∀ g cap w', w'.ownsRow 0 e size (.slice (some ⟨g, 0, none⟩) m cap) m news → w.grownBy w' none → (g = b ∨ g = w.heap.size) → K (a.put o.dst (.slice (some ⟨g, 0, none⟩) m cap)) w') : o.wp P a w K Q := by
  obtain ⟨g, cap, w', hr, h2, h3, h4⟩ := run_append_src0 P w t tx o.type e i z size bytes ht hi hz hsize hby hzs b hb vx m news hsrc h63 hbytes
  unfold Oper.wp execOp
  simp only [ho, resolve, invoke, builtin, Sem.run_bind, Sem.run_pure, Result.andThen_ok, List.map_toArray, List.map_cons, List.map_nil, hs, hx, hr]
  exact h g cap w' h2 h3 h4
theorem wpList_append_src0 {P : Program} {w : World} {ops : Array Oper} {rest : List Oper} {o : Oper} {a : Act} {Q : Exit → Act → World → Prop} (hgd : o.guard = none) (s x : Operand) (t tx : TypeId)
    (ho : o.op = .call { callee := .builtin .append, args := #[s, x], argTypes := #[t, tx] })
    (e : TypeId) (i : TypeInfo) (z : Value) (size bytes : Nat) (ht : P.underlying t = some (.slice e)) (hi : P.info? e = some i) (hz : i.zero = some z)
    (hsize : i.size = size) (hby : i.bytes = bytes) (hzs : z.cells.size = size) (b : Nat) (hs : a.eval s = .slice (some ⟨b, 0, none⟩) 0 0) (hb : w.heap[b]? = some (.cells #[] e (0, 0)))
    (vx : Value) (m : Nat) (news : List Value) (hx : a.eval x = vx) (hsrc : Src P size tx vx m news w) (h63 : m ≤ maxLen) (hbytes : m * bytes ≤ 140737488355328)
    (h : ∀ g cap w', w'.ownsRow 0 e size (.slice (some ⟨g, 0, none⟩) m cap) m news → w.grownBy w' none → (g = b ∨ g = w.heap.size) → wpList P ops Q rest (a.put o.dst (.slice (some ⟨g, 0, none⟩) m cap)) w') : wpList P ops Q (o :: rest) a w :=
  wpList_plain hgd fun _ hK => wp_append_src0 s x t tx ho e i z size bytes ht hi hz hsize hby hzs b hs hb vx m news hx hsrc h63 hbytes fun g cap w' h2 h3 h4 => hK _ _ (h g cap w' h2 h3 h4)
theorem wpList_append_src {P : Program} {w : World} {ops : Array Oper} {rest : List Oper} {o : Oper} {a : Act} {Q : Exit → Act → World → Prop} (hgd : o.guard = none) (s x : Operand) (t tx : TypeId)
    (ho : o.op = .call { callee := .builtin .append, args := #[s, x], argTypes := #[t, tx] })
    (e : TypeId) (i : TypeInfo) (z : Value) (size bytes : Nat) (ht : P.underlying t = some (.slice e)) (hi : P.info? e = some i) (hz : i.zero = some z)
    (hsize : i.size = size) (hby : i.bytes = bytes) (hzs : z.cells.size = size)
    (v : Value) (n : Nat) (xs : List Value) (hs : a.eval s = v) (hown : w.ownsRow 0 e size v n xs)
    (vx : Value) (m : Nat) (news : List Value) (hx : a.eval x = vx) (hsrc : Src P size tx vx m news w)
    (hn : 0 < n) (h63 : n + m ≤ maxLen) (hbytes : (n + m) * bytes ≤ 140737488355328)
    (h : ∀ g cap w', w'.ownsRow 0 e size (.slice (some ⟨g, 0, none⟩) (n + m) cap) (n + m) (xs ++ news) → w.grownBy w' v.ownBlock → (v.ownBlock = some g ∨ g = w.heap.size) → wpList P ops Q rest (a.put o.dst (.slice (some ⟨g, 0, none⟩) (n + m) cap)) w') : wpList P ops Q (o :: rest) a w :=
  wpList_plain hgd fun _ hK => wp_append_src s x t tx ho e i z size bytes ht hi hz hsize hby hzs v n xs hs hown vx m news hx hsrc hn h63 hbytes fun g cap w' h2 h3 h4 => hK _ _ (h g cap w' h2 h3 h4)
end Go.Px
namespace Go.Proofs.YtpfhollohodcjaaGreatDoor
open Go.RowKit Go.Px Go.Px.R5

theorem Tryz.sizeU8 (w : World) : (Go.sizeOf 5).run Tryz.prog w = .ok 1 w := by kernel_rfl
theorem Tryz.infoU8 : (Tryz.prog.info? 5).map (fun i => (i.zero, i.size, i.bytes)) = some (some (.int .u8 0), 1, 1) := by kernel_rfl
/-- A new string of bytes of the call's own: what it holds. -/
theorem Owns.str {w : World} {v : Value} {l : List UInt8} (h : Owns w 5 1 cByte v l) : (convert 145 9 v).run Tryz.prog w = .ok (S l) w := by
  obtain ⟨sv, hs, hc⟩ := h.bytesTo (P := Tryz.prog) (p := 0) (Nat.zero_le _) (t := 145) (dst := 9) (by kernel_rfl) (by kernel_rfl) (by kernel_rfl) Tryz.sizeU8
  have hc0 := hc 0
  have hs0 := hs w
  rcases h.2 with ⟨rfl, h0⟩ | ⟨g, cap, cur, rfl, _, hg, hc1, hc2, _⟩
  · rw [run_convert_bytes_nil _ 145 5 Tryz.underlying145 Tryz.underlying5 0 0 9 Tryz.underlying9, List.length_eq_zero_iff.1 h0]
    rfl
  · have hcell : ∀ j, (hj : j < l.length) → w.cell? ⟨g, 0 + j, none⟩ = some (.int .u8 (l[j].toNat)) := by
      intro j hj
      obtain ⟨g', cap', hv, _, _, hc, _⟩ := h.at cByte_len (j := j) (a := l[j]) (by simp [hj])
      simp only [Value.slice.injEq, Option.some.injEq, Addr.mk.injEq, and_true, true_and] at hv
      obtain ⟨rfl, rfl⟩ := hv
      have := hc 0 _ rfl
      simpa using this
    rw [run_convert_bytes_arg w 145 5 Tryz.underlying145 Tryz.underlying5 g 0 l.length cap (l.map fun c => ((c.toNat : Nat) : Int)) (by simp) ?_ 9 Tryz.underlying9, strOf_bytes]
    intro i hi
    rw [hcell i hi]
    simp [List.getD, hi]
/-- A slice of bytes of the call's own that has grown. -/
def Grown (w : World) (v : Value) (l : Bytes) (v' : Value) (w' : World) : Prop :=
  Owns w' 5 1 cByte v' l ∧ Fr (fun k => v.ownBlock = some k) w w' ∧ ∀ g, v'.ownBlock = some g → v.ownBlock = some g ∨ w.heap.size ≤ g
theorem grown_mk {w w1 : World} {va : Option Addr} {l : Bytes} {vc gg cap : Nat} {c : UInt8}
    (hown1 : w1.ownsRow 0 5 1 (.slice (some ⟨gg, 0, none⟩) (l.length + 1) cap) (l.length + 1) (l.flatMap cByte ++ cByte c)) (hg : w.grownBy w1 (Value.slice va l.length vc).ownBlock) (hat : (Value.slice va l.length vc).ownBlock = some gg ∨ w.heap.size ≤ gg) :
    Grown w (.slice va l.length vc) (l ++ [c]) (.slice (some ⟨gg, 0, none⟩) (l.length + 1) cap) w1 := by
  refine ⟨owns_append hown1, Fr.grown (Fr.refl _ w) hg (fun k e => .inl e), fun g hg => ?_⟩
  simp only [Value.ownBlock, Option.some.injEq] at hg
  subst hg
  exact hat
theorem Grown.trans {w w1 w2 : World} {v v1 v2 : Value} {l l2 : Bytes} (h : Grown w v l v1 w1) (k : Grown w1 v1 l2 v2 w2) : Grown w v l2 v2 w2 :=
  ⟨k.1, Fr.step h.2.1 (fun b hb => h.2.2 b hb) k.2.1, fun g hg => by
    rcases k.2.2 g hg with e | e
    · exact h.2.2 g e
    · exact .inr (Nat.le_trans h.2.1.size e)⟩
theorem bytes_S (l : Bytes) : byteCells ⟨l.toArray⟩ = l.flatMap cByte := by
  unfold byteCells
  induction l with
  | nil => rfl
  | cons a t ih => simpa [cByte] using ih
theorem Grown.app {w w1 w2 : World} {v v1 : Value} {l t : Bytes} {g cap : Nat} (h : Grown w v l v1 w1) (hown : w2.ownsRow 0 5 1 (.slice (some ⟨g, 0, none⟩) (l.length + t.length) cap) (l.length + t.length) (l.flatMap cByte ++ t.flatMap cByte))
    (hg : w1.grownBy w2 v1.ownBlock) (hat : v1.ownBlock = some g ∨ g = w1.heap.size) : Grown w v (l ++ t) (.slice (some ⟨g, 0, none⟩) (l.length + t.length) cap) w2 := by
  refine h.trans ⟨?_, Fr.grown (Fr.refl _ w1) hg (fun k e => .inl e), fun g' hg' => ?_⟩
  · unfold Owns
    rw [List.length_append, List.flatMap_append]
    exact hown
  · simp only [Value.ownBlock, Option.some.injEq] at hg'
    subst hg'
    exact hat.imp id (fun e => by omega)

/-- What an encoding hands back. -/
def Tells (w : World) (d : Bytes × Int) (r : Ending) (w' : World) : Prop := r = .returned (.tuple #[S d.1, .int .i64 d.2]) ∧ Same w w'
/-! The ways of Encode -/
theorem shapeV_no {l : List Px.Node} (hl : l.length ≤ 4096) (h : (shapeV l).2 = false) : E5.Enc l ([], 9) := by
  unfold shapeV at h
  cases hs : E5.shape true l [] 0 with
  | none => exact E5.enc_shape hl (.inr (.inl hs))
  | some r =>
    obtain ⟨m, left⟩ := r
    rw [hs] at h
    simp only at h
    cases l with
    | nil => exact E5.enc_shape hl (.inl rfl)
    | cons a t =>
      cases left with
      | nil => simp at h
      | cons c r => exact E5.enc_shape hl (.inr (.inr ⟨m, c, r, hs⟩))
theorem shapeV_ok {l : List Px.Node} (h : (shapeV l).2 = true) : E5.shape true l [] 0 = some ((shapeV l).1, []) ∧ l ≠ [] := by
  unfold shapeV at h ⊢
  cases hs : E5.shape true l [] 0 with
  | none => rw [hs] at h; cases h
  | some r =>
    obtain ⟨m, left⟩ := r
    rw [hs] at h
    simp only [Bool.and_eq_true, Bool.not_eq_true', List.isEmpty_iff] at h
    obtain ⟨h1, h2⟩ := h
    subst h2
    exact ⟨rfl, by rintro rfl; simp at h1⟩
theorem enc_read {l : List Px.Node} {b : Bytes} {o : Bool} (hl : l.length ≤ 4096) (h : E5.El 32 l b o) (hb : b.length ≤ 262144) :
    ((R5.decode b E5.encLim).2.2 = 0 ∧ E5.Enc l (b, 0)) ∨ (¬ (R5.decode b E5.encLim).2.2 = 0 ∧ E5.Enc l ([], 9)) := by
  have hd := E5.decode_of_el (lim := E5.encLim) E5.encLim_may (show E5.El (32 : Int).toNat l b o from h) (show (l.length : Int) ≤ 4096 by omega) (show (b.length : Int) ≤ 262144 by omega)
  cases o with
  | false =>
    rw [if_neg (by simp)] at hd
    exact .inl ⟨by rw [hd], .ok b hl h hb⟩
  | true =>
    rw [if_pos rfl] at hd
    exact .inr ⟨by rw [hd]; decide, .out b hl h hb⟩
/-! The bytes told so far -/
theorem emit_split : ∀ (l : List Px.Node) (ks : List Nat) (k : Nat), l.length = ks.length → E5.emit l ks = E5.emit (l.take k) (ks.take k) ++ E5.emit (l.drop k) (ks.drop k)
  | [], ks, k, h => by
    have : ks = [] := List.eq_nil_of_length_eq_zero h.symm
    subst this
    simp [E5.emit]
  | a :: r, [], k, h => by simp at h
  | a :: r, n :: ks, 0, h => by simp [E5.emit]
  | a :: r, n :: ks, k + 1, h => by
    simp only [List.length_cons, Nat.add_right_cancel_iff] at h
    rw [List.take_succ_cons, List.take_succ_cons, List.drop_succ_cons, List.drop_succ_cons, E5.emit_cons, E5.emit_cons, emit_split r ks k h, List.append_assoc]
theorem emit_step (l : List Px.Node) (ks : List Nat) (k : Nat) (h : l.length = ks.length) (hk : k < l.length) :
    E5.emit (l.take (k + 1)) (ks.take (k + 1)) = E5.emit (l.take k) (ks.take k) ++ (l[k].tag :: (E5.lenB (ks[k]'(by omega)) ++ l[k].body)) := by
  have h2 := emit_split (l.take (k + 1)) (ks.take (k + 1)) k (by rw [List.length_take, List.length_take]; omega)
  rw [h2, List.take_take, List.take_take, Nat.min_eq_left (Nat.le_succ k)]
  congr 1
  have e1 : (l.take (k + 1)).drop k = [l[k]] := by
    rw [List.drop_take, Nat.add_sub_cancel_left, List.drop_eq_getElem_cons hk]
    rfl
  have e2 : (ks.take (k + 1)).drop k = [ks[k]'(by omega)] := by
    rw [List.drop_take, Nat.add_sub_cancel_left, List.drop_eq_getElem_cons (by omega)]
    rfl
  rw [e1, e2, E5.emit_cons]
  show _ ++ [] = _
  rw [List.append_nil]
theorem emit_part (l : List Px.Node) (ks : List Nat) (k : Nat) (h : l.length = ks.length) : (E5.emit (l.take k) (ks.take k)).length ≤ (E5.emit l ks).length := by
  conv => rhs; rw [emit_split l ks k h]
  rw [List.length_append]
  omega
theorem lenB_small {n : Nat} (h : n < 128) : E5.lenB n = [UInt8.ofNat n] := if_pos h
theorem lenB_far {n : Nat} (h : ¬ n < 128) : E5.lenB n = UInt8.ofNat (128 + E5.dgN 8 n) :: E5.beD (E5.dgN 8 n) n := by
  unfold E5.lenB
  rw [if_neg h, E5.beN_dg, E5.beN_beD, List.append_nil, List.length_nil, Nat.zero_add]
theorem dg_small {n : Nat} (h : n ≤ 262144) : E5.dgN 8 n ≤ 3 := by
  rw [E5.dgN_more 7 n (by omega), E5.dgN_more 6 n (by omega), E5.dgN_more 5 n (by omega), E5.dgN_more 4 n (by omega), E5.dgN_more 3 n (by omega)]
  exact E5.dgN_le 3 n
theorem dg_pos {n : Nat} (h : ¬ n < 128) : 1 ≤ E5.dgN 8 n := by
  unfold E5.dgN
  rw [if_neg (by omega)]
  omega
set_option maxHeartbeats 1000000 in
theorem ordered_any (s : Bytes) (hs : s.length ≤ 140737488355327) (w : World) (hT : Tabs w) :
    Calls Tryz.prog 90 #[S s] w fun e w' => e = .returned (.bool ((R5.decode s E5.encLim).2.2 == 0)) ∧ Same w w' := by
  have hd : Calls Tryz.prog 22 #[S s, .agg #[.int .i64 32, .int .i64 4096, .int .i64 262144, .int .i64 1]] w (Gives w (R5.decode s E5.encLim)) := decode_any s E5.encLim hs w hT
  have HD := Px.hid hd
  obtain ⟨d, hdd⟩ : ∃ d, d = R5.decode s E5.encLim := ⟨_, rfl⟩
  rw [← hdd] at HD ⊢
  clear hd hdd hs hT
  go_enter Tryz.func90, Tryz.ntmps90
  go_wp2_with fail
  refine HD.out.mono ?_
  rintro e w2 ⟨vo, rfl, hvo, hs2, _⟩
  have HS := Px.hid hs2
  clear hvo hs2
  go_wp2
  go_ret
  exact ⟨rfl, HS.out⟩
end Go.Proofs.YtpfhollohodcjaaGreatDoor
