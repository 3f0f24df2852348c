/-
  Lesser limits, and texts that are cut: the reading is the same, or is refused (plain laws of layer 17). No program is named here.
-/
import Derived.Test.YtddiabaagpmkgaaDoorE7S
namespace Go.Px.E7
open R7 (St)

/-- How one reading follows another: the text is the other's beginning, or the limits are lesser. -/
structure Foll (s s' : Bytes) (lim lim' : Lim) (e : Nat) (Bad : St → Prop) : Prop where
  byte : ∀ p, p < s'.length → s'.getD p 0 = s.getD p 0
  part : ∀ p q, q ≤ s'.length → (s'.take q).drop p = (s.take q).drop p
  want : ∀ x p, R7.want s' lim' x p = R7.want s lim x p ∨ ∃ y, R7.want s' lim' x p = (false, y) ∧ Bad y
  items : ∀ (x : St) (p : Nat), lim'.i ≤ x.out.length → lim.i ≤ x.out.length ∨ Bad (R7.fault x p 10)
  less : ∀ x : St, lim.i ≤ x.out.length → lim'.i ≤ x.out.length
  deep : e ≠ 0 → ∀ (x : St) (p : Nat), Bad (R7.fault x p 10)
def Agree (s' : Bytes) (Bad : St → Prop) (r' r : Option Nat × St) : Prop :=
  (r' = r ∧ ∀ q y, r = (some q, y) → q ≤ s'.length) ∨ ∃ y, r' = (none, y) ∧ Bad y
section
variable {s s' : Bytes} {lim lim' : Lim} {e : Nat} {Bad : St → Prop}
theorem want_lt {x y : St} {p : Nat} (h : R7.want s' lim' x p = (true, y)) : p < s'.length := by
  unfold R7.want at h
  split at h
  · rename_i hc; exact hc.1
  · split at h <;> simp at h
theorem argN_foll (F : Foll s s' lim lim' e Bad) : ∀ (m : Nat) (x : St) (p n : Nat), p ≤ s'.length →
    (R7.argN s' lim' m x p n = R7.argN s lim m x p n ∧ ∀ v y, R7.argN s lim m x p n = (some v, y) → p + m ≤ s'.length) ∨ ∃ y, R7.argN s' lim' m x p n = (none, y) ∧ Bad y
  | 0, x, p, n, hp => .inl ⟨rfl, fun _ _ _ => hp⟩
  | m + 1, x, p, n, hp => by
    unfold R7.argN
    rcases F.want x p with h | ⟨y, h, hb⟩
    · rw [← h]
      cases hw : R7.want s' lim' x p with
      | mk b z =>
        cases b
        · exact .inl ⟨rfl, fun v y e => by simp at e⟩
        · have hl := want_lt hw
          simp only
          rw [F.byte p hl]
          rcases argN_foll F m z (p + 1) (n * 256 + (s.getD p 0).toNat) hl with ⟨k1, k2⟩ | k
          · exact .inl ⟨k1, fun v y e => by have := k2 v y e; omega⟩
          · exact .inr k
    · rw [h]
      exact .inr ⟨y, rfl, hb⟩
theorem head_foll (F : Foll s s' lim lim' e Bad) (x : St) (p : Nat) :
    (R7.head s' lim' x p = R7.head s lim x p ∧ ∀ k n q y, R7.head s lim x p = (some (k, n, q), y) → q ≤ s'.length) ∨ ∃ y, R7.head s' lim' x p = (none, y) ∧ Bad y := by
  unfold R7.head
  rcases F.want x p with h | ⟨y, h, hb⟩
  · rw [← h]
    cases hw : R7.want s' lim' x p with
    | mk b z =>
      cases b
      · exact .inl ⟨rfl, fun k n q y e => by simp at e⟩
      · have hl := want_lt hw
        simp only
        rw [F.byte p hl]
        by_cases hi : lim'.i ≤ z.out.length
        · rw [if_pos hi]
          rcases F.items z p hi with hi2 | hb
          · rw [if_pos hi2]
            exact .inl ⟨rfl, fun k n q y e => by simp at e⟩
          · exact .inr ⟨_, rfl, hb⟩
        · rw [if_neg hi, if_neg (fun h => hi (F.less z h))]
          by_cases h27 : 27 < (s.getD p 0).toNat % 32
          · rw [if_pos h27, if_pos h27]
            exact .inl ⟨rfl, fun k n q y e => by simp at e⟩
          · rw [if_neg h27, if_neg h27]
            by_cases h7 : ((s.getD p 0).toNat / 32 == 7 && (decide ((s.getD p 0).toNat % 32 < 20) || decide (23 < (s.getD p 0).toNat % 32))) = true
            · rw [if_pos h7, if_pos h7]
              exact .inl ⟨rfl, fun k n q y e => by simp at e⟩
            · rw [if_neg h7, if_neg h7]
              by_cases h24 : (s.getD p 0).toNat % 32 < 24
              · rw [if_pos h24, if_pos h24]
                refine .inl ⟨rfl, fun k n q y e => ?_⟩
                simp only [Prod.mk.injEq, Option.some.injEq] at e
                omega
              · rw [if_neg h24, if_neg h24]
                rcases argN_foll F (2 ^ ((s.getD p 0).toNat % 32 - 24)) z (p + 1) 0 hl with ⟨k1, k2⟩ | ⟨y, k1, k2⟩
                · rw [k1]
                  refine .inl ⟨rfl, fun k n q y e => ?_⟩
                  cases ha : R7.argN s lim (2 ^ ((s.getD p 0).toNat % 32 - 24)) z (p + 1) 0 with
                  | mk o u =>
                    rw [ha] at e
                    cases o with
                    | none => simp at e
                    | some v =>
                      have := k2 v u ha
                      simp only at e
                      split at e
                      · simp only [Prod.mk.injEq, Option.some.injEq] at e
                        omega
                      · simp at e
                · rw [k1]
                  exact .inr ⟨y, rfl, k2⟩
  · rw [h]
    exact .inr ⟨y, rfl, hb⟩
theorem wantN_foll (F : Foll s s' lim lim' e Bad) : ∀ (m : Nat) (x : St) (p : Nat), p ≤ s'.length →
    (R7.wantN s' lim' m x p = R7.wantN s lim m x p ∧ ∀ y, R7.wantN s lim m x p = (true, y) → p + m ≤ s'.length) ∨ ∃ y, R7.wantN s' lim' m x p = (false, y) ∧ Bad y
  | 0, x, p, hp => .inl ⟨rfl, fun _ _ => hp⟩
  | m + 1, x, p, hp => by
    unfold R7.wantN
    rcases F.want x p with h | ⟨y, h, hb⟩
    · rw [← h]
      cases hw : R7.want s' lim' x p with
      | mk b z =>
        cases b
        · exact .inl ⟨rfl, fun y e => by simp at e⟩
        · have hl := want_lt hw
          simp only
          rcases wantN_foll F m z (p + 1) hl with ⟨k1, k2⟩ | k
          · exact .inl ⟨k1, fun y e => by have := k2 y e; omega⟩
          · exact .inr k
    · rw [h]
      exact .inr ⟨y, rfl, hb⟩
theorem text_foll (F : Foll s s' lim lim' e Bad) (k n : Nat) (x : St) (p at_ : Nat) (ha : at_ ≤ s'.length) : Agree s' Bad (R7.textN s' lim' k n x p at_) (R7.textN s lim k n x p at_) := by
  unfold R7.textN
  rcases wantN_foll F n x at_ ha with ⟨h, h2⟩ | ⟨y, h, hb⟩
  · rw [h]
    cases hw : R7.wantN s lim n x at_ with
    | mk b z =>
      cases b
      · exact .inl ⟨rfl, fun q y e => by simp at e⟩
      · have hl := h2 z hw
        simp only
        rw [F.part at_ (at_ + n) hl]
        refine .inl ⟨rfl, fun q y e => ?_⟩
        split at e
        · simp at e
        · simp only [Prod.mk.injEq, Option.some.injEq] at e
          omega
  · rw [h]
    exact .inr ⟨y, rfl, hb⟩
theorem items_foll {rc rc' : St → Nat → Option Nat × St} (hR : ∀ x p, p ≤ s'.length → Agree s' Bad (rc' x p) (rc x p)) : ∀ (m : Nat) (x : St) (p : Nat), p ≤ s'.length → Agree s' Bad (R7.itemsN rc' m x p) (R7.itemsN rc m x p)
  | 0, x, p, hp => .inl ⟨rfl, fun q y e => by unfold R7.itemsN at e; simp only [Prod.mk.injEq, Option.some.injEq] at e; omega⟩
  | m + 1, x, p, hp => by
    unfold R7.itemsN
    rcases hR x p hp with ⟨h, h2⟩ | ⟨y, h, hb⟩
    · rw [h]
      cases hr : rc x p with
      | mk o z =>
        cases o with
        | none => exact .inl ⟨rfl, fun q y e => by simp at e⟩
        | some t => exact items_foll hR m z t (h2 t z hr)
    · rw [h]
      exact .inr ⟨y, rfl, hb⟩
theorem pairs_foll (F : Foll s s' lim lim' e Bad) {rc rc' : St → Nat → Option Nat × St} (hR : ∀ x p, p ≤ s'.length → Agree s' Bad (rc' x p) (rc x p)) : ∀ (m : Nat) (last : Option Bytes) (x : St) (p : Nat), p ≤ s'.length → Agree s' Bad (R7.pairsN s' rc' m last x p) (R7.pairsN s rc m last x p)
  | 0, _, x, p, hp => .inl ⟨rfl, fun q y e => by unfold R7.pairsN at e; simp only [Prod.mk.injEq, Option.some.injEq] at e; omega⟩
  | m + 1, last, x, p, hp => by
    unfold R7.pairsN
    rcases hR x p hp with ⟨h, h2⟩ | ⟨y, h, hb⟩
    · rw [h]
      cases hr : rc x p with
      | mk o z =>
        cases o with
        | none => exact .inl ⟨rfl, fun q y e => by simp at e⟩
        | some t =>
          have ht := h2 t z hr
          simp only
          rw [F.part p t ht]
          by_cases hc : (last.any fun l => leB ((s.take t).drop p) l) = true
          · rw [if_pos hc, if_pos hc]
            exact .inl ⟨rfl, fun q y e => by simp at e⟩
          · rw [if_neg hc, if_neg hc]
            rcases hR z t ht with ⟨k, k2⟩ | ⟨y, k, hb⟩
            · rw [k]
              cases hr2 : rc z t with
              | mk o2 u =>
                cases o2 with
                | none => exact .inl ⟨rfl, fun q y e => by simp at e⟩
                | some t2 => exact pairs_foll F hR m _ u t2 (k2 t2 u hr2)
            · rw [k]
              exact .inr ⟨y, rfl, hb⟩
    · rw [h]
      exact .inr ⟨y, rfl, hb⟩
theorem item_foll (F : Foll s s' lim lim' e Bad) : ∀ (d : Nat) (x : St) (p : Nat), Agree s' Bad (R7.item s' lim' d x p) (R7.item s lim (d + e) x p) := by
  have unf : ∀ (s : Bytes) (lim : Lim) (d : Nat) (x : St) (p : Nat), R7.item s lim d x p = (match R7.head s lim x p with
    | (none, y) => (none, y)
    | (some (k, n, at_), y) => if k == 2 || k == 3 then R7.textN s lim k n y p at_ else if k == 4 || k == 5 || k == 6 then (match d with | 0 => (none, R7.fault y p 10) | d + 1 => R7.holdN s (R7.item s lim d) k n y at_) else (some at_, { y with out := y.out ++ [⟨k, n, []⟩] })) := by
    intro s lim d x p
    cases d <;> (unfold R7.item; cases R7.head s lim x p with | mk o y => cases o <;> rfl)
  intro d
  induction d with
  | zero =>
    intro x p
    rw [unf s' lim' 0 x p, unf s lim (0 + e) x p]
    rcases head_foll F x p with ⟨h, h2⟩ | ⟨y, h, hb⟩
    · rw [h]
      cases hr : R7.head s lim x p with
      | mk o z =>
        cases o with
        | none => exact .inl ⟨rfl, fun q y e => by simp at e⟩
        | some t =>
          obtain ⟨k, n, at_⟩ := t
          have ha := h2 k n at_ z hr
          simp only
          by_cases h23 : (k == 2 || k == 3) = true
          · rw [if_pos h23, if_pos h23]
            exact text_foll F k n z p at_ ha
          · rw [if_neg h23, if_neg h23]
            by_cases h456 : (k == 4 || k == 5 || k == 6) = true
            · rw [if_pos h456, if_pos h456]
              rw [Nat.zero_add]
              cases e with
              | zero => exact .inl ⟨rfl, fun q y e => by simp at e⟩
              | succ e => exact .inr ⟨_, rfl, F.deep (by omega) z p⟩
            · rw [if_neg h456, if_neg h456]
              refine .inl ⟨rfl, fun q y e => ?_⟩
              simp only [Prod.mk.injEq, Option.some.injEq] at e
              omega
    · rw [h]
      exact .inr ⟨y, rfl, hb⟩
  | succ d ih =>
    intro x p
    rw [show d + 1 + e = d + e + 1 by omega, unf s' lim' (d + 1) x p, unf s lim (d + e + 1) x p]
    rcases head_foll F x p with ⟨h, h2⟩ | ⟨y, h, hb⟩
    · rw [h]
      cases hr : R7.head s lim x p with
      | mk o z =>
        cases o with
        | none => exact .inl ⟨rfl, fun q y e => by simp at e⟩
        | some t =>
          obtain ⟨k, n, at_⟩ := t
          have ha := h2 k n at_ z hr
          simp only
          by_cases h23 : (k == 2 || k == 3) = true
          · rw [if_pos h23, if_pos h23]
            exact text_foll F k n z p at_ ha
          · rw [if_neg h23, if_neg h23]
            by_cases h456 : (k == 4 || k == 5 || k == 6) = true
            · rw [if_pos h456, if_pos h456]
              unfold R7.holdN
              simp only
              have fin : ∀ r' r : Option Nat × St, Agree s' Bad r' r → Agree s' (Bad) (match r' with | (some q, z) => (some q, { z with frames := z.frames - 1 }) | (none, z) => (none, z)) (match r with | (some q, z) => (some q, { z with frames := z.frames - 1 }) | (none, z) => (none, z)) := by
                intro r' r hA
                rcases hA with ⟨rfl, h2⟩ | ⟨y, rfl, hb⟩
                · refine .inl ⟨rfl, fun q y e => ?_⟩
                  obtain ⟨o, z⟩ := r'
                  cases o with
                  | none => simp at e
                  | some t =>
                    simp only [Prod.mk.injEq, Option.some.injEq] at e
                    rw [← e.1]
                    exact h2 t z rfl
                · exact .inr ⟨y, rfl, hb⟩
              refine fin _ _ ?_
              simp only [Bool.or_eq_true, beq_iff_eq] at h456
              rcases h456 with (rfl | rfl) | rfl
              · rw [if_pos (by rfl), if_pos (by rfl)]
                exact items_foll (fun x p _ => ih x p) n _ at_ ha
              · rw [if_neg (by simp), if_pos (by rfl), if_neg (by simp), if_pos (by rfl)]
                exact pairs_foll F (fun x p _ => ih x p) n none _ at_ ha
              · rw [if_neg (by simp), if_neg (by simp), if_neg (by simp), if_neg (by simp)]
                exact ih _ at_
            · rw [if_neg h456, if_neg h456]
              refine .inl ⟨rfl, fun q y e => ?_⟩
              simp only [Prod.mk.injEq, Option.some.injEq] at e
              omega
    · rw [h]
      exact .inr ⟨y, rfl, hb⟩
end

/-! Lesser limits -/
theorem foll_lim (s : Bytes) {lim lim' : Lim} (e : Nat) (hb : lim'.b ≤ lim.b) (hi : lim'.i ≤ lim.i) : Foll s s lim lim' e (fun y => y.err = 10 ∧ (lim'.i = lim.i → e = 0 → y.place = lim'.b)) where
  byte _ _ := rfl
  part _ _ _ := rfl
  want x p := by
    unfold R7.want
    by_cases h1 : p < s.length ∧ (p : Int) < lim'.b
    · rw [if_pos h1, if_pos ⟨h1.1, by omega⟩]
      exact .inl rfl
    · rw [if_neg h1]
      by_cases h2 : lim'.b < s.length
      · rw [if_pos h2]
        exact .inr ⟨_, rfl, rfl, fun _ _ => rfl⟩
      · rw [if_neg h2, if_neg (by omega), if_neg (by omega)]
        exact .inl rfl
  items x p h := by
    by_cases h2 : lim.i ≤ x.out.length
    · exact .inl h2
    · exact .inr ⟨rfl, fun h3 => absurd h3 (by omega)⟩
  less x h := by omega
  deep h x p := ⟨rfl, fun _ h2 => absurd h2 h⟩
/-! A text's beginning -/
theorem foll_cut {s s' t : Bytes} {lim : Lim} (hs : s = s' ++ t) (hl : (s'.length : Int) ≤ lim.b) : Foll s s' lim lim 0 (fun y => y.err = 9 ∧ y.place = s'.length) where
  byte p hp := by
    rw [hs, List.getD_eq_getElem?_getD, List.getD_eq_getElem?_getD, List.getElem?_append_left hp]
  part p q hq := by rw [hs, List.take_append_of_le_length hq]
  want x p := by
    unfold R7.want
    by_cases h1 : p < s'.length
    · rw [if_pos ⟨h1, by omega⟩, if_pos ⟨by rw [hs, List.length_append]; omega, by omega⟩]
      exact .inl rfl
    · rw [if_neg (by omega), if_neg (by omega)]
      exact .inr ⟨_, rfl, rfl, rfl⟩
  items x p h := .inl h
  less x h := h
  deep h := absurd rfl h

/-! What follows for Decode -/
/-- A reading that went well, by the reader. -/
def Well (s : Bytes) (lim : Lim) (l : List Atom) : Prop := ∃ y, R7.item s lim lim.d.toNat R7.start 0 = (some s.length, y) ∧ y.out = l ∧ y.err = 0 ∧ y.place = 0
theorem Well.decode {s : Bytes} {lim : Lim} {l : List Atom} (hm : lim.may = true) (h : Well s lim l) : R7.decode s lim = (l, 0, 0) := by
  obtain ⟨y, h1, h2, h3, h4⟩ := h
  rw [R7.decode_yes hm]
  unfold R7.read
  rw [h1]
  simp only [Nat.lt_irrefl, if_false]
  rw [h3, h4]
  unfold R7.list
  rw [h3, h2]
  rfl
theorem fail_decode {s : Bytes} {lim : Lim} {y : St} (hm : lim.may = true) (h : R7.item s lim lim.d.toNat R7.start 0 = (none, y)) (he : y.err ≠ 0) : R7.decode s lim = ([], y.place, y.err) := by
  rw [R7.decode_yes hm]
  unfold R7.read
  rw [h]
  simp only
  unfold R7.list
  rw [if_neg (by simpa using he)]
theorem decode_more {s : Bytes} {lim more : Lim} (h : (R7.decode s lim).2.2 = 0) (hm : more.may = true) (hd : lim.d ≤ more.d) (hi : lim.i ≤ more.i) (hb : lim.b ≤ more.b) : R7.decode s more = ((R7.decode s lim).1, 0, 0) := by
  obtain ⟨hm0, _, _, _, _, _, _, y, h1, h2, h3, h4⟩ := decode_sound h
  have m0 := Cf.may_of hm0
  have m1 := Cf.may_of hm
  rcases item_foll (foll_lim s (lim := more) (lim' := lim) (more.d.toNat - lim.d.toNat) hb hi) lim.d.toNat R7.start 0 with ⟨k, _⟩ | ⟨z, k, _⟩
  · rw [h1, show lim.d.toNat + (more.d.toNat - lim.d.toNat) = more.d.toNat by omega] at k
    exact Well.decode hm ⟨y, k.symm, h2, h3, h4⟩
  · rw [h1] at k; simp at k
theorem one_le_size (n : Nat) : 1 ≤ (if n < 24 then 1 else 2 ^ R7.infoOf n + 1) := by
  split
  · exact Nat.le_refl _
  · exact Nat.le_add_left _ _
theorem decode_just {s : Bytes} {lim : Lim} (h : (R7.decode s lim).2.2 = 0) (r : Int) (hr : 1 ≤ r) (hr2 : r ≤ 4096) :
    R7.decode s ⟨lim.d, ((R7.decode s lim).1.length : Nat), (s.length : Nat), r⟩ = ((R7.decode s lim).1, 0, 0) := by
  obtain ⟨hm0, _, h1, h2, h3, h4, h5, _⟩ := decode_sound h
  have m0 := Cf.may_of hm0
  have hpos := h1.pos
  have hsp : 1 ≤ s.length := by
    rw [h3]
    cases hl : (R7.decode s lim).1 with
    | nil => rw [hl] at hpos; simp at hpos
    | cons a r =>
      rw [encB_cons, List.length_append]
      unfold atomB
      rw [List.length_append, headB_size]
      have := one_le_size (if (a.kind == 2 || a.kind == 3) = true then a.text.length else a.num)
      omega
  have hmj : (⟨lim.d, ((R7.decode s lim).1.length : Nat), (s.length : Nat), r⟩ : Lim).may = true := by
    unfold Lim.may
    simp only [Bool.and_eq_true, decide_eq_true_eq]
    omega
  have := decode_of_it (lim := ⟨lim.d, ((R7.decode s lim).1.length : Nat), (s.length : Nat), r⟩) hmj h1 h2 (Int.le_refl _) (by rw [← h3]; exact Int.le_refl _)
  rw [← h3] at this
  exact this
theorem decode_few {s : Bytes} {lim few : Lim} (h : (R7.decode s lim).2.2 = 0) (hm : few.may = true) (hd : few.d = lim.d) (hi : few.i < ((R7.decode s lim).1.length : Nat)) (hb : few.b ≤ lim.b) : (R7.decode s few).2.2 = 10 := by
  obtain ⟨hm0, _, _, _, _, h4, _, y, h1, h2, h3, _⟩ := decode_sound h
  rcases item_foll (foll_lim s (lim := lim) (lim' := few) 0 hb (by omega)) few.d.toNat R7.start 0 with ⟨k, _⟩ | ⟨z, k, k2, _⟩
  · rw [hd, Nat.add_zero, h1] at k
    exfalso
    have hok := start_ok (s := s) hm
    obtain ⟨l, _, k2⟩ := item_sound s few lim.d.toNat R7.start 0 _ y hok k
    have := k2.ok.out
    rw [h2] at this
    omega
  · rw [fail_decode hm k (by rw [k2]; omega), k2]
theorem decode_less {s : Bytes} {lim less : Lim} (h : (R7.decode s lim).2.2 = 0) (hm : less.may = true) (hd : less.d = lim.d) (hi : less.i = lim.i) (hb : less.b < (s.length : Nat)) : (R7.decode s less).2.2 = 10 ∧ (R7.decode s less).2.1 = less.b := by
  obtain ⟨hm0, _, _, _, _, _, h5, y, h1, h2, h3, _⟩ := decode_sound h
  rcases item_foll (foll_lim s (lim := lim) (lim' := less) 0 (by omega) (by omega)) less.d.toNat R7.start 0 with ⟨k, _⟩ | ⟨z, k, k2, k3⟩
  · rw [hd, Nat.add_zero, h1] at k
    exfalso
    have hok := start_ok (s := s) hm
    obtain ⟨l, _, k2⟩ := item_sound s less lim.d.toNat R7.start 0 _ y hok k
    have := k2.ok.pb
    omega
  · rw [fail_decode hm k (by rw [k2]; omega)]
    exact ⟨k2, k3 hi rfl⟩
theorem decode_cut {s : Bytes} {lim : Lim} (h : (R7.decode s lim).2.2 = 0) (n : Nat) (hn : n < s.length) : (R7.decode (s.take n) lim).2.2 = 9 ∧ (R7.decode (s.take n) lim).2.1 = n := by
  obtain ⟨hm, _, _, _, _, _, h5, y, h1, h2, h3, _⟩ := decode_sound h
  have hl : (s.take n).length = n := by rw [List.length_take]; omega
  rcases item_foll (foll_cut (s := s) (s' := s.take n) (t := s.drop n) (lim := lim) (List.take_append_drop n s).symm (by rw [hl]; omega)) lim.d.toNat R7.start 0 with ⟨k, k2⟩ | ⟨z, k, k2, k3⟩
  · exfalso
    rw [Nat.add_zero] at k k2
    have := k2 _ _ h1
    omega
  · rw [fail_decode hm k (by rw [k2]; omega)]
    rw [hl] at k3
    exact ⟨k2, k3⟩
theorem decode_more_byte {s : Bytes} {lim : Lim} (h : (R7.decode s lim).2.2 = 0) (c : UInt8) (hl : (s.length : Int) < lim.b) : (R7.decode (s ++ [c]) lim).2.2 = 9 ∧ (R7.decode (s ++ [c]) lim).2.1 = s.length := by
  obtain ⟨hm, _, _, _, _, _, h5, y, h1, h2, h3, _⟩ := decode_sound h
  rcases item_foll (foll_cut (s := s ++ [c]) (s' := s) (t := [c]) (lim := lim) rfl h5) lim.d.toNat R7.start 0 with ⟨k, k2⟩ | ⟨z, k, k2, k3⟩
  · rw [h1, Nat.add_zero] at k
    rw [R7.decode_yes hm]
    unfold R7.read
    rw [← k]
    simp only [List.length_append, List.length_singleton, Nat.lt_succ_self, if_true]
    have hw : R7.want (s ++ [c]) lim y s.length = (true, R7.take y (s.length + 1)) := by
      unfold R7.want
      rw [if_pos ⟨by simp, hl⟩]
    rw [hw]
    exact ⟨rfl, rfl⟩
  · rw [h1] at k; simp at k
end Go.Px.E7
