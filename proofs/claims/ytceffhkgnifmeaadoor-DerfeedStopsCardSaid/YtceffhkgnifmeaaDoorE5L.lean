/-
  Lesser limits, and texts that are cut: the reading is the same, or is refused (plain laws of layer 15). No program is named here.
-/
import Derived.Test.YtceffhkgnifmeaaDoorE5S
namespace Go.Px.E5
open R5 (St bump inner tagE)

/-- How one reading follows another: the text is the other's beginning, or the limits are lesser. -/
structure Foll (s s' : Bytes) (lim lim' : Lim) (e : Nat) (Bad : St → Prop) : Prop where
  byte : ∀ p, p < s'.length → s'.getD p 0 = s.getD p 0
  part : ∀ p q, q ≤ s'.length → (s'.take q).drop p = (s.take q).drop p
  want : ∀ x p, R5.want s' lim' x p = R5.want s lim x p ∨ ∃ y, R5.want s' lim' x p = (false, y) ∧ Bad y
  items : ∀ (x : St) (p : Nat), lim'.i ≤ x.out.length → lim.i ≤ x.out.length ∨ Bad (R5.fault x p 10)
  less : ∀ x : St, lim.i ≤ x.out.length → lim'.i ≤ x.out.length
  deep : e ≠ 0 → ∀ (x : St) (p : Nat), Bad (R5.fault x p 10)
def Agree (s' : Bytes) (Bad : St → Prop) (r' r : Option Nat × St) : Prop :=
  (r' = r ∧ ∀ q y, r = (some q, y) → q ≤ s'.length) ∨ ∃ y, r' = (none, y) ∧ Bad y
section
variable {s s' : Bytes} {lim lim' : Lim} {e : Nat} {Bad : St → Prop}
theorem want_lt {x y : St} {p : Nat} (h : R5.want s' lim' x p = (true, y)) : p < s'.length := by
  unfold R5.want at h
  split at h
  · rename_i hc; exact hc.1
  · split at h <;> simp at h
theorem lenN_foll (F : Foll s s' lim lim' e Bad) : ∀ (m : Nat) (x : St) (p : Nat) (first : Bool) (n : Nat), p ≤ s'.length →
    (R5.lenN s' lim' m x p first n = R5.lenN s lim m x p first n ∧ ∀ v y, R5.lenN s lim m x p first n = (some v, y) → p + m ≤ s'.length) ∨ ∃ y, R5.lenN s' lim' m x p first n = (none, y) ∧ Bad y
  | 0, x, p, first, n, hp => .inl ⟨rfl, fun _ _ _ => hp⟩
  | m + 1, x, p, first, n, hp => by
    unfold R5.lenN
    rcases F.want x p with h | ⟨y, h, hb⟩
    · rw [← h]
      cases hw : R5.want s' lim' x p with
      | mk b z =>
        cases b
        · exact .inl ⟨rfl, fun v y e => by simp at e⟩
        · have hl := want_lt hw
          simp only
          rw [F.byte p hl]
          by_cases hz : (first && (s.getD p 0).toNat == 0) = true
          · rw [if_pos hz, if_pos hz]
            exact .inl ⟨rfl, fun v y e => by simp at e⟩
          · rw [if_neg hz, if_neg hz]
            rcases lenN_foll F m z (p + 1) false (256 * n + (s.getD p 0).toNat) hl with ⟨k1, k2⟩ | k
            · exact .inl ⟨k1, fun v y e => by have := k2 v y e; omega⟩
            · exact .inr k
    · rw [h]
      exact .inr ⟨y, rfl, hb⟩
theorem length_foll (F : Foll s s' lim lim' e Bad) (x : St) (p : Nat) :
    (R5.length s' lim' x p = R5.length s lim x p ∧ ∀ n q y, R5.length s lim x p = (some (n, q), y) → q ≤ s'.length) ∨ ∃ y, R5.length s' lim' x p = (none, y) ∧ Bad y := by
  unfold R5.length
  rcases F.want x p with h | ⟨y, h, hb⟩
  · rw [← h]
    cases hw : R5.want s' lim' x p with
    | mk b z =>
      cases b
      · exact .inl ⟨rfl, fun n q y e => by simp at e⟩
      · have hl := want_lt hw
        simp only
        rw [F.byte p hl]
        by_cases h8 : (s.getD p 0).toNat < 128
        · rw [if_pos h8, if_pos h8]
          exact .inl ⟨rfl, fun n q y e => by simp only [Prod.mk.injEq, Option.some.injEq] at e; omega⟩
        · rw [if_neg h8, if_neg h8]
          by_cases hk : (s.getD p 0).toNat = 128 ∨ 132 < (s.getD p 0).toNat
          · rw [if_pos hk, if_pos hk]
            exact .inl ⟨rfl, fun n q y e => by simp at e⟩
          · rw [if_neg hk, if_neg hk]
            obtain ⟨w, hwd⟩ : ∃ w, w = (s.getD p 0).toNat % 128 := ⟨_, rfl⟩
            rw [← hwd]
            rcases lenN_foll F w z (p + 1) true 0 hl with ⟨k1, k2⟩ | ⟨y, k, hb⟩
            · rw [k1]
              cases hr : R5.lenN s lim w z (p + 1) true 0 with
              | mk o u =>
                cases o with
                | none => exact .inl ⟨rfl, fun n q y e => by simp at e⟩
                | some v =>
                  have := k2 v u hr
                  simp only
                  by_cases hv : v < 128
                  · rw [if_pos hv]; exact .inl ⟨trivial, fun n q y e => by simp at e⟩
                  · rw [if_neg hv]
                    exact .inl ⟨trivial, fun n q y e => by simp only [Prod.mk.injEq, Option.some.injEq] at e; omega⟩
            · rw [k]
              exact .inr ⟨y, rfl, hb⟩
  · rw [h]
    exact .inr ⟨y, rfl, hb⟩
theorem head_foll (F : Foll s s' lim lim' e Bad) (room' room : Bool) (hroom : room' = room ∨ (room' = false ∧ e ≠ 0)) (x : St) (p : Nat) (en : Option Nat) :
    ((R5.head s' lim' room' x p en = R5.head s lim room x p en ∧ ∀ n q y, R5.head s lim room x p en = (some (n, q), y) → q ≤ s'.length ∧ p < s'.length ∧ (inner (s.getD p 0).toNat = true → room' = true))) ∨ ∃ y, R5.head s' lim' room' x p en = (none, y) ∧ Bad y := by
  unfold R5.head
  rcases F.want x p with h | ⟨y, h, hb⟩
  · rw [← h]
    cases hw : R5.want s' lim' x p with
    | mk b z =>
      cases b
      · exact .inl ⟨rfl, fun n q y e => by simp at e⟩
      · have hl := want_lt hw
        simp only
        rw [F.byte p hl]
        by_cases hi : lim'.i ≤ z.out.length
        · rw [if_pos hi]
          rcases F.items z p hi with hi2 | hb
          · rw [if_pos hi2]
            exact .inl ⟨rfl, fun n q y e => by simp at e⟩
          · exact .inr ⟨_, rfl, hb⟩
        · rw [if_neg hi, if_neg (fun h2 => hi (F.less z h2))]
          by_cases hg : tagE (s.getD p 0).toNat ≠ 0
          · rw [if_pos hg, if_pos hg]
            exact .inl ⟨rfl, fun n q y e => by simp at e⟩
          · rw [if_neg hg, if_neg hg]
            by_cases hf' : (inner (s.getD p 0).toNat && !room') = true
            · rw [if_pos hf']
              rcases hroom with hroom | ⟨_, he⟩
              · rw [hroom] at hf'
                rw [if_pos hf']
                exact .inl ⟨rfl, fun n q y e => by simp at e⟩
              · exact .inr ⟨_, rfl, F.deep he z p⟩
            · rw [if_neg hf']
              have hf : ¬ (inner (s.getD p 0).toNat && !room) = true := by
                intro hh
                simp only [Bool.and_eq_true, Bool.not_eq_true'] at hh hf'
                apply hf'
                refine ⟨hh.1, ?_⟩
                rcases hroom with e1 | ⟨e1, _⟩
                · rw [e1]; exact hh.2
                · exact e1
              have hin : inner (s.getD p 0).toNat = true → room' = true := by
                intro hh
                rw [hh] at hf'
                simpa using hf'
              rw [if_neg hf]
              rcases length_foll F z (p + 1) with ⟨k1, k2⟩ | ⟨y, k, hb⟩
              · rw [k1]
                cases hr : R5.length s lim z (p + 1) with
                | mk o u =>
                  cases o with
                  | none => exact .inl ⟨rfl, fun n q y e => by simp at e⟩
                  | some v =>
                    obtain ⟨n', q'⟩ := v
                    have := k2 n' q' u hr
                    simp only
                    by_cases hv : (en.any (fun v => decide (v < q' + n'))) = true
                    · rw [if_pos hv]; exact .inl ⟨trivial, fun n q y e => by simp at e⟩
                    · rw [if_neg hv]
                      refine .inl ⟨trivial, fun n q y e => ?_⟩
                      simp only [Prod.mk.injEq, Option.some.injEq] at e
                      exact ⟨by omega, hl, hin⟩
              · rw [k]
                exact .inr ⟨y, rfl, hb⟩
  · rw [h]
    exact .inr ⟨y, rfl, hb⟩
theorem leaf_foll (F : Foll s s' lim lim' e Bad) (t : UInt8) (n : Nat) (x : St) (p at_ : Nat) (ha : at_ ≤ s'.length) : Agree s' Bad (R5.leaf s' lim' x t p at_ n) (R5.leaf s lim x t p at_ n) := by
  have fin : ∀ y : St, at_ + n ≤ s'.length → Agree s' Bad (if R5.body t.toNat ((s'.take (at_ + n)).drop at_) then (some (at_ + n), { y with out := y.out ++ [⟨t, -1, (s'.take (at_ + n)).drop at_⟩] }) else (none, R5.fault y p 9))
      (if R5.body t.toNat ((s.take (at_ + n)).drop at_) then (some (at_ + n), { y with out := y.out ++ [⟨t, -1, (s.take (at_ + n)).drop at_⟩] }) else (none, R5.fault y p 9)) := by
    intro y hl
    rw [F.part at_ (at_ + n) hl]
    refine .inl ⟨rfl, fun q y e => ?_⟩
    split at e
    · simp only [Prod.mk.injEq, Option.some.injEq] at e
      omega
    · simp at e
  unfold R5.leaf
  by_cases h0 : n = 0
  · rw [if_pos h0, if_pos h0]
    exact fin x (by omega)
  · rw [if_neg h0, if_neg h0]
    rcases F.want x (at_ + n - 1) with h | ⟨y, h, hb⟩
    · rw [← h]
      cases hw : R5.want s' lim' x (at_ + n - 1) with
      | mk b z =>
        cases b
        · exact .inl ⟨rfl, fun q y e => by simp at e⟩
        · have hl := want_lt hw
          exact fin z (by omega)
    · rw [h]
      exact .inr ⟨y, rfl, hb⟩
theorem inside_foll (F : Foll s s' lim lim' e Bad) {rc rc' : St → Nat → Option Nat × St} (hR : ∀ x p, Agree s' Bad (rc' x p) (rc x p)) (tg me en : Nat) : ∀ (m : Nat) (x : St) (p : Nat) (last : Bytes), p ≤ s'.length → Agree s' Bad (R5.insideN s' rc' tg me en m x p last) (R5.insideN s rc tg me en m x p last)
  | 0, x, p, last, hp => by
    refine .inl ⟨rfl, fun q y h => ?_⟩
    unfold R5.insideN at h
    simp only [Prod.mk.injEq, Option.some.injEq] at h
    omega
  | m + 1, x, p, last, hp => by
    unfold R5.insideN
    by_cases hpe : p < en
    · rw [if_pos hpe, if_pos hpe]
      rcases hR x p with ⟨h, h2⟩ | ⟨y, h, hb⟩
      · rw [h]
        cases hr : rc x p with
        | mk o z =>
          cases o with
          | none => exact .inl ⟨rfl, fun q y e => by simp at e⟩
          | some q =>
            have hq := h2 q z hr
            simp only
            rw [F.part p q hq]
            by_cases hk : (tg == 49 && Op.bytesLess ((s.take q).drop p) last) = true
            · rw [if_pos hk, if_pos hk]
              exact .inl ⟨rfl, fun q y e => by simp at e⟩
            · rw [if_neg hk, if_neg hk]
              exact inside_foll F hR tg me en m _ q _ hq
      · rw [h]
        exact .inr ⟨y, rfl, hb⟩
    · rw [if_neg hpe, if_neg hpe]
      refine .inl ⟨rfl, fun q y h => ?_⟩
      simp only [Prod.mk.injEq, Option.some.injEq] at h
      omega
theorem elem_foll (F : Foll s s' lim lim' e Bad) : ∀ (d : Nat) (x : St) (p : Nat) (en : Option Nat), Agree s' Bad (R5.elem s' lim' d x p en) (R5.elem s lim (d + e) x p en) := by
  have unf : ∀ (s : Bytes) (lim : Lim) (d : Nat) (x : St) (p : Nat) (en : Option Nat), R5.elem s lim d x p en = (match R5.head s lim (decide (d ≠ 0)) x p en with
    | (none, y) => (none, y)
    | (some (n, q), y) => (match d with
      | 0 => R5.leaf s lim y (s.getD p 0) p q n
      | d + 1 => if inner (s.getD p 0).toNat then R5.inside s (fun x p => R5.elem s lim d x p (some (q + n))) y (s.getD p 0) q (q + n) else R5.leaf s lim y (s.getD p 0) p q n)) := by
    intro s lim d x p en
    cases d with
    | zero =>
      conv => lhs; unfold R5.elem
      rw [show decide ((0 : Nat) ≠ 0) = false from rfl]
      cases R5.head s lim false x p en with | mk o y => cases o <;> rfl
    | succ d =>
      conv => lhs; unfold R5.elem
      rw [show decide (d + 1 ≠ 0) = true from decide_eq_true (by omega)]
      cases R5.head s lim true x p en with | mk o y => cases o <;> rfl
  intro d
  induction d with
  | zero =>
    intro x p en
    rw [unf s' lim' 0 x p en, unf s lim (0 + e) x p en]
    rcases head_foll F (decide ((0 : Nat) ≠ 0)) (decide (0 + e ≠ 0)) (by
      by_cases he : e = 0
      · left; rw [he]
      · right; exact ⟨rfl, he⟩) x p en with ⟨h, h2⟩ | ⟨y, h, hb⟩
    · rw [h]
      cases hr : R5.head s lim (decide (0 + e ≠ 0)) x p en with
      | mk o z =>
        cases o with
        | none => exact .inl ⟨rfl, fun q y e => by simp at e⟩
        | some t =>
          obtain ⟨n, q⟩ := t
          obtain ⟨k1, k2, k3⟩ := h2 n q z hr
          have hin : ¬ inner (s.getD p 0).toNat = true := fun hh => by have := k3 hh; simp at this
          simp only
          rw [F.byte p k2, Nat.zero_add]
          cases e with
          | zero => exact leaf_foll F _ n z p q k1
          | succ e =>
            simp only
            rw [if_neg hin]
            exact leaf_foll F _ n z p q k1
    · rw [h]
      exact .inr ⟨y, rfl, hb⟩
  | succ d ih =>
    intro x p en
    rw [show d + 1 + e = d + e + 1 by omega, unf s' lim' (d + 1) x p en, unf s lim (d + e + 1) x p en]
    rcases head_foll F (decide (d + 1 ≠ 0)) (decide (d + e + 1 ≠ 0)) (.inl (by rw [decide_eq_true (by omega), decide_eq_true (by omega)])) x p en with ⟨h, h2⟩ | ⟨y, h, hb⟩
    · rw [h]
      cases hr : R5.head s lim (decide (d + e + 1 ≠ 0)) x p en with
      | mk o z =>
        cases o with
        | none => exact .inl ⟨rfl, fun q y e => by simp at e⟩
        | some t =>
          obtain ⟨n, q⟩ := t
          obtain ⟨k1, k2, _⟩ := h2 n q z hr
          simp only
          rw [F.byte p k2]
          by_cases hin : inner (s.getD p 0).toNat = true
          · rw [if_pos hin, if_pos hin]
            unfold R5.inside
            rcases inside_foll F (rc := fun x p => R5.elem s lim (d + e) x p (some (q + n))) (rc' := fun x p => R5.elem s' lim' d x p (some (q + n))) (fun x p => ih x p (some (q + n))) (s.getD p 0).toNat z.out.length (q + n) (q + n - q)
              { z with out := z.out ++ [⟨s.getD p 0, 0, []⟩], frames := z.frames + 1 } q [] k1 with ⟨j1, j2⟩ | ⟨y, j, hb⟩
            · rw [j1]
              cases hr2 : R5.insideN s (fun x p => R5.elem s lim (d + e) x p (some (q + n))) (s.getD p 0).toNat z.out.length (q + n) (q + n - q) { z with out := z.out ++ [⟨s.getD p 0, 0, []⟩], frames := z.frames + 1 } q [] with
              | mk o2 u =>
                cases o2 with
                | none => exact .inl ⟨rfl, fun q y e => by simp at e⟩
                | some r =>
                  refine .inl ⟨rfl, fun q y e => ?_⟩
                  simp only [Prod.mk.injEq, Option.some.injEq] at e
                  rw [← e.1]
                  exact j2 r u hr2
            · rw [j]
              exact .inr ⟨y, rfl, hb⟩
          · rw [if_neg hin, if_neg hin]
            exact leaf_foll F _ n z p q k1
    · rw [h]
      exact .inr ⟨y, rfl, hb⟩
end

/-! Lesser limits -/
theorem foll_lim (s : Bytes) {lim lim' : Lim} (e : Nat) (hb : lim'.b ≤ lim.b) (hi : lim'.i ≤ lim.i) : Foll s s lim lim' e (fun y => y.err = 10 ∧ (lim'.i = lim.i → e = 0 → y.place = lim'.b)) where
  byte _ _ := rfl
  part _ _ _ := rfl
  want x p := by
    unfold R5.want
    by_cases h1 : p < s.length ∧ (p : Int) < lim'.b
    · rw [if_pos h1, if_pos ⟨h1.1, by omega⟩]
      exact .inl rfl
    · rw [if_neg h1]
      by_cases h2 : lim'.b < s.length
      · rw [if_pos h2]
        exact .inr ⟨_, rfl, rfl, fun _ _ => rfl⟩
      · rw [if_neg h2, if_neg (by omega), if_neg (by omega)]
        exact .inl rfl
  items x p h := by
    by_cases h2 : lim.i ≤ x.out.length
    · exact .inl h2
    · exact .inr ⟨rfl, fun h3 => absurd h3 (by omega)⟩
  less x h := by omega
  deep h x p := ⟨rfl, fun _ h2 => absurd h2 h⟩
/-! A text's beginning -/
theorem foll_cut {s s' t : Bytes} {lim : Lim} (hs : s = s' ++ t) (hl : (s'.length : Int) ≤ lim.b) : Foll s s' lim lim 0 (fun y => y.err = 9 ∧ y.place = s'.length) where
  byte p hp := by
    rw [hs, List.getD_eq_getElem?_getD, List.getD_eq_getElem?_getD, List.getElem?_append_left hp]
  part p q hq := by rw [hs, List.take_append_of_le_length hq]
  want x p := by
    unfold R5.want
    by_cases h1 : p < s'.length
    · rw [if_pos ⟨h1, by omega⟩, if_pos ⟨by rw [hs, List.length_append]; omega, by omega⟩]
      exact .inl rfl
    · rw [if_neg (by omega), if_neg (by omega)]
      exact .inr ⟨_, rfl, rfl, rfl⟩
  items x p h := .inl h
  less x h := h
  deep h := absurd rfl h

/-! What follows for Decode -/
/-- A reading that went well, by the reader. -/
def Well (s : Bytes) (lim : Lim) (l : List Node) : Prop := ∃ y, R5.elem s lim lim.d.toNat R5.start 0 none = (some s.length, y) ∧ y.out = l ∧ y.err = 0 ∧ y.place = 0
theorem Well.decode {s : Bytes} {lim : Lim} {l : List Node} (hm : lim.may = true) (h : Well s lim l) : R5.decode s lim = (l, 0, 0) := by
  obtain ⟨y, h1, h2, h3, h4⟩ := h
  rw [decode_yes hm]
  unfold R5.read
  rw [h1]
  simp only [Nat.lt_irrefl, if_false]
  rw [h3, h4]
  unfold R5.list
  rw [h3, h2]
  rfl
theorem fail_decode {s : Bytes} {lim : Lim} {y : St} (hm : lim.may = true) (h : R5.elem s lim lim.d.toNat R5.start 0 none = (none, y)) (he : y.err ≠ 0) : R5.decode s lim = ([], y.place, y.err) := by
  rw [decode_yes hm]
  unfold R5.read
  rw [h]
  simp only
  unfold R5.list
  rw [if_neg (by simpa using he)]
theorem decode_more {s : Bytes} {lim more : Lim} (h : (R5.decode s lim).2.2 = 0) (hm : more.may = true) (hd : lim.d ≤ more.d) (hi : lim.i ≤ more.i) (hb : lim.b ≤ more.b) : R5.decode s more = ((R5.decode s lim).1, 0, 0) := by
  obtain ⟨hm0, _, _, _, _, y, h1, h2, h3, h4⟩ := decode_sound h
  have m0 := may_of hm0
  have m1 := may_of hm
  rcases elem_foll (foll_lim s (lim := more) (lim' := lim) (more.d.toNat - lim.d.toNat) hb hi) lim.d.toNat R5.start 0 none with ⟨k, _⟩ | ⟨z, k, _⟩
  · rw [h1, show lim.d.toNat + (more.d.toNat - lim.d.toNat) = more.d.toNat by omega] at k
    exact Well.decode hm ⟨y, k.symm, h2, h3, h4⟩
  · rw [h1] at k; simp at k
theorem decode_just {s : Bytes} {lim : Lim} (h : (R5.decode s lim).2.2 = 0) (r : Int) (hr : 1 ≤ r) (hr2 : r ≤ 4096) :
    R5.decode s ⟨lim.d, ((R5.decode s lim).1.length : Nat), (s.length : Nat), r⟩ = ((R5.decode s lim).1, 0, 0) := by
  obtain ⟨hm0, _, h1, h4, h5, _⟩ := decode_sound h
  have m0 := may_of hm0
  have hpos := h1.pos
  have hsp := h1.bytes
  have hmj : (⟨lim.d, ((R5.decode s lim).1.length : Nat), (s.length : Nat), r⟩ : Lim).may = true := by
    unfold Lim.may
    simp only [Bool.and_eq_true, decide_eq_true_eq]
    omega
  exact decode_of_el (lim := ⟨lim.d, ((R5.decode s lim).1.length : Nat), (s.length : Nat), r⟩) hmj h1 (Int.le_refl _) (Int.le_refl _)
theorem decode_few {s : Bytes} {lim few : Lim} (h : (R5.decode s lim).2.2 = 0) (hm : few.may = true) (hd : few.d = lim.d) (hi : few.i < ((R5.decode s lim).1.length : Nat)) (hb : few.b ≤ lim.b) : (R5.decode s few).2.2 = 10 := by
  obtain ⟨hm0, _, _, h4, _, y, h1, h2, h3, _⟩ := decode_sound h
  rcases elem_foll (foll_lim s (lim := lim) (lim' := few) 0 hb (by omega)) few.d.toNat R5.start 0 none with ⟨k, _⟩ | ⟨z, k, k2, _⟩
  · rw [hd, Nat.add_zero, h1] at k
    exfalso
    have hok := start_ok (s := s) hm
    obtain ⟨l, k2⟩ := elem_sound s few lim.d.toNat R5.start y 0 _ none hok k
    have := k2.ok.out
    rw [h2] at this
    omega
  · rw [fail_decode hm k (by rw [k2]; omega), k2]
theorem decode_less {s : Bytes} {lim less : Lim} (h : (R5.decode s lim).2.2 = 0) (hm : less.may = true) (hd : less.d = lim.d) (hi : less.i = lim.i) (hb : less.b < (s.length : Nat)) : (R5.decode s less).2.2 = 10 ∧ (R5.decode s less).2.1 = less.b := by
  obtain ⟨hm0, _, _, _, h5, y, h1, h2, h3, _⟩ := decode_sound h
  rcases elem_foll (foll_lim s (lim := lim) (lim' := less) 0 (by omega) (by omega)) less.d.toNat R5.start 0 none with ⟨k, _⟩ | ⟨z, k, k2, k3⟩
  · rw [hd, Nat.add_zero, h1] at k
    exfalso
    have hok := start_ok (s := s) hm
    obtain ⟨l, k2⟩ := elem_sound s less lim.d.toNat R5.start y 0 _ none hok k
    have := k2.ok.pb
    omega
  · rw [fail_decode hm k (by rw [k2]; omega)]
    exact ⟨k2, k3 hi rfl⟩
theorem decode_cut {s : Bytes} {lim : Lim} (h : (R5.decode s lim).2.2 = 0) (n : Nat) (hn : n < s.length) : (R5.decode (s.take n) lim).2.2 = 9 ∧ (R5.decode (s.take n) lim).2.1 = n := by
  obtain ⟨hm, _, _, _, h5, y, h1, h2, h3, _⟩ := decode_sound h
  have hl : (s.take n).length = n := by rw [List.length_take]; omega
  rcases elem_foll (foll_cut (s := s) (s' := s.take n) (t := s.drop n) (lim := lim) (List.take_append_drop n s).symm (by rw [hl]; omega)) lim.d.toNat R5.start 0 none with ⟨k, k2⟩ | ⟨z, k, k2, k3⟩
  · exfalso
    rw [Nat.add_zero] at k k2
    have := k2 _ _ h1
    omega
  · rw [fail_decode hm k (by rw [k2]; omega)]
    rw [hl] at k3
    exact ⟨k2, k3⟩
theorem decode_more_byte {s : Bytes} {lim : Lim} (h : (R5.decode s lim).2.2 = 0) (c : UInt8) (hl : (s.length : Int) < lim.b) : (R5.decode (s ++ [c]) lim).2.2 = 9 ∧ (R5.decode (s ++ [c]) lim).2.1 = s.length := by
  obtain ⟨hm, _, _, _, h5, y, h1, h2, h3, _⟩ := decode_sound h
  rcases elem_foll (foll_cut (s := s ++ [c]) (s' := s) (t := [c]) (lim := lim) rfl h5) lim.d.toNat R5.start 0 none with ⟨k, k2⟩ | ⟨z, k, k2, k3⟩
  · rw [h1, Nat.add_zero] at k
    rw [decode_yes hm]
    unfold R5.read
    rw [← k]
    simp only [List.length_append, List.length_singleton, Nat.lt_succ_self, if_true]
    have hw : R5.want (s ++ [c]) lim y s.length = (true, R5.take y (s.length + 1)) := by
      unfold R5.want
      rw [if_pos ⟨by simp, hl⟩]
    rw [hw]
    exact ⟨rfl, rfl⟩
  · rw [h1] at k; simp at k
end Go.Px.E5
