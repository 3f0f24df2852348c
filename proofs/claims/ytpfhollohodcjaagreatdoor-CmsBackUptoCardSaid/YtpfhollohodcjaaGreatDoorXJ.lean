/-
  Several texts in one: Lesser limits, and texts that are cut: the reading is the same, or is refused (plain laws of layer 15). No program is named here. A list has one row of bytes at most; the ways that Encode goes, and what Decode makes of what it tells (plain laws of layer 15). No program is named here. Telling in parts: the sizes from behind, the bytes node by node (plain laws of layer 15). No program is named here. The ways of Encode of layer 15, as the two sides find them (plain laws). No program is named here.
-/
import Derived.Test.YtpfhollohodcjaaGreatDoorXI
/-! Lesser limits, and texts that are cut: the reading is the same, or is refused (plain laws of layer 15). No program is named here. -/
namespace Go.Px.E5
open R5 (St bump inner tagE)

/-- How one reading follows another: the text is the other's beginning, or the limits are lesser. -/
structure Foll (s s' : Bytes) (lim lim' : Lim) (e : Nat) (Bad : St → Prop) : Prop where
  byte : ∀ p, p < s'.length → s'.getD p 0 = s.getD p 0
  part : ∀ p q, q ≤ s'.length → (s'.take q).drop p = (s.take q).drop p
  want : ∀ x p, R5.want s' lim' x p = R5.want s lim x p ∨ ∃ y, R5.want s' lim' x p = (false, y) ∧ Bad y
  items : ∀ (x : St) (p : Nat), lim'.i ≤ x.out.length → lim.i ≤ x.out.length ∨ Bad (R5.fault x p 10)
  less : ∀ x : St, lim.i ≤ x.out.length → lim'.i ≤ x.out.length
  deep : e ≠ 0 → ∀ (x : St) (p : Nat), Bad (R5.fault x p 10)
def Agree (s' : Bytes) (Bad : St → Prop) (r' r : Option Nat × St) : Prop :=
  (r' = r ∧ ∀ q y, r = (some q, y) → q ≤ s'.length) ∨ ∃ y, r' = (none, y) ∧ Bad y
section
variable {s s' : Bytes} {lim lim' : Lim} {e : Nat} {Bad : St → Prop}
theorem want_lt {x y : St} {p : Nat} (h : R5.want s' lim' x p = (true, y)) : p < s'.length := by
  unfold R5.want at h
  split at h
  · rename_i hc; exact hc.1
  · split at h <;> simp at h
theorem lenN_foll (F : Foll s s' lim lim' e Bad) : ∀ (m : Nat) (x : St) (p : Nat) (first : Bool) (n : Nat), p ≤ s'.length →
    (R5.lenN s' lim' m x p first n = R5.lenN s lim m x p first n ∧ ∀ v y, R5.lenN s lim m x p first n = (some v, y) → p + m ≤ s'.length) ∨ ∃ y, R5.lenN s' lim' m x p first n = (none, y) ∧ Bad y
  | 0, x, p, first, n, hp => .inl ⟨rfl, fun _ _ _ => hp⟩
  | m + 1, x, p, first, n, hp => by
    unfold R5.lenN
    rcases F.want x p with h | ⟨y, h, hb⟩
    · rw [← h]
      cases hw : R5.want s' lim' x p with
      | mk b z =>
        cases b
        · exact .inl ⟨rfl, fun v y e => by simp at e⟩
        · have hl := want_lt hw
          simp only
          rw [F.byte p hl]
          by_cases hz : (first && (s.getD p 0).toNat == 0) = true
          · rw [if_pos hz, if_pos hz]
            exact .inl ⟨rfl, fun v y e => by simp at e⟩
          · rw [if_neg hz, if_neg hz]
            rcases lenN_foll F m z (p + 1) false (256 * n + (s.getD p 0).toNat) hl with ⟨k1, k2⟩ | k
            · exact .inl ⟨k1, fun v y e => by have := k2 v y e; omega⟩
            · exact .inr k
    · rw [h]
      exact .inr ⟨y, rfl, hb⟩
theorem length_foll (F : Foll s s' lim lim' e Bad) (x : St) (p : Nat) :
    (R5.length s' lim' x p = R5.length s lim x p ∧ ∀ n q y, R5.length s lim x p = (some (n, q), y) → q ≤ s'.length) ∨ ∃ y, R5.length s' lim' x p = (none, y) ∧ Bad y := by
  unfold R5.length
  rcases F.want x p with h | ⟨y, h, hb⟩
  · rw [← h]
    cases hw : R5.want s' lim' x p with
    | mk b z =>
      cases b
      · exact .inl ⟨rfl, fun n q y e => by simp at e⟩
      · have hl := want_lt hw
        simp only
        rw [F.byte p hl]
        by_cases h8 : (s.getD p 0).toNat < 128
        · rw [if_pos h8, if_pos h8]
          exact .inl ⟨rfl, fun n q y e => by simp only [Prod.mk.injEq, Option.some.injEq] at e; omega⟩
        · rw [if_neg h8, if_neg h8]
          by_cases hk : (s.getD p 0).toNat = 128 ∨ 132 < (s.getD p 0).toNat
          · rw [if_pos hk, if_pos hk]
            exact .inl ⟨rfl, fun n q y e => by simp at e⟩
          · rw [if_neg hk, if_neg hk]
            obtain ⟨w, hwd⟩ : ∃ w, w = (s.getD p 0).toNat % 128 := ⟨_, rfl⟩
            rw [← hwd]
            rcases lenN_foll F w z (p + 1) true 0 hl with ⟨k1, k2⟩ | ⟨y, k, hb⟩
            · rw [k1]
              cases hr : R5.lenN s lim w z (p + 1) true 0 with
              | mk o u =>
                cases o with
                | none => exact .inl ⟨rfl, fun n q y e => by simp at e⟩
                | some v =>
                  have := k2 v u hr
                  simp only
                  by_cases hv : v < 128
                  · rw [if_pos hv]; exact .inl ⟨trivial, fun n q y e => by simp at e⟩
                  · rw [if_neg hv]
                    exact .inl ⟨trivial, fun n q y e => by simp only [Prod.mk.injEq, Option.some.injEq] at e; omega⟩
            · rw [k]
              exact .inr ⟨y, rfl, hb⟩
  · rw [h]
    exact .inr ⟨y, rfl, hb⟩
theorem head_foll (F : Foll s s' lim lim' e Bad) (room' room : Bool) (hroom : room' = room ∨ (room' = false ∧ e ≠ 0)) (x : St) (p : Nat) (en : Option Nat) :
    ((R5.head s' lim' room' x p en = R5.head s lim room x p en ∧ ∀ n q y, R5.head s lim room x p en = (some (n, q), y) → q ≤ s'.length ∧ p < s'.length ∧ (inner (s.getD p 0).toNat = true → room' = true))) ∨ ∃ y, R5.head s' lim' room' x p en = (none, y) ∧ Bad y := by
  unfold R5.head
  rcases F.want x p with h | ⟨y, h, hb⟩
  · rw [← h]
    cases hw : R5.want s' lim' x p with
    | mk b z =>
      cases b
      · exact .inl ⟨rfl, fun n q y e => by simp at e⟩
      · have hl := want_lt hw
        simp only
        rw [F.byte p hl]
        by_cases hi : lim'.i ≤ z.out.length
        · rw [if_pos hi]
          rcases F.items z p hi with hi2 | hb
          · rw [if_pos hi2]
            exact .inl ⟨rfl, fun n q y e => by simp at e⟩
          · exact .inr ⟨_, rfl, hb⟩
        · rw [if_neg hi, if_neg (fun h2 => hi (F.less z h2))]
          by_cases hg : tagE (s.getD p 0).toNat ≠ 0
          · rw [if_pos hg, if_pos hg]
            exact .inl ⟨rfl, fun n q y e => by simp at e⟩
          · rw [if_neg hg, if_neg hg]
            by_cases hf' : (inner (s.getD p 0).toNat && !room') = true
            · rw [if_pos hf']
              rcases hroom with hroom | ⟨_, he⟩
              · rw [hroom] at hf'
                rw [if_pos hf']
                exact .inl ⟨rfl, fun n q y e => by simp at e⟩
              · exact .inr ⟨_, rfl, F.deep he z p⟩
            · rw [if_neg hf']
              have hf : ¬ (inner (s.getD p 0).toNat && !room) = true := by
                intro hh
                simp only [Bool.and_eq_true, Bool.not_eq_true'] at hh hf'
                apply hf'
                refine ⟨hh.1, ?_⟩
                rcases hroom with e1 | ⟨e1, _⟩
                · rw [e1]; exact hh.2
                · exact e1
              have hin : inner (s.getD p 0).toNat = true → room' = true := by
                intro hh
                rw [hh] at hf'
                simpa using hf'
              rw [if_neg hf]
              rcases length_foll F z (p + 1) with ⟨k1, k2⟩ | ⟨y, k, hb⟩
              · rw [k1]
                cases hr : R5.length s lim z (p + 1) with
                | mk o u =>
                  cases o with
                  | none => exact .inl ⟨rfl, fun n q y e => by simp at e⟩
                  | some v =>
                    obtain ⟨n', q'⟩ := v
                    have := k2 n' q' u hr
                    simp only
                    by_cases hv : (en.any (fun v => decide (v < q' + n'))) = true
                    · rw [if_pos hv]; exact .inl ⟨trivial, fun n q y e => by simp at e⟩
                    · rw [if_neg hv]
                      refine .inl ⟨trivial, fun n q y e => ?_⟩
                      simp only [Prod.mk.injEq, Option.some.injEq] at e
                      exact ⟨by omega, hl, hin⟩
              · rw [k]
                exact .inr ⟨y, rfl, hb⟩
  · rw [h]
    exact .inr ⟨y, rfl, hb⟩
theorem leaf_foll (F : Foll s s' lim lim' e Bad) (t : UInt8) (n : Nat) (x : St) (p at_ : Nat) (ha : at_ ≤ s'.length) : Agree s' Bad (R5.leaf s' lim' x t p at_ n) (R5.leaf s lim x t p at_ n) := by
  have fin : ∀ y : St, at_ + n ≤ s'.length → Agree s' Bad (if R5.body t.toNat ((s'.take (at_ + n)).drop at_) then (some (at_ + n), { y with out := y.out ++ [⟨t, -1, (s'.take (at_ + n)).drop at_⟩] }) else (none, R5.fault y p 9))
      (if R5.body t.toNat ((s.take (at_ + n)).drop at_) then (some (at_ + n), { y with out := y.out ++ [⟨t, -1, (s.take (at_ + n)).drop at_⟩] }) else (none, R5.fault y p 9)) := by
    intro y hl
    rw [F.part at_ (at_ + n) hl]
    refine .inl ⟨rfl, fun q y e => ?_⟩
    split at e
    · simp only [Prod.mk.injEq, Option.some.injEq] at e
      omega
    · simp at e
  unfold R5.leaf
  by_cases h0 : n = 0
  · rw [if_pos h0, if_pos h0]
    exact fin x (by omega)
  · rw [if_neg h0, if_neg h0]
    rcases F.want x (at_ + n - 1) with h | ⟨y, h, hb⟩
    · rw [← h]
      cases hw : R5.want s' lim' x (at_ + n - 1) with
      | mk b z =>
        cases b
        · exact .inl ⟨rfl, fun q y e => by simp at e⟩
        · have hl := want_lt hw
          exact fin z (by omega)
    · rw [h]
      exact .inr ⟨y, rfl, hb⟩
theorem inside_foll (F : Foll s s' lim lim' e Bad) {rc rc' : St → Nat → Option Nat × St} (hR : ∀ x p, Agree s' Bad (rc' x p) (rc x p)) (tg me en : Nat) : ∀ (m : Nat) (x : St) (p : Nat) (last : Bytes), p ≤ s'.length → Agree s' Bad (R5.insideN s' rc' tg me en m x p last) (R5.insideN s rc tg me en m x p last)
  | 0, x, p, last, hp => by
    refine .inl ⟨rfl, fun q y h => ?_⟩
    unfold R5.insideN at h
    simp only [Prod.mk.injEq, Option.some.injEq] at h
    omega
  | m + 1, x, p, last, hp => by
    unfold R5.insideN
    by_cases hpe : p < en
    · rw [if_pos hpe, if_pos hpe]
      rcases hR x p with ⟨h, h2⟩ | ⟨y, h, hb⟩
      · rw [h]
        cases hr : rc x p with
        | mk o z =>
          cases o with
          | none => exact .inl ⟨rfl, fun q y e => by simp at e⟩
          | some q =>
            have hq := h2 q z hr
            simp only
            rw [F.part p q hq]
            by_cases hk : (tg == 49 && Op.bytesLess ((s.take q).drop p) last) = true
            · rw [if_pos hk, if_pos hk]
              exact .inl ⟨rfl, fun q y e => by simp at e⟩
            · rw [if_neg hk, if_neg hk]
              exact inside_foll F hR tg me en m _ q _ hq
      · rw [h]
        exact .inr ⟨y, rfl, hb⟩
    · rw [if_neg hpe, if_neg hpe]
      refine .inl ⟨rfl, fun q y h => ?_⟩
      simp only [Prod.mk.injEq, Option.some.injEq] at h
      omega
theorem elem_foll (F : Foll s s' lim lim' e Bad) : ∀ (d : Nat) (x : St) (p : Nat) (en : Option Nat), Agree s' Bad (R5.elem s' lim' d x p en) (R5.elem s lim (d + e) x p en) := by
  have unf : ∀ (s : Bytes) (lim : Lim) (d : Nat) (x : St) (p : Nat) (en : Option Nat), R5.elem s lim d x p en = (match R5.head s lim (decide (d ≠ 0)) x p en with
    | (none, y) => (none, y)
    | (some (n, q), y) => (match d with
      | 0 => R5.leaf s lim y (s.getD p 0) p q n
      | d + 1 => if inner (s.getD p 0).toNat then R5.inside s (fun x p => R5.elem s lim d x p (some (q + n))) y (s.getD p 0) q (q + n) else R5.leaf s lim y (s.getD p 0) p q n)) := by
    intro s lim d x p en
    cases d with
    | zero =>
      conv => lhs; unfold R5.elem
      rw [show decide ((0 : Nat) ≠ 0) = false from rfl]
      cases R5.head s lim false x p en with | mk o y => cases o <;> rfl
    | succ d =>
      conv => lhs; unfold R5.elem
      rw [show decide (d + 1 ≠ 0) = true from decide_eq_true (by omega)]
      cases R5.head s lim true x p en with | mk o y => cases o <;> rfl
  intro d
  induction d with
  | zero =>
    intro x p en
    rw [unf s' lim' 0 x p en, unf s lim (0 + e) x p en]
    rcases head_foll F (decide ((0 : Nat) ≠ 0)) (decide (0 + e ≠ 0)) (by
      by_cases he : e = 0
      · left; rw [he]
      · right; exact ⟨rfl, he⟩) x p en with ⟨h, h2⟩ | ⟨y, h, hb⟩
    · rw [h]
      cases hr : R5.head s lim (decide (0 + e ≠ 0)) x p en with
      | mk o z =>
        cases o with
        | none => exact .inl ⟨rfl, fun q y e => by simp at e⟩
        | some t =>
          obtain ⟨n, q⟩ := t
          obtain ⟨k1, k2, k3⟩ := h2 n q z hr
          have hin : ¬ inner (s.getD p 0).toNat = true := fun hh => by have := k3 hh; simp at this
          simp only
          rw [F.byte p k2, Nat.zero_add]
          cases e with
          | zero => exact leaf_foll F _ n z p q k1
          | succ e =>
            simp only
            rw [if_neg hin]
            exact leaf_foll F _ n z p q k1
    · rw [h]
      exact .inr ⟨y, rfl, hb⟩
  | succ d ih =>
    intro x p en
    rw [show d + 1 + e = d + e + 1 by omega, unf s' lim' (d + 1) x p en, unf s lim (d + e + 1) x p en]
    rcases head_foll F (decide (d + 1 ≠ 0)) (decide (d + e + 1 ≠ 0)) (.inl (by rw [decide_eq_true (by omega), decide_eq_true (by omega)])) x p en with ⟨h, h2⟩ | ⟨y, h, hb⟩
    · rw [h]
      cases hr : R5.head s lim (decide (d + e + 1 ≠ 0)) x p en with
      | mk o z =>
        cases o with
        | none => exact .inl ⟨rfl, fun q y e => by simp at e⟩
        | some t =>
          obtain ⟨n, q⟩ := t
          obtain ⟨k1, k2, _⟩ := h2 n q z hr
          simp only
          rw [F.byte p k2]
          by_cases hin : inner (s.getD p 0).toNat = true
          · rw [if_pos hin, if_pos hin]
            unfold R5.inside
            rcases inside_foll F (rc := fun x p => R5.elem s lim (d + e) x p (some (q + n))) (rc' := fun x p => R5.elem s' lim' d x p (some (q + n))) (fun x p => ih x p (some (q + n))) (s.getD p 0).toNat z.out.length (q + n) (q + n - q)
              { z with out := z.out ++ [⟨s.getD p 0, 0, []⟩], frames := z.frames + 1 } q [] k1 with ⟨j1, j2⟩ | ⟨y, j, hb⟩
            · rw [j1]
              cases hr2 : R5.insideN s (fun x p => R5.elem s lim (d + e) x p (some (q + n))) (s.getD p 0).toNat z.out.length (q + n) (q + n - q) { z with out := z.out ++ [⟨s.getD p 0, 0, []⟩], frames := z.frames + 1 } q [] with
              | mk o2 u =>
                cases o2 with
                | none => exact .inl ⟨rfl, fun q y e => by simp at e⟩
                | some r =>
                  refine .inl ⟨rfl, fun q y e => ?_⟩
                  simp only [Prod.mk.injEq, Option.some.injEq] at e
                  rw [← e.1]
                  exact j2 r u hr2
            · rw [j]
              exact .inr ⟨y, rfl, hb⟩
          · rw [if_neg hin, if_neg hin]
            exact leaf_foll F _ n z p q k1
    · rw [h]
      exact .inr ⟨y, rfl, hb⟩
end

/-! Lesser limits -/
theorem foll_lim (s : Bytes) {lim lim' : Lim} (e : Nat) (hb : lim'.b ≤ lim.b) (hi : lim'.i ≤ lim.i) : Foll s s lim lim' e (fun y => y.err = 10 ∧ (lim'.i = lim.i → e = 0 → y.place = lim'.b)) where
  byte _ _ := rfl
  part _ _ _ := rfl
  want x p := by
    unfold R5.want
    by_cases h1 : p < s.length ∧ (p : Int) < lim'.b
    · rw [if_pos h1, if_pos ⟨h1.1, by omega⟩]
      exact .inl rfl
    · rw [if_neg h1]
      by_cases h2 : lim'.b < s.length
      · rw [if_pos h2]
        exact .inr ⟨_, rfl, rfl, fun _ _ => rfl⟩
      · rw [if_neg h2, if_neg (by omega), if_neg (by omega)]
        exact .inl rfl
  items x p h := by
    by_cases h2 : lim.i ≤ x.out.length
    · exact .inl h2
    · exact .inr ⟨rfl, fun h3 => absurd h3 (by omega)⟩
  less x h := by omega
  deep h x p := ⟨rfl, fun _ h2 => absurd h2 h⟩
/-! What follows for Decode -/
/-- A reading that went well, by the reader. -/
def Well (s : Bytes) (lim : Lim) (l : List Node) : Prop := ∃ y, R5.elem s lim lim.d.toNat R5.start 0 none = (some s.length, y) ∧ y.out = l ∧ y.err = 0 ∧ y.place = 0
theorem Well.decode {s : Bytes} {lim : Lim} {l : List Node} (hm : lim.may = true) (h : Well s lim l) : R5.decode s lim = (l, 0, 0) := by
  obtain ⟨y, h1, h2, h3, h4⟩ := h
  rw [decode_yes hm]
  unfold R5.read
  rw [h1]
  simp only [Nat.lt_irrefl, if_false]
  rw [h3, h4]
  unfold R5.list
  rw [h3, h2]
  rfl
theorem decode_more {s : Bytes} {lim more : Lim} (h : (R5.decode s lim).2.2 = 0) (hm : more.may = true) (hd : lim.d ≤ more.d) (hi : lim.i ≤ more.i) (hb : lim.b ≤ more.b) : R5.decode s more = ((R5.decode s lim).1, 0, 0) := by
  obtain ⟨hm0, _, _, _, _, y, h1, h2, h3, h4⟩ := decode_sound h
  have m0 := may_of hm0
  have m1 := may_of hm
  rcases elem_foll (foll_lim s (lim := more) (lim' := lim) (more.d.toNat - lim.d.toNat) hb hi) lim.d.toNat R5.start 0 none with ⟨k, _⟩ | ⟨z, k, _⟩
  · rw [h1, show lim.d.toNat + (more.d.toNat - lim.d.toNat) = more.d.toNat by omega] at k
    exact Well.decode hm ⟨y, k.symm, h2, h3, h4⟩
  · rw [h1] at k; simp at k
end Go.Px.E5

/-! A list has one row of bytes at most; the ways that Encode goes, and what Decode makes of what it tells (plain laws of layer 15). No program is named here. -/
namespace Go.Px.E5
def Det (R : List Node → Bytes → Bool → Prop) : Prop := ∀ x x' b b' o o' r r', R x b o → R x' b' o' → x ++ r = x' ++ r' → x = x' ∧ r = r' ∧ b = b' ∧ o = o'
theorem kids_det {R : List Node → Bytes → Bool → Prop} (hR : Det R) (set : Bool) : ∀ (n : Nat) (last : Bytes) (l l' : List Node) (b b' : Bytes) (o o' : Bool) (r r' : List Node), Kids R set n last l b o → Kids R set n last l' b' o' → l ++ r = l' ++ r' → l = l' ∧ r = r' ∧ b = b' ∧ o = o'
  | 0, _, _, _, _, _, _, _, _, _, ⟨h1, h2, h3⟩, ⟨k1, k2, k3⟩, e => by
    subst h1 h2 h3 k1 k2 k3
    exact ⟨rfl, e, rfl, rfl⟩
  | n + 1, last, _, _, _, _, _, _, r, r', ⟨x, t, bx, bt, o1, o2, h1, h2, h3, h4, h5⟩, ⟨x', t', bx', bt', o1', o2', k1, k2, k3, k4, k5⟩, e => by
    subst h1 h2 h5 k1 k2 k5
    rw [List.append_assoc, List.append_assoc] at e
    obtain ⟨rfl, e2, rfl, rfl⟩ := hR _ _ _ _ _ _ _ _ h3 k3 e
    obtain ⟨rfl, rfl, rfl, rfl⟩ := kids_det hR set n _ _ _ _ _ _ _ _ _ h4 k4 e2
    exact ⟨rfl, rfl, rfl, rfl⟩
theorem el_det : ∀ d, Det (El d) := by
  have one : ∀ (a a' : Node) (r r' : List Node), [a] ++ r = [a'] ++ r' → a = a' ∧ r = r' := fun a a' r r' e => by
    simp only [List.singleton_append, List.cons.injEq] at e
    exact e
  intro d
  induction d with
  | zero =>
    intro x x' b b' o o' r r' ⟨a, h1, h2, h3, h4, h5⟩ ⟨a', k1, k2, k3, k4, k5⟩ e
    subst h1 h4 h5 k1 k4 k5
    obtain ⟨rfl, rfl⟩ := one _ _ _ _ e
    exact ⟨rfl, rfl, rfl, rfl⟩
  | succ d ih =>
    intro x x' b b' o o' r r' h k e
    rcases h with ⟨a, h1, h2, h3, h4, h5⟩ | ⟨a, t, bt, h1, h2, h3, h4, h5⟩
    · rcases k with ⟨a', k1, k2, k3, k4, k5⟩ | ⟨a', t', bt', k1, k2, k3, k4, k5⟩
      · subst h1 h4 h5 k1 k4 k5
        obtain ⟨rfl, rfl⟩ := one _ _ _ _ e
        exact ⟨rfl, rfl, rfl, rfl⟩
      · subst h1 k1
        simp only [List.cons_append, List.cons.injEq] at e
        rw [← e.1, h3] at k3
        cases k3
    · rcases k with ⟨a', k1, k2, k3, k4, k5⟩ | ⟨a', t', bt', k1, k2, k3, k4, k5⟩
      · subst h1 k1
        simp only [List.cons_append, List.cons.injEq] at e
        rw [e.1, k3] at h3
        cases h3
      · subst h1 h5 k1 k5
        simp only [List.cons_append, List.cons.injEq] at e
        obtain ⟨rfl, e2⟩ := e
        obtain ⟨rfl, rfl, rfl, rfl⟩ := kids_det ih _ _ _ _ _ _ _ _ _ _ _ h4 k4 e2
        exact ⟨rfl, rfl, rfl, rfl⟩
/-- One list, one row of bytes. -/
theorem El.det {d d' : Nat} {l : List Node} {b b' : Bytes} {o o' : Bool} (h : El d l b o) (k : El d' l b' o') : b = b' ∧ o = o' := by
  obtain ⟨_, _, h1, h2⟩ := el_det (max d d') l l b b' o o' [] [] (h.mono (Nat.le_max_left _ _)) (k.mono (Nat.le_max_right _ _)) rfl
  exact ⟨h1, h2⟩

def encLim : Lim := ⟨32, 4096, 262144, 1⟩
theorem encLim_may : encLim.may = true := by decide
/-- The ways that Encode goes. -/
inductive Enc (l : List Node) : Bytes × Int → Prop
  | many : 4096 < l.length → Enc l ([], 10)
  | form : l.length ≤ 4096 → (∀ d b o, ¬ El d l b o) → Enc l ([], 9)
  | deep (m : Nat) : l.length ≤ 4096 → shape true l [] 0 = some (m, []) → l ≠ [] → 32 < m → Enc l ([], 10)
  | long (b : Bytes) (o : Bool) : l.length ≤ 4096 → El 32 l b o → 262144 < b.length → Enc l ([], 10)
  | out (b : Bytes) : l.length ≤ 4096 → El 32 l b true → b.length ≤ 262144 → Enc l ([], 9)
  | ok (b : Bytes) : l.length ≤ 4096 → El 32 l b false → b.length ≤ 262144 → Enc l (b, 0)
theorem el_shape {d : Nat} {l : List Node} {b : Bytes} {o : Bool} {m : Nat} (h : El d l b o) (hs : shape true l [] 0 = some (m, [])) : m ≤ d := by
  obtain ⟨m', h1, h2, _⟩ := shape_of_el h
  rw [hs] at h1
  simp only [Option.some.injEq, Prod.mk.injEq, and_true] at h1
  omega
theorem Enc.det {l : List Node} {r r' : Bytes × Int} (h : Enc l r) (k : Enc l r') : r = r' := by
  have ex : ∀ {m : Nat}, shape true l [] 0 = some (m, []) → l ≠ [] → (∀ d b o, ¬ El d l b o) → False := fun hs hn hno => by
    obtain ⟨b, o, h⟩ := el_of_shape hn hs (Nat.le_refl _)
    exact hno _ _ _ h
  cases h with
  | many h1 => cases k <;> first | rfl | (exfalso; omega)
  | form h1 h2 =>
    cases k with
    | many => exfalso; omega
    | form => rfl
    | deep m k1 k2 k3 k4 => exact (ex k2 k3 h2).elim
    | long b o k1 k2 k3 => exact (h2 _ _ _ k2).elim
    | out b k1 k2 k3 => rfl
    | ok b k1 k2 k3 => exact (h2 _ _ _ k2).elim
  | deep m h1 h2 h3 h4 =>
    cases k with
    | many => rfl
    | form k1 k2 => exact (ex h2 h3 k2).elim
    | deep => rfl
    | long => rfl
    | out b k1 k2 k3 => have := el_shape k2 h2; exfalso; omega
    | ok b k1 k2 k3 => have := el_shape k2 h2; exfalso; omega
  | long b o h1 h2 h3 =>
    cases k with
    | many => rfl
    | form k1 k2 => exact (k2 _ _ _ h2).elim
    | deep => rfl
    | long => rfl
    | out b' k1 k2 k3 => obtain ⟨rfl, _⟩ := h2.det k2; exfalso; omega
    | ok b' k1 k2 k3 => obtain ⟨rfl, _⟩ := h2.det k2; exfalso; omega
  | out b h1 h2 h3 =>
    cases k with
    | many => exfalso; omega
    | form => rfl
    | deep m k1 k2 k3 k4 => have := el_shape h2 k2; exfalso; omega
    | long b' o k1 k2 k3 => obtain ⟨rfl, _⟩ := h2.det k2; exfalso; omega
    | out => rfl
    | ok b' k1 k2 k3 => obtain ⟨_, e⟩ := h2.det k2; cases e
  | ok b h1 h2 h3 =>
    cases k with
    | many => exfalso; omega
    | form k1 k2 => exact (k2 _ _ _ h2).elim
    | deep m k1 k2 k3 k4 => have := el_shape h2 k2; exfalso; omega
    | long b' o k1 k2 k3 => obtain ⟨rfl, _⟩ := h2.det k2; exfalso; omega
    | out b' k1 k2 k3 => obtain ⟨_, e⟩ := h2.det k2; cases e
    | ok b' k1 k2 k3 => obtain ⟨rfl, _⟩ := h2.det k2; rfl
/-- What is told is read. -/
theorem Enc.back {l : List Node} {b : Bytes} {e : Int} (h : Enc l (b, e)) (he : e = 0) (lim : Lim) (hm : lim.may = true) (hd : lim.d = 32) (hi : lim.i = 4096) (hb : lim.b = 262144) : R5.decode b lim = (l, 0, 0) := by
  subst he
  cases h with
  | ok _ h1 h2 h3 =>
    have hd' : lim.d.toNat = 32 := by rw [hd]; rfl
    exact decode_of_el hm (by rw [hd']; exact h2) (by omega) (by omega)
theorem Enc.fail {l : List Node} {b : Bytes} {e : Int} (h : Enc l (b, e)) (he : e ≠ 0) : b = [] := by
  cases h <;> first | rfl | exact absurd rfl he
/-- What is read is told. -/
theorem enc_of_decode {s : Bytes} {lim : Lim} (h : (R5.decode s lim).2.2 = 0) : Enc (R5.decode s lim).1 (s, 0) := by
  obtain ⟨hm, _, h1, h2, h3, _⟩ := decode_sound h
  have hmay := may_of hm
  exact .ok s (by omega) (h1.mono (by omega)) (by omega)
end Go.Px.E5

/-! Telling in parts: the sizes from behind, the bytes node by node (plain laws of layer 15). No program is named here. -/
namespace Go.Px.E5

/-- How many bytes tag and length take. -/
def headN (n : Nat) : Nat := 1 + (lenB n).length
/-- How many digits a number has. -/
def dgN : Nat → Nat → Nat
  | 0, _ => 0
  | m + 1, n => if n = 0 then 0 else 1 + dgN m (n / 256)
theorem beN_dg : ∀ (m n : Nat) (s : Bytes), (beN m n s).length = s.length + dgN m n
  | 0, n, s => rfl
  | m + 1, n, s => by
    unfold beN dgN
    by_cases h : n = 0
    · rw [if_pos h, if_pos h]; rfl
    · rw [if_neg h, if_neg h, beN_dg m]
      simp only [List.length_cons]
      omega
theorem dgN_le : ∀ (m n : Nat), dgN m n ≤ m
  | 0, _ => Nat.le_refl _
  | m + 1, n => by
    unfold dgN
    split
    · omega
    · have := dgN_le m (n / 256); omega
theorem dgN_more : ∀ (m n : Nat), n < 256 ^ m → dgN (m + 1) n = dgN m n
  | 0, n, h => by
    have : n = 0 := by simpa using h
    subst this
    rfl
  | m + 1, n, h => by
    conv => lhs; unfold dgN
    conv => rhs; unfold dgN
    by_cases h0 : n = 0
    · rw [if_pos h0, if_pos h0]
    · rw [if_neg h0, if_neg h0, dgN_more m (n / 256) (by rw [Nat.pow_succ] at h; omega)]
theorem lenB_length (n : Nat) : (lenB n).length = if n < 128 then 1 else 1 + dgN 8 n := by
  unfold lenB
  by_cases h : n < 128
  · rw [if_pos h, if_pos h]; rfl
  · rw [if_neg h, if_neg h, List.length_cons, beN_dg]
    simp only [List.length_nil]
    omega
theorem lenB_le (n : Nat) : (lenB n).length ≤ 9 := by
  rw [lenB_length]
  have := dgN_le 8 n
  split <;> omega
/-- The digits, the greatest first. -/
def beD : Nat → Nat → Bytes
  | 0, _ => []
  | w + 1, n => UInt8.ofNat (n / 256 ^ w % 256) :: beD w n
theorem beD_last : ∀ (w n : Nat), beD (w + 1) n = beD w (n / 256) ++ [UInt8.ofNat (n % 256)]
  | 0, n => by simp [beD]
  | w + 1, n => by
    rw [show beD (w + 1 + 1) n = UInt8.ofNat (n / 256 ^ (w + 1) % 256) :: beD (w + 1) n from rfl, beD_last w n]
    rw [show beD (w + 1) (n / 256) = UInt8.ofNat (n / 256 / 256 ^ w % 256) :: beD w (n / 256) from rfl, List.cons_append, Nat.div_div_eq_div_mul, Nat.pow_succ, Nat.mul_comm]
theorem beN_beD : ∀ (m n : Nat) (s : Bytes), beN m n s = beD (dgN m n) n ++ s
  | 0, n, s => rfl
  | m + 1, n, s => by
    unfold beN dgN
    by_cases h : n = 0
    · rw [if_pos h, if_pos h]; rfl
    · rw [if_neg h, if_neg h, beN_beD m, Nat.add_comm 1, beD_last, List.append_assoc]
      rfl
/-- Sizes of bodies, and of whole elements that wait, from behind. -/
def szR : List Node → List Nat × List Nat
  | [] => ([], [])
  | a :: r => ((a.body.length + ((szR r).2.take (count a)).sum) :: (szR r).1, (a.body.length + ((szR r).2.take (count a)).sum + headN (a.body.length + ((szR r).2.take (count a)).sum)) :: (szR r).2.drop (count a))
def emit : List Node → List Nat → Bytes
  | a :: r, k :: ks => (a.tag :: (lenB k ++ a.body)) ++ emit r ks
  | _, _ => []
theorem szR_cons (a : Node) (r : List Node) : szR (a :: r) = ((a.body.length + ((szR r).2.take (count a)).sum) :: (szR r).1, (a.body.length + ((szR r).2.take (count a)).sum + headN (a.body.length + ((szR r).2.take (count a)).sum)) :: (szR r).2.drop (count a)) := rfl
theorem emit_cons (a : Node) (r : List Node) (k : Nat) (ks : List Nat) : emit (a :: r) (k :: ks) = (a.tag :: (lenB k ++ a.body)) ++ emit r ks := rfl
theorem szR_len : ∀ (l : List Node), (szR l).1.length = l.length
  | [] => rfl
  | a :: r => by simp [szR, szR_len r]
theorem wrap_size (t : UInt8) (b : Bytes) : (wrap t b).length = b.length + headN b.length := by
  unfold wrap headN
  simp only [List.length_cons, List.length_append]
  omega
theorem count_leaf {a : Node} (h : leaf a = true) : count a = 0 := by
  unfold leaf at h
  unfold count
  simp only [decide_eq_true_eq] at h
  omega
structure Em (x : List Node) (b : Bytes) (v : List Nat) (r : List Node) (u : List Nat) : Prop where
  one : (szR (x ++ r)).1 = u ++ (szR r).1
  two : (szR (x ++ r)).2 = v ++ (szR r).2
  len : u.length = x.length
  sum : v.sum = b.length
  le : ∀ n ∈ u, n ≤ b.length
  em : ∀ ks, emit (x ++ r) (u ++ ks) = b ++ emit r ks
  cnt : ∀ p a t, x = p ++ a :: t → count a ≤ (szR (t ++ r)).2.length
  lo : (x.map (fun a => a.body.length)).sum ≤ b.length
  hi : b.length ≤ (x.map (fun a => a.body.length)).sum + 10 * x.length
theorem em_one {a : Node} (h2 : leaf a = true) (r : List Node) : Em [a] (wrap a.tag a.body) [(wrap a.tag a.body).length] r [a.body.length] := by
  have hc := count_leaf h2
  refine ⟨?_, ?_, rfl, by simp, ?_, ?_, ?_, ?_, ?_⟩
  · simp [szR, hc]
  · simp [szR, hc, wrap_size]
  · intro n hn
    rw [List.mem_singleton.1 hn, wrap_size]
    omega
  · intro ks
    simp [emit, wrap]
  · intro p a' t e
    cases p with
    | nil => simp only [List.nil_append, List.cons.injEq] at e; rw [← e.1, hc]; omega
    | cons c p => simp only [List.cons_append, List.cons.injEq] at e; have := congrArg List.length e.2; simp at this
  · rw [wrap_size]; simp
  · rw [wrap_size]
    have := lenB_le a.body.length
    unfold headN
    simp only [List.map_cons, List.map_nil, List.sum_cons, List.sum_nil, List.length_cons, List.length_nil]
    omega
theorem em_kids {R : List Node → Bytes → Bool → Prop} (hR : ∀ x b o, R x b o → ∀ r, ∃ u, Em x b [b.length] r u) (set : Bool) : ∀ (m : Nat) (last : Bytes) (l : List Node) (b : Bytes) (o : Bool), Kids R set m last l b o → ∀ r, ∃ u v, Em l b v r u ∧ v.length = m
  | 0, last, l, b, o, ⟨h1, h2, h3⟩, r => by
    subst h1 h2
    exact ⟨[], [], ⟨rfl, rfl, rfl, rfl, nofun, fun _ => rfl, fun p a t e => by have := congrArg List.length e; simp at this, Nat.le_refl _, Nat.le_refl _⟩, rfl⟩
  | m + 1, last, l, b, o, ⟨x, t, bx, bt, o1, o2, h1, h2, h3, h4, h5⟩, r => by
    subst h1 h2
    obtain ⟨u2, v2, g, gl⟩ := em_kids hR set m _ _ _ _ h4 r
    obtain ⟨u1, f⟩ := hR _ _ _ h3 (t ++ r)
    refine ⟨u1 ++ u2, bx.length :: v2, ⟨?_, ?_, ?_, ?_, ?_, ?_, ?_, ?_, ?_⟩, by simp [gl]⟩
    · rw [List.append_assoc, f.one, g.one, List.append_assoc]
    · rw [List.append_assoc, f.two, g.two]; rfl
    · rw [List.length_append, List.length_append, f.len, g.len]
    · rw [List.sum_cons, g.sum, List.length_append]
    · intro n hn
      rw [List.length_append]
      rcases List.mem_append.1 hn with hn | hn
      · have := f.le n hn; omega
      · have := g.le n hn; omega
    · intro ks
      rw [List.append_assoc, List.append_assoc, f.em, g.em, List.append_assoc]
    · intro p a q e
      rcases List.append_eq_append_iff.1 e with ⟨zs, h1, h2⟩ | ⟨bs, h1, h2⟩
      · exact g.cnt zs a q h2
      · cases bs with
        | nil =>
          simp only [List.nil_append] at h2
          exact g.cnt [] a q h2.symm
        | cons c bs =>
          simp only [List.cons_append, List.cons.injEq] at h2
          obtain ⟨rfl, h3⟩ := h2
          subst h3
          have := f.cnt p a bs h1
          rw [List.append_assoc]
          exact this
    · have := f.lo
      have := g.lo
      rw [List.map_append, List.sum_append, List.length_append]
      omega
    · have := f.hi
      have := g.hi
      rw [List.map_append, List.sum_append, List.length_append, List.length_append]
      omega
theorem El.em : ∀ (d : Nat) (x : List Node) (b : Bytes) (o : Bool), El d x b o → ∀ r, ∃ u, Em x b [b.length] r u := by
  have one : ∀ (a : Node) (b : Bytes), leaf a = true → b = wrap a.tag a.body → ∀ r, ∃ u, Em [a] b [b.length] r u := fun a b h e r => by
    subst e
    exact ⟨_, em_one h r⟩
  intro d
  induction d with
  | zero =>
    intro x b o ⟨a, h1, h2, h3, h4, h5⟩ r
    subst h1
    exact one a b h3 h4 r
  | succ d ih =>
    intro x b o h r
    rcases h with ⟨a, h1, h2, h3, h4, h5⟩ | ⟨a, t, bt, h1, h2, h3, h4, h5⟩
    · subst h1
      exact one a b h3 h4 r
    · subst h1 h5
      obtain ⟨u, v, g, gl⟩ := em_kids ih _ _ _ _ _ _ h4 r
      have hbd : a.body = [] := (leaf_inner h2).2.2.2 h3 |>.1
      have hn : a.body.length + ((szR (t ++ r)).2.take (count a)).sum = bt.length := by
        rw [hbd, g.two, ← gl, List.take_left, g.sum]
        simp
      refine ⟨bt.length :: u, ⟨?_, ?_, ?_, by simp, ?_, ?_, ?_, ?_, ?_⟩⟩
      · rw [List.cons_append, szR_cons, hn, List.cons_append, ← g.one]
      · rw [List.cons_append, szR_cons, hn, wrap_size, g.two, ← gl, List.drop_left]
        rfl
      · simp [g.len]
      · intro n hn2
        rw [wrap_size]
        rcases List.mem_cons.1 hn2 with rfl | hn2
        · omega
        · have := g.le n hn2; omega
      · intro ks
        rw [List.cons_append, List.cons_append, emit_cons, g.em, hbd]
        simp [wrap]
      · intro p c q e
        cases p with
        | nil =>
          simp only [List.nil_append, List.cons.injEq] at e
          rw [← e.1, ← e.2, g.two, List.length_append]
          omega
        | cons c' p =>
          simp only [List.cons_append, List.cons.injEq] at e
          exact g.cnt p c q e.2
      · rw [wrap_size]
        have := g.lo
        simp only [List.map_cons, List.sum_cons]
        rw [hbd]
        simp only [List.length_nil]
        omega
      · rw [wrap_size]
        have := g.hi
        have := lenB_le bt.length
        unfold headN
        simp only [List.map_cons, List.sum_cons, List.length_cons]
        omega
/-- Of one whole list. -/
theorem El.whole {d : Nat} {l : List Node} {b : Bytes} {o : Bool} (h : El d l b o) :
    (szR l).2 = [b.length] ∧ emit l (szR l).1 = b ∧ (∀ n ∈ (szR l).1, n ≤ b.length) ∧ (∀ p a t, l = p ++ a :: t → count a ≤ (szR t).2.length) ∧ (l.map (fun a => a.body.length)).sum ≤ b.length ∧ b.length ≤ (l.map (fun a => a.body.length)).sum + 10 * l.length := by
  obtain ⟨u, g⟩ := El.em d l b o h []
  have e1 := g.one
  have e2 := g.two
  rw [List.append_nil] at e1 e2
  have e1' : (szR l).1 = u := by rw [e1]; simp [szR]
  refine ⟨by rw [e2]; simp [szR], ?_, ?_, ?_, g.lo, g.hi⟩
  · have := g.em []
    rw [List.append_nil, List.append_nil] at this
    rw [e1', this]
    simp [emit]
  · rw [e1']; exact g.le
  · intro p a t e
    have := g.cnt p a t e
    rw [List.append_nil] at this
    exact this
end Go.Px.E5

/-! The ways of Encode of layer 15, as the two sides find them (plain laws). No program is named here. -/
namespace Go.Px.E5

theorem enc_shape {l : List Node} (hl : l.length ≤ 4096) (h : l = [] ∨ shape true l [] 0 = none ∨ ∃ m c r, shape true l [] 0 = some (m, c :: r)) : Enc l ([], 9) := by
  refine .form hl fun d b o he => ?_
  obtain ⟨m, h1, _, h3⟩ := shape_of_el he
  rcases h with h | h | ⟨m', c, r, h⟩
  · exact h3 h
  · rw [h1] at h; cases h
  · rw [h1] at h; simp at h
end Go.Px.E5
