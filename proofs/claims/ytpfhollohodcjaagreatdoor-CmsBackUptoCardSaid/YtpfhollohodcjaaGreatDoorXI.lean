/-
  Several texts in one: What is read is told: an element that the reference reads is one right element, and its bytes are those that stand there (plain law, layer 15). No program is named here.
-/
import Derived.Test.YtpfhollohodcjaaGreatDoorXH
/-! What is read is told: an element that the reference reads is one right element, and its bytes are those that stand there (plain law, layer 15). No program is named here. -/
namespace Go.Px.E5
open R5 (St bump inner tagE)
open D5 (Ok)
theorem drop_take_self (s : Bytes) (p : Nat) : (s.take p).drop p = [] := List.drop_eq_nil_of_le (by rw [List.length_take]; omega)
theorem drop_take_cons {s : Bytes} {p q : Nat} (h : p < s.length) (hq : p < q) : (s.take q).drop p = s.getD p 0 :: (s.take q).drop (p + 1) := by
  rw [List.drop_eq_getElem_cons (by rw [List.length_take]; omega), List.getElem_take, List.getD_eq_getElem?_getD, List.getElem?_eq_getElem h]
  rfl
theorem take_split {s : Bytes} {p q r : Nat} (h1 : p ≤ q) (h2 : q ≤ r) : (s.take r).drop p = (s.take q).drop p ++ (s.take r).drop q := by
  have e : (s.take r).drop q = ((s.take r).drop p).drop (q - p) := by rw [List.drop_drop]; congr 1; omega
  have e2 : (s.take q).drop p = ((s.take r).drop p).take (q - p) := by
    rw [List.drop_take, List.drop_take, List.take_take]; congr 1; omega
  rw [e, e2, List.take_append_drop]
theorem part_len {s : Bytes} {p q : Nat} (h : q ≤ s.length) : ((s.take q).drop p).length = q - p := by
  rw [List.length_drop, List.length_take]
  omega
theorem val_le : ∀ (l : Bytes) (a : Nat), a ≤ val l a
  | [], a => Nat.le_refl a
  | c :: r, a => by
    have := val_le r (256 * a + c.toNat)
    show a ≤ val r (256 * a + c.toNat)
    omega
theorem val_app : ∀ (l : Bytes) (c : UInt8) (a : Nat), val (l ++ [c]) a = 256 * val l a + c.toNat
  | [], _, _ => rfl
  | d :: r, c, a => val_app r c (256 * a + d.toNat)
theorem beN_of : ∀ (m : Nat) (L s : Bytes), L.length ≤ m → (∀ c r, L = c :: r → c.toNat ≠ 0) → beN m (val L 0) s = L ++ s
  | 0, L, s, h, _ => by
    have : L = [] := List.length_eq_zero_iff.1 (by omega)
    subst this
    rfl
  | m + 1, L, s, h, hc => by
    rcases List.eq_nil_or_concat L with rfl | ⟨L', c, e⟩
    · exact beN_zero _ _
    · rw [List.concat_eq_append] at e
      subst e
      have hnz : val (L' ++ [c]) 0 ≠ 0 := by
        cases L' with
        | nil =>
          have := hc c [] rfl
          show 256 * 0 + c.toNat ≠ 0
          omega
        | cons c' r' =>
          have h1 := hc c' (r' ++ [c]) rfl
          have h2 := val_le (r' ++ [c]) (256 * 0 + c'.toNat)
          show val (r' ++ [c]) (256 * 0 + c'.toNat) ≠ 0
          omega
      have hlt : c.toNat < 256 := c.toNat_lt
      unfold beN
      rw [if_neg hnz, val_app]
      have e1 : (256 * val L' 0 + c.toNat) / 256 = val L' 0 := by omega
      have e2 : (256 * val L' 0 + c.toNat) % 256 = c.toNat := by omega
      rw [e1, e2, UInt8.ofNat_toNat, beN_of m L' (c :: s) (by rw [List.length_append, List.length_singleton] at h; omega) (fun c' r' e => hc c' (r' ++ [c]) (by rw [e]; rfl)), List.append_assoc]
      rfl
theorem lenN_sound (s : Bytes) (lim : Lim) : ∀ (m : Nat) (x y : St) (p : Nat) (first : Bool) (a v : Nat), R5.lenN s lim m x p first a = (some v, y) → x.taken = p → p ≤ s.length → (p : Int) ≤ lim.b →
    v = val ((s.take (p + m)).drop p) a ∧ (first = true → ∀ c r, (s.take (p + m)).drop p = c :: r → c.toNat ≠ 0)
  | 0, x, y, p, first, a, v, h, _, _, _ => by
    unfold R5.lenN at h
    simp only [Prod.mk.injEq, Option.some.injEq] at h
    rw [Nat.add_zero, drop_take_self]
    exact ⟨h.1.symm, fun _ c r e => by cases e⟩
  | m + 1, x, y, p, first, a, v, h, ht, hp, hb => by
    unfold R5.lenN at h
    cases hw : R5.want s lim x p with
    | mk b z =>
      rw [hw] at h
      cases b with
      | false => simp at h
      | true =>
        obtain ⟨_, k2, k3, k4⟩ := D5.want_ok hw (Nat.le_of_eq ht)
        simp only at h
        by_cases hz : (first && (s.getD p 0).toNat == 0) = true
        · rw [if_pos hz] at h; simp at h
        · rw [if_neg hz] at h
          have ih := lenN_sound s lim m z y (p + 1) false _ v h (by rw [k4]) k2 (by omega)
          rw [drop_take_cons k2 (show p < p + (m + 1) by omega), show p + (m + 1) = p + 1 + m by omega]
          refine ⟨ih.1, fun hf c r e => ?_⟩
          simp only [List.cons.injEq] at e
          rw [← e.1]
          rw [hf, Bool.true_and] at hz
          simpa using hz
theorem length_sound {s : Bytes} {lim : Lim} {x y : St} {p n q : Nat} (h : R5.length s lim x p = (some (n, q), y)) (ht : x.taken = p) : (s.take q).drop p = lenB n := by
  have hq := D5.length_eq (s := s) (lim := lim) (x := x) (p := p) ht
  rw [h] at hq
  obtain ⟨_, _, hq1, hq2, hq3, _⟩ := hq
  unfold R5.length at h
  cases hw : R5.want s lim x p with
  | mk b z =>
    rw [hw] at h
    cases b with
    | false => simp at h
    | true =>
      obtain ⟨_, k2, k3, k4⟩ := D5.want_ok hw (Nat.le_of_eq ht)
      simp only at h
      unfold lenB
      by_cases h8 : (s.getD p 0).toNat < 128
      · rw [if_pos h8] at h
        simp only [Prod.mk.injEq, Option.some.injEq] at h
        rw [← h.1.1, ← h.1.2, if_pos h8, drop_take_cons k2 (Nat.lt_succ_self p), drop_take_self, UInt8.ofNat_toNat]
      · rw [if_neg h8] at h
        obtain ⟨w, hwd⟩ : ∃ w, w = (s.getD p 0).toNat := ⟨_, rfl⟩
        rw [← hwd] at h h8
        have hw256 : w < 256 := by rw [hwd]; exact (s.getD p 0).toNat_lt
        by_cases hk : w = 128 ∨ 132 < w
        · rw [if_pos hk] at h; simp at h
        · rw [if_neg hk] at h
          cases hl : R5.lenN s lim (w % 128) z (p + 1) true 0 with
          | mk o u =>
            rw [hl] at h
            cases o with
            | none => simp at h
            | some v =>
              simp only at h
              by_cases hv : v < 128
              · rw [if_pos hv] at h; simp at h
              · rw [if_neg hv] at h
                simp only [Prod.mk.injEq, Option.some.injEq] at h
                obtain ⟨⟨rfl, rfl⟩, _⟩ := h
                obtain ⟨j1, j2⟩ := lenN_sound s lim (w % 128) z u (p + 1) true 0 v hl (by rw [k4]) k2 (by omega)
                have hL := beN_of 8 ((s.take (p + 1 + w % 128)).drop (p + 1)) [] (by rw [part_len hq1]; omega) (j2 rfl)
                rw [← j1, List.append_nil] at hL
                rw [if_neg hv, drop_take_cons k2 (by omega), hL, part_len hq1]
                have e : UInt8.ofNat (128 + (p + 1 + w % 128 - (p + 1))) = s.getD p 0 := by
                  rw [show 128 + (p + 1 + w % 128 - (p + 1)) = w by omega, hwd, UInt8.ofNat_toNat]
                rw [e]
theorem head_sound {s : Bytes} {lim : Lim} {room : Bool} {x y : St} {p n q : Nat} {e : Option Nat} (h : R5.head s lim room x p e = (some (n, q), y)) (ht : x.taken = p) : (s.take q).drop p = s.getD p 0 :: lenB n := by
  unfold R5.head at h
  cases hw : R5.want s lim x p with
  | mk b z =>
    rw [hw] at h
    cases b with
    | false => simp at h
    | true =>
      obtain ⟨_, k2, k3, k4⟩ := D5.want_ok hw (Nat.le_of_eq ht)
      simp only at h
      split at h
      · simp at h
      · split at h
        · simp at h
        · split at h
          · simp at h
          · cases hl : R5.length s lim z (p + 1) with
            | mk o u =>
              rw [hl] at h
              cases o with
              | none => simp at h
              | some v =>
                obtain ⟨n', q'⟩ := v
                simp only at h
                split at h
                · simp at h
                · simp only [Prod.mk.injEq, Option.some.injEq] at h
                  obtain ⟨⟨rfl, rfl⟩, _⟩ := h
                  have hz : z.taken = p + 1 := by rw [k4]
                  have hq := D5.length_eq (s := s) (lim := lim) (x := z) (p := p + 1) hz
                  rw [hl] at hq
                  obtain ⟨_, _, _, _, hq3, _⟩ := hq
                  rw [drop_take_cons k2 (by omega), length_sound hl hz]

theorem head_facts {s : Bytes} {lim : Lim} {room : Bool} {x y : St} {p n q : Nat} {e : Option Nat} (hok : Ok s lim x p) (h : R5.head s lim room x p e = (some (n, q), y)) :
    y = { x with taken := q } ∧ q ≤ s.length ∧ (q : Int) ≤ lim.b ∧ p + 1 < q ∧ (x.out.length : Int) < lim.i ∧ (∀ v, e = some v → q + n ≤ v) ∧ tagE (s.getD p 0).toNat = 0 ∧ (inner (s.getD p 0).toNat = true → room = true) := by
  unfold R5.head at h
  cases hw : R5.want s lim x p with
  | mk b z =>
    rw [hw] at h
    cases b with
    | false => simp at h
    | true =>
      obtain ⟨_, k2, k3, k4⟩ := D5.want_ok hw (Nat.le_of_eq hok.taken)
      have hzo : z.out = x.out := by rw [k4]
      simp only at h
      split at h
      · simp at h
      · rename_i g1
        split at h
        · simp at h
        · rename_i g2
          split at h
          · simp at h
          · rename_i g3
            have hz : z.taken = p + 1 := by rw [k4]
            have hq := D5.length_eq (s := s) (lim := lim) (x := z) (p := p + 1) hz
            cases hl : R5.length s lim z (p + 1) with
            | mk o u =>
              rw [hl] at h hq
              cases o with
              | none => simp at h
              | some v =>
                obtain ⟨n', q'⟩ := v
                simp only at h
                split at h
                · simp at h
                · rename_i g4
                  simp only [Prod.mk.injEq, Option.some.injEq] at h
                  obtain ⟨⟨rfl, rfl⟩, rfl⟩ := h
                  obtain ⟨_, j2, j3, j4, j5, _⟩ := hq
                  refine ⟨by rw [j2, k4], j3, j4, j5, by rw [hzo] at g1; omega, ?_, Decidable.not_not.1 g2, ?_⟩
                  · intro v hv
                    rw [hv] at g4
                    simp only [Option.any_some, decide_eq_true_eq] at g4
                    omega
                  · intro hi
                    rw [hi] at g3
                    simpa using g3

/-- What is read from p to q: a list behind what was there. -/
structure Snd (s : Bytes) (lim : Lim) (d : Nat) (x y : St) (p q : Nat) (e : Option Nat) (l : List Node) : Prop where
  el : El d l ((s.take q).drop p) false
  out : y.out = x.out ++ l
  lt : p < q
  ok : Ok s lim y q
  le : ∀ v, e = some v → q ≤ v
  err : y.err = x.err
  place : y.place = x.place
def ElS (s : Bytes) (lim : Lim) (d : Nat) : Prop := ∀ (x y : St) (p q : Nat) (e : Option Nat), Ok s lim x p → R5.elem s lim d x p e = (some q, y) → ∃ l, Snd s lim d x y p q e l
theorem inside_sound {s : Bytes} {lim : Lim} {d : Nat} (hR : ElS s lim d) (tg me e : Nat) :
    ∀ (m : Nat) (x y : St) (p q : Nat) (last : Bytes), Ok s lim x p → p ≤ e → e - p ≤ m → me < x.out.length → R5.insideN s (fun x p => R5.elem s lim d x p (some e)) tg me e m x p last = (some q, y) →
      q = e ∧ ∃ n l, Kids (El d) (tg == 49) n last l ((s.take e).drop p) false ∧ y.out = bumpN x.out me n ++ l ∧ Ok s lim y e ∧ y.err = x.err ∧ y.place = x.place := by
  intro m
  induction m with
  | zero =>
    intro x y p q last hok hp hm hme h
    unfold R5.insideN at h
    simp only [Prod.mk.injEq, Option.some.injEq] at h
    obtain ⟨rfl, rfl⟩ := h
    have : p = e := by omega
    subst this
    exact ⟨rfl, 0, [], ⟨rfl, drop_take_self _ _, rfl⟩, (List.append_nil _).symm, hok, rfl, rfl⟩
  | succ m ih =>
    intro x y p q last hok hp hm hme h
    unfold R5.insideN at h
    by_cases hpe : p < e
    · rw [if_pos hpe] at h
      simp only at h
      cases hr : R5.elem s lim d x p (some e) with
      | mk o y1 =>
        rw [hr] at h
        cases o with
        | none => simp at h
        | some q1 =>
          simp only at h
          obtain ⟨lx, hs⟩ := hR x y1 p q1 (some e) hok hr
          have hq1 := hs.le e rfl
          by_cases hk : (tg == 49 && Op.bytesLess ((s.take q1).drop p) last) = true
          · rw [if_pos hk] at h; simp at h
          · rw [if_neg hk] at h
            simp only [Bool.not_eq_true] at hk
            have hlt := hs.lt
            have hlen : me < y1.out.length := by rw [hs.out, List.length_append]; omega
            obtain ⟨rfl, n, l, k1, k2, k3, k4, k5⟩ := ih { y1 with out := bump y1.out me } y q1 q _ ⟨hs.ok.ps, hs.ok.pb, hs.ok.taken, by simp only [D5.bump_len]; exact hs.ok.out⟩ hq1 (by omega) (by simp only [D5.bump_len]; exact hlen) h
            refine ⟨rfl, n + 1, lx ++ l, ⟨lx, l, _, _, false, false, rfl, take_split (by omega) hq1, hs.el, k1, by rw [hk]; rfl⟩, ?_, k3, k4.trans hs.err, k5.trans hs.place⟩
            rw [k2]
            show bumpN (bump y1.out me) me n ++ l = bumpN (bump x.out me) me n ++ (lx ++ l)
            rw [hs.out, D5.bump_app _ _ _ hme, bumpN_app _ _ _ _ (by rw [D5.bump_len]; exact hme), List.append_assoc]
    · rw [if_neg hpe] at h
      simp only [Prod.mk.injEq, Option.some.injEq] at h
      obtain ⟨rfl, rfl⟩ := h
      have : p = e := by omega
      subst this
      exact ⟨rfl, 0, [], ⟨rfl, drop_take_self _ _, rfl⟩, (List.append_nil _).symm, hok, rfl, rfl⟩
theorem leaf_sound {s : Bytes} {lim : Lim} {x y z : St} {p q n r : Nat} {e : Option Nat} (d : Nat) (hy : y = { x with taken := q }) (hq1 : q ≤ s.length) (hq2 : (q : Int) ≤ lim.b) (hpq : p + 1 < q) (hlt : (x.out.length : Int) < lim.i)
    (he : ∀ v, e = some v → q + n ≤ v) (hb : (s.take q).drop p = s.getD p 0 :: lenB n) (hg : tagE (s.getD p 0).toNat = 0) (hin : inner (s.getD p 0).toNat = false) (h : R5.leaf s lim y (s.getD p 0) p q n = (some r, z)) : ∃ l, Snd s lim d x z p r e l := by
  unfold R5.leaf at h
  have key : ∀ u : St, (if n = 0 then (true, y) else R5.want s lim y (q + n - 1)) = (true, u) → u = { x with taken := q + n } ∧ q + n ≤ s.length ∧ ((q + n : Nat) : Int) ≤ lim.b := by
    intro u hu
    by_cases h0 : n = 0
    · rw [if_pos h0] at hu
      simp only [Prod.mk.injEq, true_and] at hu
      rw [← hu, hy, h0]
      exact ⟨rfl, hq1, hq2⟩
    · rw [if_neg h0] at hu
      obtain ⟨_, k2, k3, k4⟩ := D5.want_ok hu (by rw [hy]; show q ≤ _; omega)
      exact ⟨by rw [k4, hy]; show ({ x with taken := q + n - 1 + 1 } : St) = _; rw [show q + n - 1 + 1 = q + n by omega], by omega, by omega⟩
  cases hw : (if n = 0 then (true, y) else R5.want s lim y (q + n - 1)) with
  | mk b u =>
    rw [hw] at h
    cases b with
    | false => simp at h
    | true =>
      obtain ⟨k1, k2, k3⟩ := key u hw
      simp only at h
      split at h
      · rename_i hbd
        simp only [Prod.mk.injEq, Option.some.injEq] at h
        obtain ⟨rfl, rfl⟩ := h
        have hbl : ((s.take (q + n)).drop q).length = n := by rw [part_len k2]; omega
        have hwr : (s.take (q + n)).drop p = wrap (s.getD p 0) ((s.take (q + n)).drop q) := by
          rw [take_split (show p ≤ q by omega) (show q ≤ q + n by omega), hb]
          unfold wrap
          rw [hbl]
          rfl
        refine ⟨[⟨s.getD p 0, -1, (s.take (q + n)).drop q⟩], ?_, ?_, by omega, ⟨k2, k3, by rw [k1], ?_⟩, he, by rw [k1], by rw [k1]⟩
        · rw [hwr]
          refine El.one (a := ⟨s.getD p 0, -1, (s.take (q + n)).drop q⟩) ?_ rfl
          unfold right
          simp only
          rw [hg, hin, show leaf ⟨s.getD p 0, -1, (s.take (q + n)).drop q⟩ = true from rfl, if_pos rfl, hbd]
          rfl
        · simp only [k1]
        · simp only [k1, List.length_append, List.length_singleton]
          omega
      · simp at h
theorem elem_sound (s : Bytes) (lim : Lim) : ∀ d, ElS s lim d := by
  intro d
  induction d with
  | zero =>
    intro x y p q e hok h
    unfold R5.elem at h
    cases hr : R5.head s lim false x p e with
    | mk o z =>
      rw [hr] at h
      cases o with
      | none => simp at h
      | some t =>
        obtain ⟨n, q1⟩ := t
        simp only at h
        obtain ⟨h2, h3, h4, h5, h7, h8, h9, h10⟩ := head_facts hok hr
        refine leaf_sound 0 h2 h3 h4 h5 h7 h8 (head_sound hr hok.taken) h9 ?_ h
        cases hi : inner (s.getD p 0).toNat with
        | false => rfl
        | true => exact absurd (h10 hi) (by decide)
  | succ d ih =>
    intro x y p q e hok h
    unfold R5.elem at h
    cases hr : R5.head s lim true x p e with
    | mk o z =>
      rw [hr] at h
      cases o with
      | none => simp at h
      | some t =>
        obtain ⟨n, q1⟩ := t
        simp only at h
        obtain ⟨h2, h3, h4, h5, h7, h8, h9, h10⟩ := head_facts hok hr
        by_cases hin : inner (s.getD p 0).toNat = true
        · rw [if_pos hin] at h
          unfold R5.inside at h
          have hzo : z.out = x.out := by rw [h2]
          cases hi : R5.insideN s (fun x p => R5.elem s lim d x p (some (q1 + n))) (s.getD p 0).toNat z.out.length (q1 + n) (q1 + n - q1) { z with out := z.out ++ [⟨s.getD p 0, 0, []⟩], frames := z.frames + 1 } q1 [] with
          | mk o2 u =>
            rw [hi] at h
            cases o2 with
            | none => simp at h
            | some r =>
              simp only [Prod.mk.injEq, Option.some.injEq] at h
              obtain ⟨rfl, rfl⟩ := h
              obtain ⟨rfl, m, l, k1, k2, k3, k4, k5⟩ := inside_sound ih _ _ _ _ _ _ _ _ _ ⟨h3, h4, by rw [h2], by simp only [hzo, List.length_append, List.length_singleton]; omega⟩ (by omega) (Nat.le_refl _) (by simp) hi
              have hbl : ((s.take (q1 + n)).drop q1).length = n := by rw [part_len k3.ps]; omega
              have hwr : (s.take (q1 + n)).drop p = wrap (s.getD p 0) ((s.take (q1 + n)).drop q1) := by
                rw [take_split (show p ≤ q1 by omega) (show q1 ≤ q1 + n by omega), head_sound hr hok.taken]
                unfold wrap
                rw [hbl]
                rfl
              refine ⟨⟨s.getD p 0, (m : Nat), []⟩ :: l, ?_, ?_, by omega, ⟨k3.ps, k3.pb, k3.taken, k3.out⟩, h8, k4.trans (by rw [h2]), k5.trans (by rw [h2])⟩
              · rw [hwr]
                refine El.node (a := ⟨s.getD p 0, (m : Nat), []⟩) ?_ ?_ ?_
                · unfold right
                  have hlf : leaf ⟨s.getD p 0, (m : Nat), []⟩ = false := by unfold leaf; exact decide_eq_false (by simp only; omega)
                  simp only
                  rw [h9, hin, hlf, decide_eq_true (by omega)]
                  rfl
                · unfold leaf; exact decide_eq_false (by simp only; omega)
                · exact k1
              · show u.out = _
                rw [k2]
                show bumpN (z.out ++ [⟨s.getD p 0, 0, []⟩]) z.out.length m ++ l = _
                rw [bumpN_last, hzo, List.append_assoc]
                simp only
                rw [show (0 : Int) + (m : Nat) = (m : Nat) by omega]
                rfl
        · rw [if_neg hin] at h
          exact leaf_sound (d + 1) h2 h3 h4 h5 h7 h8 (head_sound hr hok.taken) h9 (by simpa using hin) h

/-! A reading that fails has an error -/
theorem want_err {s : Bytes} {lim : Lim} {x y : St} {p : Nat} (h : R5.want s lim x p = (false, y)) : y.err ≠ 0 := by
  unfold R5.want at h
  split at h
  · simp at h
  · split at h <;> (simp only [Prod.mk.injEq, true_and] at h; subst h; simp [R5.fault])
theorem lenN_err (s : Bytes) (lim : Lim) : ∀ (m : Nat) (x y : St) (p : Nat) (first : Bool) (a : Nat), R5.lenN s lim m x p first a = (none, y) → y.err ≠ 0
  | 0, x, y, p, first, a, h => by unfold R5.lenN at h; simp at h
  | m + 1, x, y, p, first, a, h => by
    unfold R5.lenN at h
    cases hw : R5.want s lim x p with
    | mk b z =>
      rw [hw] at h
      cases b with
      | false => simp only [Prod.mk.injEq, true_and] at h; rw [← h]; exact want_err hw
      | true =>
        simp only at h
        split at h
        · simp only [Prod.mk.injEq, true_and] at h; rw [← h]; simp [R5.fault]
        · exact lenN_err s lim m _ y _ _ _ h
theorem length_err {s : Bytes} {lim : Lim} {x y : St} {p : Nat} (h : R5.length s lim x p = (none, y)) : y.err ≠ 0 := by
  unfold R5.length at h
  cases hw : R5.want s lim x p with
  | mk b z =>
    rw [hw] at h
    cases b with
    | false => simp only [Prod.mk.injEq, true_and] at h; rw [← h]; exact want_err hw
    | true =>
      simp only at h
      split at h
      · simp at h
      · split at h
        · simp only [Prod.mk.injEq, true_and] at h; rw [← h]; simp [R5.fault]
        · cases hl : R5.lenN s lim ((s.getD p 0).toNat % 128) z (p + 1) true 0 with
          | mk o u =>
            rw [hl] at h
            cases o with
            | none => simp only [Prod.mk.injEq, true_and] at h; rw [← h]; exact lenN_err _ _ _ _ _ _ _ _ hl
            | some v =>
              simp only at h
              split at h
              · simp only [Prod.mk.injEq, true_and] at h; rw [← h]; simp [R5.fault]
              · simp at h
theorem head_err {s : Bytes} {lim : Lim} {room : Bool} {x y : St} {p : Nat} {e : Option Nat} (h : R5.head s lim room x p e = (none, y)) : y.err ≠ 0 := by
  unfold R5.head at h
  cases hw : R5.want s lim x p with
  | mk b z =>
    rw [hw] at h
    cases b with
    | false => simp only [Prod.mk.injEq, true_and] at h; rw [← h]; exact want_err hw
    | true =>
      simp only at h
      split at h
      · simp only [Prod.mk.injEq, true_and] at h; rw [← h]; simp [R5.fault]
      · split at h
        · rename_i hg
          simp only [Prod.mk.injEq, true_and] at h; rw [← h]; exact hg
        · split at h
          · simp only [Prod.mk.injEq, true_and] at h; rw [← h]; simp [R5.fault]
          · cases hl : R5.length s lim z (p + 1) with
            | mk o u =>
              rw [hl] at h
              cases o with
              | none => simp only [Prod.mk.injEq, true_and] at h; rw [← h]; exact length_err hl
              | some v =>
                obtain ⟨n', q'⟩ := v
                simp only at h
                split at h
                · simp only [Prod.mk.injEq, true_and] at h; rw [← h]; simp [R5.fault]
                · simp at h
theorem leaf_err {s : Bytes} {lim : Lim} {x y : St} {t : UInt8} {p q n : Nat} (h : R5.leaf s lim x t p q n = (none, y)) : y.err ≠ 0 := by
  unfold R5.leaf at h
  cases hw : (if n = 0 then (true, x) else R5.want s lim x (q + n - 1)) with
  | mk b u =>
    rw [hw] at h
    cases b with
    | false =>
      simp only [Prod.mk.injEq, true_and] at h
      rw [← h]
      split at hw
      · simp at hw
      · exact want_err hw
    | true =>
      simp only at h
      split at h
      · simp at h
      · simp only [Prod.mk.injEq, true_and] at h; rw [← h]; simp [R5.fault]
theorem inside_err {s : Bytes} {rc : St → Nat → Option Nat × St} (hR : ∀ x p y, rc x p = (none, y) → y.err ≠ 0) (tg me e : Nat) : ∀ (m : Nat) (x y : St) (p : Nat) (last : Bytes), R5.insideN s rc tg me e m x p last = (none, y) → y.err ≠ 0
  | 0, x, y, p, last, h => by unfold R5.insideN at h; simp at h
  | m + 1, x, y, p, last, h => by
    unfold R5.insideN at h
    split at h
    · cases hr : rc x p with
      | mk o z =>
        rw [hr] at h
        cases o with
        | none => simp only [Prod.mk.injEq, true_and] at h; rw [← h]; exact hR _ _ _ hr
        | some q =>
          simp only at h
          split at h
          · simp only [Prod.mk.injEq, true_and] at h; rw [← h]; simp [R5.fault]
          · exact inside_err hR tg me e m _ y _ _ h
    · simp at h
theorem elem_err (s : Bytes) (lim : Lim) : ∀ (d : Nat) (x y : St) (p : Nat) (e : Option Nat), R5.elem s lim d x p e = (none, y) → y.err ≠ 0 := by
  intro d
  induction d with
  | zero =>
    intro x y p e h
    unfold R5.elem at h
    cases hr : R5.head s lim false x p e with
    | mk o z =>
      rw [hr] at h
      cases o with
      | none => simp only [Prod.mk.injEq, true_and] at h; rw [← h]; exact head_err hr
      | some t => exact leaf_err h
  | succ d ih =>
    intro x y p e h
    unfold R5.elem at h
    cases hr : R5.head s lim true x p e with
    | mk o z =>
      rw [hr] at h
      cases o with
      | none => simp only [Prod.mk.injEq, true_and] at h; rw [← h]; exact head_err hr
      | some t =>
        obtain ⟨n, q⟩ := t
        simp only at h
        split at h
        · unfold R5.inside at h
          cases hi : R5.insideN s (fun x p => R5.elem s lim d x p (some (q + n))) (s.getD p 0).toNat z.out.length (q + n) (q + n - q) { z with out := z.out ++ [⟨s.getD p 0, 0, []⟩], frames := z.frames + 1 } q [] with
          | mk o2 u =>
            rw [hi] at h
            cases o2 with
            | none => simp only [Prod.mk.injEq, true_and] at h; rw [← h]; exact inside_err (fun x p y => ih x y p _) _ _ _ _ _ _ _ _ hi
            | some r => simp at h
        · exact leaf_err h

/-! Decode, by elements -/
theorem may_of {lim : Lim} (hm : lim.may = true) : 1 ≤ lim.d ∧ lim.d ≤ 32 ∧ 1 ≤ lim.i ∧ lim.i ≤ 4096 ∧ 1 ≤ lim.b ∧ lim.b ≤ 262144 ∧ 1 ≤ lim.r ∧ lim.r ≤ 4096 := by
  unfold Lim.may at hm
  simp only [Bool.and_eq_true, decide_eq_true_eq] at hm
  omega
theorem start_ok {s : Bytes} {lim : Lim} (hm : lim.may = true) : Ok s lim R5.start 0 := by
  have hmay := may_of hm
  exact ⟨Nat.zero_le _, by omega, rfl, by show ((0 : Nat) : Int) ≤ lim.i; omega⟩
theorem decode_no {s : Bytes} {lim : Lim} (h : lim.may = false) : R5.decode s lim = ([], 0, 2) := by unfold R5.decode; rw [h]; rfl
theorem decode_yes {s : Bytes} {lim : Lim} (h : lim.may = true) : R5.decode s lim = (R5.list (R5.read s lim), (R5.read s lim).place, (R5.read s lim).err) := by unfold R5.decode; rw [h]; rfl
theorem decode_of_el {l : List Node} {b : Bytes} {o : Bool} {lim : Lim} (hm : lim.may = true) (h : El lim.d.toNat l b o) (hi : (l.length : Int) ≤ lim.i) (hb : (b.length : Int) ≤ lim.b) :
    if o then (R5.decode b lim).2.2 = 9 else R5.decode b lim = (l, 0, 0) := by
  have hmay := may_of hm
  have hr := elem_reads b lim (by omega) lim.d.toNat R5.start 0 l b o [] none h rfl (Nat.zero_le _) (List.append_nil _).symm (by show ((0 + l.length : Nat) : Int) ≤ lim.i; omega) (by omega) (fun v hv => by cases hv)
  rw [decode_yes hm]
  unfold R5.read
  cases o with
  | true =>
    obtain ⟨y, e1, e2⟩ := hr
    rw [e1]
    exact e2
  | false =>
    have hr' : R5.elem b lim lim.d.toNat R5.start 0 none = (some (0 + b.length), { R5.start with out := R5.start.out ++ l, taken := 0 + b.length }) := hr
    rw [hr']
    simp only [Nat.zero_add, Nat.lt_irrefl, if_false]
    show (R5.list _, (0 : Int), (0 : Int)) = _
    unfold R5.list
    simp [R5.start]
theorem decode_sound {s : Bytes} {lim : Lim} (h : (R5.decode s lim).2.2 = 0) :
    lim.may = true ∧ (R5.decode s lim).2.1 = 0 ∧ El lim.d.toNat (R5.decode s lim).1 s false ∧ ((R5.decode s lim).1.length : Int) ≤ lim.i ∧ (s.length : Int) ≤ lim.b ∧
      ∃ y, R5.elem s lim lim.d.toNat R5.start 0 none = (some s.length, y) ∧ y.out = (R5.decode s lim).1 ∧ y.err = 0 ∧ y.place = 0 := by
  cases hm : lim.may with
  | false => rw [decode_no hm] at h; simp at h
  | true =>
    rw [decode_yes hm] at h ⊢
    simp only at h
    have hok := start_ok (s := s) hm
    unfold R5.read at h ⊢
    cases hr : R5.elem s lim lim.d.toNat R5.start 0 none with
    | mk o y =>
      rw [hr] at h
      cases o with
      | none => exact absurd h (elem_err _ _ _ _ _ _ _ hr)
      | some q =>
        obtain ⟨l, h2⟩ := elem_sound s lim lim.d.toNat R5.start y 0 q none hok hr
        simp only at h ⊢
        by_cases hlt : q < s.length
        · rw [if_pos hlt] at h
          exfalso
          cases hw : R5.want s lim y q with
          | mk b z =>
            rw [hw] at h
            cases b
            · exact want_err hw h
            · simp [R5.fault] at h
        · rw [if_neg hlt]
          have hq : q = s.length := by have := h2.ok.ps; omega
          subst hq
          have hout : y.out = l := h2.out
          have he : y.err = 0 := h2.err
          have hl : R5.list y = l := by unfold R5.list; rw [he]; simpa using hout
          have hp : y.place = 0 := h2.place
          simp only [hl]
          have hel := h2.el
          rw [List.take_length, List.drop_zero] at hel
          have ho := h2.ok.out
          rw [hout] at ho
          exact ⟨trivial, hp, hel, ho, h2.ok.pb, y, rfl, hout, he, hp⟩
end Go.Px.E5
