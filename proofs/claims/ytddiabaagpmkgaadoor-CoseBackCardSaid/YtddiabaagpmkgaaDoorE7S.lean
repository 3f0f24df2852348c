/-
  What is read is one right item whose keys are in order (plain laws of layer 17). No program is named here.
-/
import Derived.Test.YtddiabaagpmkgaaDoorE7R
namespace Go.Px.E7
open R7 (St)
open D7 (Ok)

theorem drop_take_self (s : Bytes) (p : Nat) : (s.take p).drop p = [] := List.drop_eq_nil_of_le (by rw [List.length_take]; omega)
theorem drop_take_cons {s : Bytes} {p q : Nat} (h : p < s.length) (hq : p < q) : (s.take q).drop p = s.getD p 0 :: (s.take q).drop (p + 1) := by
  have hl : p < (s.take q).length := by rw [List.length_take]; omega
  rw [List.drop_eq_getElem_cons hl, List.getElem_take, List.getD_eq_getElem?_getD, List.getElem?_eq_getElem h]
  rfl
theorem beBytes_mod (v m c : Nat) (V n : Nat) (hv : v = (n * 256 + c) * 256 ^ m + V) (hV : V < 256 ^ m) : UInt8.ofNat (v / 256 ^ m) = UInt8.ofNat c := by
  have hp : 0 < 256 ^ m := Nat.pow_pos (by omega)
  have e : v / 256 ^ m = n * 256 + c := by
    rw [hv, Nat.mul_comm, Nat.mul_add_div hp, Nat.div_eq_of_lt hV, Nat.add_zero]
  rw [e]
  apply UInt8.toNat_inj.1
  rw [UInt8.toNat_ofNat', UInt8.toNat_ofNat']
  omega
theorem argN_sound (s : Bytes) (lim : Lim) : ∀ (m : Nat) (x : St) (p n v : Nat) (y : St), R7.argN s lim m x p n = (some v, y) → x.taken = p → p ≤ s.length → ∃ V, v = n * 256 ^ m + V ∧ V < 256 ^ m ∧ (s.take (p + m)).drop p = R7.beBytes v m
  | 0, x, p, n, v, y, h, _, _ => by
    unfold R7.argN at h
    simp only [Prod.mk.injEq, Option.some.injEq] at h
    exact ⟨0, by rw [Nat.pow_zero]; omega, by simp, by rw [Nat.add_zero, drop_take_self]; rfl⟩
  | m + 1, x, p, n, v, y, h, ht, hp => by
    unfold R7.argN at h
    cases hw : R7.want s lim x p with
    | mk b z =>
      rw [hw] at h
      cases b
      · simp at h
      · obtain ⟨h1, h2, h3, h4⟩ := D7.want_ok hw ht
        simp only at h
        obtain ⟨V, e1, e2, e3⟩ := argN_sound s lim m z (p + 1) _ v y h (by rw [h4]) h2
        have hc := (s.getD p 0).toNat_lt
        refine ⟨(s.getD p 0).toNat * 256 ^ m + V, ?_, ?_, ?_⟩
        · rw [e1, Nat.pow_succ, Nat.add_mul, Nat.mul_assoc, Nat.mul_comm 256 (256 ^ m)]; omega
        · rw [Nat.pow_succ]
          have : (s.getD p 0).toNat * 256 ^ m + 256 ^ m ≤ 256 * 256 ^ m := by
            rw [← Nat.succ_mul]; exact Nat.mul_le_mul_right _ hc
          omega
        · rw [drop_take_cons h2 (by omega)]
          show _ = UInt8.ofNat (v / 256 ^ m) :: R7.beBytes v m
          rw [show p + (m + 1) = p + 1 + m by omega, e3, beBytes_mod v m _ V n e1 e2]
          congr 1
          apply UInt8.toNat_inj.1
          rw [UInt8.toNat_ofNat']
          omega
theorem headB_long {k n a : Nat} (h1 : 24 ≤ a) (h2 : a ≤ 27) (hl : (R7.headB k n).length = 2 ^ (a - 24) + 1) : R7.headB k n = UInt8.ofNat (32 * k + a) :: R7.beBytes n (2 ^ (a - 24)) := by
  have hs := headB_size k n
  rw [hl] at hs
  by_cases h24 : n < 24
  · rw [if_pos h24] at hs
    have : 0 < 2 ^ (a - 24) := Nat.two_pow_pos _
    omega
  · rw [if_neg h24] at hs
    have hp : 2 ^ (a - 24) = 2 ^ R7.infoOf n := by omega
    have e : a - 24 = R7.infoOf n := (Nat.pow_right_inj (by omega)).1 hp
    unfold R7.headB
    rw [if_neg h24, ← e, show 32 * k + 24 + (a - 24) = 32 * k + a by omega]
theorem head_sound {s : Bytes} {lim : Lim} {x y : St} {p k n q : Nat} (hok : Ok s lim x p) (h : R7.head s lim x p = (some (k, n, q), y)) :
    (s.take q).drop p = R7.headB k n ∧ (k = 7 → 20 ≤ n ∧ n ≤ 23) := by
  unfold R7.head at h
  cases hw : R7.want s lim x p with
  | mk b z =>
    rw [hw] at h
    cases b
    · simp at h
    · obtain ⟨h1, h2, h3, h4⟩ := D7.want_ok hw hok.taken
      have hc := (s.getD p 0).toNat_lt
      simp only at h
      by_cases hi : lim.i ≤ z.out.length
      · rw [if_pos hi] at h; simp at h
      · rw [if_neg hi] at h
        obtain ⟨c, hcc⟩ : ∃ c, c = (s.getD p 0).toNat := ⟨_, rfl⟩
        have hcb : s.getD p 0 = UInt8.ofNat c := by rw [hcc]; simp
        rw [← hcc] at h hc
        by_cases h27 : 27 < c % 32
        · rw [if_pos h27] at h; simp at h
        · rw [if_neg h27] at h
          by_cases h7 : (c / 32 == 7 && (decide (c % 32 < 20) || decide (23 < c % 32))) = true
          · rw [if_pos h7] at h; simp at h
          · rw [if_neg h7] at h
            have h7' : c / 32 = 7 → 20 ≤ c % 32 ∧ c % 32 ≤ 23 := by
              intro e
              simp only [Bool.and_eq_true, beq_iff_eq, Bool.or_eq_true, decide_eq_true_eq] at h7
              omega
            by_cases h24 : c % 32 < 24
            · rw [if_pos h24] at h
              simp only [Prod.mk.injEq, Option.some.injEq] at h
              obtain ⟨⟨rfl, rfl, rfl⟩, _⟩ := h
              refine ⟨?_, h7'⟩
              rw [drop_take_cons h2 (Nat.lt_succ_self p), drop_take_self, hcb]
              unfold R7.headB
              rw [if_pos h24, show 32 * (c / 32) + c % 32 = c by omega]
            · rw [if_neg h24] at h
              cases ha : R7.argN s lim (2 ^ (c % 32 - 24)) z (p + 1) 0 with
              | mk o u =>
                rw [ha] at h
                cases o with
                | none => simp at h
                | some v =>
                  simp only at h
                  by_cases hl : (R7.headB (c / 32) v).length = 2 ^ (c % 32 - 24) + 1
                  · rw [if_pos hl] at h
                    simp only [Prod.mk.injEq, Option.some.injEq] at h
                    obtain ⟨⟨rfl, rfl, rfl⟩, _⟩ := h
                    obtain ⟨V, e1, e2, e3⟩ := argN_sound s lim _ z (p + 1) 0 v u ha (by rw [h4]) h2
                    rw [Nat.zero_mul, Nat.zero_add] at e1
                    refine ⟨?_, fun e => by have := h7' e; omega⟩
                    rw [headB_long (by omega) (by omega) hl, drop_take_cons h2 (by have := Nat.two_pow_pos (c % 32 - 24); omega), e3, hcb, show 32 * (c / 32) + c % 32 = c by omega]
                  · rw [if_neg hl] at h; simp at h

structure Snd (s : Bytes) (lim : Lim) (x y : St) (p q : Nat) (l : List Atom) : Prop where
  wf : Wf l
  out : y.out = x.out ++ l
  bytes : (s.take q).drop p = encB l
  le : p ≤ q
  ok : Ok s lim y q
def ItemS (s : Bytes) (lim : Lim) (d : Nat) (rc : St → Nat → Option Nat × St) : Prop :=
  ∀ (x : St) (p q : Nat) (y : St), Ok s lim x p → rc x p = (some q, y) → ∃ l, ItF d l false ∧ Snd s lim x y p q l
theorem Wf.app {a b : List Atom} (h : Wf a) (k : Wf b) : Wf (a ++ b) := fun x hx => (List.mem_append.1 hx).elim (h x) (k x)
theorem Snd.app {s : Bytes} {lim : Lim} {x y z : St} {p q r : Nat} {a b : List Atom} (h : Snd s lim x y p q a) (k : Snd s lim y z q r b) : Snd s lim x z p r (a ++ b) :=
  ⟨h.wf.app k.wf, by rw [k.out, h.out, List.append_assoc], by rw [take_split h.le k.le, h.bytes, k.bytes, encB_app], Nat.le_trans h.le k.le, k.ok⟩
theorem items_sound {s : Bytes} {lim : Lim} {d : Nat} {rc : St → Nat → Option Nat × St} (hR : ItemS s lim d rc) :
    ∀ (m i : Nat) (last : Bytes) (x : St) (p q : Nat) (y : St), Ok s lim x p → R7.itemsN rc m x p = (some q, y) → ∃ l, Kids (ItF d) false m i last l false ∧ Snd s lim x y p q l
  | 0, i, last, x, p, q, y, hok, h => by
    unfold R7.itemsN at h
    simp only [Prod.mk.injEq, Option.some.injEq] at h
    obtain ⟨rfl, rfl⟩ := h
    exact ⟨[], ⟨rfl, rfl⟩, nofun, (List.append_nil _).symm, drop_take_self s p, Nat.le_refl _, hok⟩
  | m + 1, i, last, x, p, q, y, hok, h => by
    unfold R7.itemsN at h
    cases hr : rc x p with
    | mk o z =>
      rw [hr] at h
      cases o with
      | none => simp at h
      | some t =>
        simp only at h
        obtain ⟨a, ha, sa⟩ := hR x p t z hok hr
        obtain ⟨b, hb, sb⟩ := items_sound hR m (i + 1) last z t q y sa.ok h
        exact ⟨a ++ b, ⟨a, b, false, false, rfl, ha, hb, rfl⟩, sa.app sb⟩
theorem pairs_sound {s : Bytes} {lim : Lim} {d : Nat} {rc : St → Nat → Option Nat × St} (hR : ItemS s lim d rc) :
    ∀ (m i : Nat) (last : Bytes) (x : St) (p q : Nat) (y : St), i % 2 = 0 → Ok s lim x p → R7.pairsN s rc m (if i = 0 then none else some last) x p = (some q, y) → ∃ l, Kids (ItF d) true (2 * m) i last l false ∧ Snd s lim x y p q l
  | 0, i, last, x, p, q, y, _, hok, h => by
    unfold R7.pairsN at h
    simp only [Prod.mk.injEq, Option.some.injEq] at h
    obtain ⟨rfl, rfl⟩ := h
    exact ⟨[], ⟨rfl, rfl⟩, nofun, (List.append_nil _).symm, drop_take_self s p, Nat.le_refl _, hok⟩
  | m + 1, i, last, x, p, q, y, hi, hok, h => by
    unfold R7.pairsN at h
    cases hr : rc x p with
    | mk o z =>
      rw [hr] at h
      cases o with
      | none => simp at h
      | some t =>
        simp only at h
        obtain ⟨a, ha, sa⟩ := hR x p t z hok hr
        rw [sa.bytes] at h
        have hany : ((if i = 0 then none else some last : Option Bytes).any fun l => leB (encB a) l) = (decide (0 < i) && leB (encB a) last) := by
          by_cases h0 : i = 0
          · rw [if_pos h0, h0]; rfl
          · rw [if_neg h0, decide_eq_true (by omega : 0 < i)]; rfl
        rw [hany] at h
        cases hb2 : (decide (0 < i) && leB (encB a) last) with
        | true => rw [hb2, if_pos rfl] at h; simp at h
        | false =>
          rw [hb2, if_neg (by simp)] at h
          cases hr2 : rc z t with
          | mk o2 u =>
            rw [hr2] at h
            cases o2 with
            | none => simp at h
            | some t2 =>
              simp only at h
              obtain ⟨c, hc, sc⟩ := hR z t t2 u sa.ok hr2
              have h' : R7.pairsN s rc m (if i + 2 = 0 then none else some (encB a)) u t2 = (some q, y) := by rw [if_neg (by omega)]; exact h
              obtain ⟨b, hb, sb⟩ := pairs_sound hR m (i + 2) (encB a) u t2 q y (by omega) sc.ok h'
              have hk0 : (true && i % 2 == 0) = true := by simp [hi]
              have hk1 : (true && (i + 1) % 2 == 0) = false := by simp; omega
              refine ⟨a ++ (c ++ b), ?_, sa.app (sc.app sb)⟩
              rw [show 2 * (m + 1) = 2 * m + 1 + 1 by omega]
              refine ⟨a, c ++ b, false, false, rfl, ha, ⟨c, b, false, false, rfl, hc, ?_, ?_⟩, ?_⟩
              · rw [hk1, hk0, if_neg (by simp), if_pos rfl]; exact hb
              · rw [hk1]; rfl
              · rw [hk0, Bool.true_and, hb2]; rfl
theorem head_ok {s : Bytes} {lim : Lim} {x y : St} {p k n q : Nat} (hok : Ok s lim x p) (h : R7.head s lim x p = (some (k, n, q), y)) : y = { x with taken := q } ∧ q ≤ s.length ∧ (q : Int) ≤ lim.b ∧ p < q ∧ k < 8 ∧ n < 18446744073709551616 ∧ (x.out.length : Int) < lim.i := by
  have hh := D7.head_eq hok
  rw [h] at hh
  obtain ⟨h1, h2, h3, h4, h5, h6, h7⟩ := hh
  refine ⟨h2, h3, h4, h5, h6, h7, ?_⟩
  have := hok.out
  unfold D7.head at h1
  cases hw : D7.want s lim p with
  | error e => rw [hw] at h1; simp at h1
  | ok c =>
    rw [hw] at h1
    simp only at h1
    by_cases e : (x.out.length : Int) = lim.i
    · rw [if_pos e] at h1; simp at h1
    · omega
theorem text_sound {s : Bytes} {lim : Lim} {x y : St} {p q k n at_ : Nat} (hok : Ok s lim x p) (hh : R7.head s lim x p = (some (k, n, at_), { x with taken := at_ })) (h23 : k = 2 ∨ k = 3) (h : R7.textN s lim k n { x with taken := at_ } p at_ = (some q, y)) (d : Nat) :
    ∃ l, ItF d l false ∧ Snd s lim x y p q l := by
  obtain ⟨_, g2, g3, g4, g5, g6, g7⟩ := head_ok hok hh
  obtain ⟨g8, _⟩ := head_sound hok hh
  have hw := D7.wantN_eq s lim n { x with taken := at_ } at_ rfl g2 g3
  unfold R7.textN at h
  cases hr : R7.wantN s lim n { x with taken := at_ } at_ with
  | mk o z =>
    rw [hr] at hw h
    cases o with
    | false => simp at h
    | true =>
      obtain ⟨a, b, c⟩ := hw
      simp only at h
      by_cases hv : (k == 3 && !Lib.validD ((s.take (at_ + n)).drop at_)) = true
      · rw [if_pos hv] at h; simp at h
      · rw [if_neg hv] at h
        simp only [Prod.mk.injEq, Option.some.injEq] at h
        obtain ⟨rfl, rfl⟩ := h
        have hlen : ((s.take (at_ + n)).drop at_).length = n := by rw [List.length_drop, List.length_take]; omega
        refine ⟨[⟨k, 0, (s.take (at_ + n)).drop at_⟩], ItF.one ?_ ?_, fun x hx => ?_, ?_, ?_, by omega, b, c, ?_, ?_⟩
        · unfold right
          rcases h23 with rfl | rfl
          · rfl
          · show (0 == 0 && Lib.validD _) = true
            simpa using hv
        · rcases h23 with rfl | rfl <;> rfl
        · rw [List.mem_singleton.1 hx]
          exact ⟨by show (0 : Nat) < _; omega, by show ((s.take (at_ + n)).drop at_).length < _; rw [hlen]; exact g6⟩
        · rw [a]
        · rw [take_split (Nat.le_of_lt g4) (Nat.le_add_right at_ n), g8]
          show _ = atomB _ ++ []
          rw [List.append_nil]
          unfold atomB
          rw [if_pos (by rcases h23 with rfl | rfl <;> rfl)]
          show _ = R7.headB ((k : Int)).toNat ((s.take (at_ + n)).drop at_).length ++ _
          rw [hlen]
          rfl
        · rw [a]
        · rw [a]
          show (((x.out ++ [_]).length : Nat) : Int) ≤ lim.i
          rw [List.length_append, List.length_singleton]
          omega
theorem encB_one (a : Atom) : encB [a] = atomB a := List.append_nil _
theorem plain_right {k n : Nat} (h2 : ¬ (k = 2 ∨ k = 3)) (h8 : k < 8) (h7 : k = 7 → 20 ≤ n ∧ n ≤ 23) : right ⟨k, n, []⟩ = true := by
  unfold right
  have hc : k = 0 ∨ k = 1 ∨ k = 4 ∨ k = 5 ∨ k = 6 ∨ k = 7 := by omega
  rcases hc with rfl | rfl | rfl | rfl | rfl | rfl
  · rfl
  · rfl
  · rfl
  · rfl
  · rfl
  · have := h7 rfl
    show (true && (decide (20 ≤ n) && decide (n ≤ 23))) = true
    simp [this]
theorem one_snd {s : Bytes} {lim : Lim} {x : St} {p k n q : Nat} (hok : Ok s lim x p) (hh : R7.head s lim x p = (some (k, n, q), { x with taken := q })) (h23 : ¬ (k = 2 ∨ k = 3)) (fr : Nat) :
    Snd s lim x { x with out := x.out ++ [⟨k, n, []⟩], taken := q, frames := fr } p q [⟨k, n, []⟩] ∧ right ⟨k, n, []⟩ = true := by
  obtain ⟨_, g2, g3, g4, g5, g6, g7⟩ := head_ok hok hh
  obtain ⟨g8, g9⟩ := head_sound hok hh
  refine ⟨⟨fun x hx => ?_, rfl, ?_, by omega, g2, g3, rfl, ?_⟩, plain_right h23 g5 g9⟩
  · rw [List.mem_singleton.1 hx]
    exact ⟨g6, by show (0 : Nat) < _; omega⟩
  · rw [g8, encB_one]
    exact (plain_enc (a := ⟨k, n, []⟩) rfl (by omega) (by omega) rfl).symm
  · show (((x.out ++ [_]).length : Nat) : Int) ≤ lim.i
    rw [List.length_append, List.length_singleton]
    omega
theorem Snd.frames {s : Bytes} {lim : Lim} {x y : St} {p q : Nat} {l : List Atom} (h : Snd s lim x y p q l) (f : Nat) : Snd s lim x { y with frames := f } p q l := ⟨h.wf, h.out, h.bytes, h.le, h.ok.ps, h.ok.pb, h.ok.taken, h.ok.out⟩
theorem item_sound (s : Bytes) (lim : Lim) : ∀ d, ItemS s lim d (R7.item s lim d) := by
  have common : ∀ (d : Nat) (x y : St) (p q k n at_ : Nat), Ok s lim x p → R7.head s lim x p = (some (k, n, at_), { x with taken := at_ }) → ¬ (k = 2 ∨ k = 3) → ¬ (k == 4 || k == 5 || k == 6) = true →
      ((some at_, { ({ x with taken := at_ } : St) with out := x.out ++ [⟨k, n, []⟩] }) : Option Nat × St) = (some q, y) → ∃ l, ItF d l false ∧ Snd s lim x y p q l := by
    intro d x y p q k n at_ hok hh h23 h456 e
    simp only [Prod.mk.injEq, Option.some.injEq] at e
    obtain ⟨rfl, rfl⟩ := e
    obtain ⟨h1, h2⟩ := one_snd hok hh h23 x.frames
    refine ⟨[⟨k, n, []⟩], ItF.one h2 ?_, h1⟩
    rw [leaf_kind (k := k) rfl]
    simpa using h456
  intro d
  induction d with
  | zero =>
    intro x p q y hok h
    unfold R7.item at h
    cases hr : R7.head s lim x p with
    | mk o z =>
      rw [hr] at h
      cases o with
      | none => simp at h
      | some t =>
        obtain ⟨k, n, at_⟩ := t
        obtain ⟨rfl, _⟩ := head_ok hok hr
        simp only at h
        by_cases h23 : (k == 2 || k == 3) = true
        · rw [if_pos h23] at h
          simp only [Bool.or_eq_true, beq_iff_eq] at h23
          exact text_sound hok hr h23 h 0
        · rw [if_neg h23] at h
          by_cases h456 : (k == 4 || k == 5 || k == 6) = true
          · rw [if_pos h456] at h; simp at h
          · rw [if_neg h456] at h
            exact common 0 x y p q k n at_ hok hr (by simpa using h23) h456 h
  | succ d ih =>
    intro x p q y hok h
    unfold R7.item at h
    cases hr : R7.head s lim x p with
    | mk o z =>
      rw [hr] at h
      cases o with
      | none => simp at h
      | some t =>
        obtain ⟨k, n, at_⟩ := t
        obtain ⟨rfl, _⟩ := head_ok hok hr
        simp only at h
        by_cases h23 : (k == 2 || k == 3) = true
        · rw [if_pos h23] at h
          simp only [Bool.or_eq_true, beq_iff_eq] at h23
          exact text_sound hok hr h23 h (d + 1)
        · rw [if_neg h23] at h
          by_cases h456 : (k == 4 || k == 5 || k == 6) = true
          · rw [if_pos h456] at h
            obtain ⟨h1, h2⟩ := one_snd hok hr (by simpa using h23) (x.frames + 1)
            have hlf : leaf ⟨k, n, []⟩ = false := by rw [leaf_kind (k := k) rfl, h456]; rfl
            unfold R7.holdN at h
            simp only at h
            have fin : ∀ res : Option Nat × St, (match res with | (some q, z) => (some q, { z with frames := z.frames - 1 }) | (none, z) => (none, z)) = (some q, y) →
                (∀ z, res = (some q, z) → ∃ l, Kids (ItF d) ((k : Int) == 5) (count ⟨k, n, []⟩) 0 [] l false ∧ Snd s lim { x with out := x.out ++ [⟨k, n, []⟩], taken := at_, frames := x.frames + 1 } z at_ q l) → ∃ l, ItF (d + 1) l false ∧ Snd s lim x y p q l := by
              intro res e hk
              obtain ⟨o, z⟩ := res
              cases o with
              | none => simp at e
              | some q' =>
                simp only [Prod.mk.injEq, Option.some.injEq] at e
                obtain ⟨rfl, rfl⟩ := e
                obtain ⟨l, k1, k2⟩ := hk z rfl
                exact ⟨⟨k, n, []⟩ :: l, ItF.node h2 hlf k1, (h1.app k2).frames _⟩
            refine fin _ h ?_
            intro z hz
            simp only [Bool.or_eq_true, beq_iff_eq] at h456
            rcases h456 with (rfl | rfl) | rfl
            · rw [if_pos (by rfl)] at hz
              exact items_sound ih n 0 [] _ _ _ _ h1.ok hz
            · rw [if_neg (by simp), if_pos (by rfl)] at hz
              exact pairs_sound ih n 0 [] _ _ _ _ rfl h1.ok hz
            · rw [if_neg (by simp), if_neg (by simp), ← R7.itemsN_one (R7.item s lim d)] at hz
              exact items_sound ih 1 0 [] _ _ _ _ h1.ok hz
          · rw [if_neg h456] at h
            exact common (d + 1) x y p q k n at_ hok hr (by simpa using h23) h456 h

/-! Decode, by items -/
theorem start_ok {s : Bytes} {lim : Lim} (hm : lim.may = true) : Ok s lim R7.start 0 := by
  have hmay := Cf.may_of hm
  exact ⟨Nat.zero_le _, by omega, rfl, by show ((0 : Nat) : Int) ≤ lim.i; omega⟩
theorem decode_of_it {l : List Atom} {o : Bool} {lim : Lim} (hm : lim.may = true) (h : ItF lim.d.toNat l o) (hw : Wf l) (hi : (l.length : Int) ≤ lim.i) (hb : ((encB l).length : Int) ≤ lim.b) :
    if o then (R7.decode (encB l) lim).2.2 = 9 else R7.decode (encB l) lim = (l, 0, 0) := by
  have hr := item_reads (encB l) lim lim.d.toNat R7.start 0 l o [] h hw rfl (Nat.zero_le _) (List.append_nil _).symm (by show ((0 + l.length : Nat) : Int) ≤ lim.i; omega) (by omega)
  rw [R7.decode_yes hm]
  unfold R7.read
  cases o with
  | true =>
    obtain ⟨y, e1, e2⟩ := hr.no
    rw [e1]
    exact e2
  | false =>
    rw [hr.ok]
    simp only [Nat.zero_add, Nat.lt_irrefl, if_false]
    show (R7.list _, (0 : Int), (0 : Int)) = _
    unfold R7.list
    simp [R7.start]
theorem decode_sound {s : Bytes} {lim : Lim} (h : (R7.decode s lim).2.2 = 0) :
    lim.may = true ∧ (R7.decode s lim).2.1 = 0 ∧ ItF lim.d.toNat (R7.decode s lim).1 false ∧ Wf (R7.decode s lim).1 ∧ s = encB (R7.decode s lim).1 ∧ ((R7.decode s lim).1.length : Int) ≤ lim.i ∧ (s.length : Int) ≤ lim.b ∧
      ∃ y, R7.item s lim lim.d.toNat R7.start 0 = (some s.length, y) ∧ y.out = (R7.decode s lim).1 ∧ y.err = 0 ∧ y.place = 0 := by
  cases hm : lim.may with
  | false => rw [R7.decode_no hm] at h; simp at h
  | true =>
    rw [R7.decode_yes hm] at h ⊢
    simp only at h
    have hok := start_ok (s := s) hm
    have hmay := Cf.may_of hm
    have hsim := R7.item_sim (s := s) hm lim.d.toNat R7.start 0 { Cf.init lim with text := s.take 0, out := [], stack := [] } ⟨⟨rfl, rfl, Nat.zero_le _, by omega, rfl, rfl, rfl, rfl, rfl⟩, rfl, rfl, by show ((0 + lim.d.toNat : Nat) : Int) = lim.d; omega⟩ (by show ((0 : Nat) : Int) ≤ lim.i; omega)
    unfold R7.read at h ⊢
    cases hr : R7.item s lim lim.d.toNat R7.start 0 with
    | mk o y =>
      rw [hr] at h hsim
      cases o with
      | none => exact absurd h hsim.xerr
      | some q =>
        obtain ⟨i1, _⟩ := hsim
        simp only at h ⊢
        by_cases hlt : q < s.length
        · rw [if_pos hlt] at h
          exfalso
          cases hw : R7.want s lim y q with
          | mk b z =>
            rw [hw] at h
            cases b
            · unfold R7.want at hw
              split at hw
              · simp at hw
              · split at hw <;> (simp only [Prod.mk.injEq, true_and] at hw; subst hw; simp [R7.fault] at h)
            · simp [R7.fault] at h
        · rw [if_neg hlt]
          obtain ⟨l, h1, h2⟩ := item_sound s lim lim.d.toNat R7.start 0 q y hok hr
          have hq : q = s.length := by have := h2.ok.ps; omega
          subst hq
          have hout : y.out = l := h2.out
          have hl : R7.list y = l := by unfold R7.list; rw [i1.err]; simpa using hout
          have hp : y.place = 0 := i1.place
          simp only [hl]
          refine ⟨trivial, hp, h1, h2.wf, ?_, ?_, h2.ok.pb, y, rfl, hout, i1.err, hp⟩
          · have := h2.bytes
            rwa [List.take_length, List.drop_zero] at this
          · have := h2.ok.out
            rwa [hout] at this
theorem decode_nil {s : Bytes} {lim : Lim} (h : (R7.decode s lim).2.2 ≠ 0) : (R7.decode s lim).1 = [] := by
  cases hm : lim.may with
  | false => rw [R7.decode_no hm]
  | true =>
    rw [R7.decode_yes hm] at h ⊢
    show R7.list _ = []
    unfold R7.list
    rw [if_neg (by simpa using h)]
end Go.Px.E7
