/-
  The walk over the reference's Body (layer 15).
-/
import Derived.Test.YtceffhkgnifmeaaDoorRtV
namespace Go.Proofs.YtceffhkgnifmeaaDoor
open Go.RowKit Go.Px

def bodyR (t : Nat) (s : Bytes) : Bool := R5.body t s
set_option maxHeartbeats 1000000 in
theorem rbody_1 (s : Bytes) (w : World) : Calls Tryd.prog 39 #[.int .u8 1, S s] w fun r w' => r = .returned (.bool (bodyR 1 s)) ∧ Same w w' := by
  have hsz : (ByteArray.mk s.toArray).size = s.length := size_S s
  have HB : bodyR 1 s = (s.length == 1 && ((s.getD 0 0).toNat == 0 || (s.getD 0 0).toNat == 255)) := rfl
  by_cases h1 : s.length = 1
  · have i0 := idx0_S s (by omega)
    obtain ⟨a, ha⟩ : ∃ a, a = (s.getD 0 0).toNat := ⟨_, rfl⟩
    rw [← ha] at i0 HB
    rw [show (s.length == 1) = true from beq_iff_eq.2 h1, Bool.true_and] at HB
    have n1 : ((s.length : Int) == 1) = true := beq_iff_eq.2 (by omega)
    have hq : (((a : Int) == 0) = true ∧ bodyR 1 s = true) ∨ (((a : Int) == 0) = false ∧ ((a : Int) == 255) = true ∧ bodyR 1 s = true) ∨ (((a : Int) == 0) = false ∧ ((a : Int) == 255) = false ∧ bodyR 1 s = false) := by
      rw [HB]
      by_cases e : a = 0
      · exact .inl ⟨beq_iff_eq.2 (by omega), by rw [e]; rfl⟩
      · by_cases e2 : a = 255
        · exact .inr (.inl ⟨beq_eq_false_iff_ne.2 (by omega), beq_iff_eq.2 (by omega), by rw [e2]; rfl⟩)
        · exact .inr (.inr ⟨beq_eq_false_iff_ne.2 (by omega), beq_eq_false_iff_ne.2 (by omega), by rw [show (a == 0) = false from beq_eq_false_iff_ne.2 e, show (a == 255) = false from beq_eq_false_iff_ne.2 e2]; rfl⟩)
    clear ha h1 HB
    rcases hq with ⟨q1, HV⟩ | ⟨q1, q2, HV⟩ | ⟨q1, q2, HV⟩
    all_goals
      replace HV := Px.hid HV
      go_enter Tryd.func39, Tryd.ntmps39
      go_wp2
      go_ret
      exact ⟨by rw [HV.out]; rfl, Same.refl _⟩
  · have HV := Px.hid (show bodyR 1 s = false by rw [HB, show (s.length == 1) = false from beq_eq_false_iff_ne.2 h1]; rfl)
    have n1 : ((s.length : Int) == 1) = false := beq_eq_false_iff_ne.2 (by omega)
    clear HB h1
    go_enter Tryd.func39, Tryd.ntmps39
    go_wp2
    go_ret
    exact ⟨by rw [HV.out]; rfl, Same.refl _⟩
set_option maxHeartbeats 1000000 in
theorem rbody_2 (s : Bytes) (w : World) : Calls Tryd.prog 39 #[.int .u8 2, S s] w fun r w' => r = .returned (.bool (bodyR 2 s)) ∧ Same w w' := by
  have hsz : (ByteArray.mk s.toArray).size = s.length := size_S s
  have HB : bodyR 2 s = (if s.length < 2 then s.length == 1 else (s.getD 0 0).toNat * 2 + (s.getD 1 0).toNat / 128 != 0 && (s.getD 0 0).toNat * 2 + (s.getD 1 0).toNat / 128 != 511) := rfl
  by_cases h2 : s.length < 2
  · rw [if_pos h2] at HB
    have hz : (s.length : Int) < 2 := by omega
    have hq : (((s.length : Int) == 1) = true ∧ bodyR 2 s = true) ∨ (((s.length : Int) == 1) = false ∧ bodyR 2 s = false) := by
      rw [HB]
      by_cases e : s.length = 1
      · exact .inl ⟨beq_iff_eq.2 (by omega), beq_iff_eq.2 e⟩
      · exact .inr ⟨beq_eq_false_iff_ne.2 (by omega), beq_eq_false_iff_ne.2 e⟩
    clear HB h2
    rcases hq with ⟨q, HV⟩ | ⟨q, HV⟩
    all_goals
      replace HV := Px.hid HV
      go_enter Tryd.func39, Tryd.ntmps39
      go_wp2
      go_ret
      exact ⟨by rw [HV.out]; rfl, Same.refl _⟩
  · rw [if_neg h2] at HB
    have hz : ¬ (s.length : Int) < 2 := by omega
    have i0 := idx0_S s (by omega)
    have i1 := idx1_S s (by omega)
    obtain ⟨a, ha⟩ : ∃ a, a = (s.getD 0 0).toNat := ⟨_, rfl⟩
    obtain ⟨c, hc⟩ : ∃ c, c = (s.getD 1 0).toNat := ⟨_, rfl⟩
    have ha2 : a < 256 := by rw [ha]; exact UInt8.toNat_lt _
    have hc2 : c < 256 := by rw [hc]; exact UInt8.toNat_lt _
    rw [← ha] at i0 HB
    rw [← hc] at i1 HB
    clear ha hc h2
    have hw0 : IntKind.i64.wrap (a : Int) = a := IntWalk.i64_in _ ⟨by omega, by omega⟩
    have hw1 : IntKind.i64.wrap (c : Int) = c := IntWalk.i64_in _ ⟨by omega, by omega⟩
    have hw2 : IntKind.i64.wrap ((a : Int) * 2) = (a : Int) * 2 := IntWalk.i64_in _ ⟨by omega, by omega⟩
    have htd : (c : Int).tdiv 128 = (c : Int) / 128 := by rw [Int.tdiv_eq_ediv_of_nonneg (by omega)]
    have hw3 : IntKind.i64.wrap ((c : Int) / 128) = (c : Int) / 128 := IntWalk.i64_in _ ⟨by omega, by omega⟩
    have hw4 : IntKind.i64.wrap ((a : Int) * 2 + (c : Int) / 128) = (a : Int) * 2 + (c : Int) / 128 := IntWalk.i64_in _ ⟨by omega, by omega⟩
    have hq : ((((a : Int) * 2 + (c : Int) / 128 != 0) = false) ∧ bodyR 2 s = false) ∨ ((((a : Int) * 2 + (c : Int) / 128 != 0) = true) ∧ (((a : Int) * 2 + (c : Int) / 128 != 511) = false) ∧ bodyR 2 s = false) ∨ ((((a : Int) * 2 + (c : Int) / 128 != 0) = true) ∧ (((a : Int) * 2 + (c : Int) / 128 != 511) = true) ∧ bodyR 2 s = true) := by
      rw [HB]
      by_cases e0 : a * 2 + c / 128 = 0
      · exact .inl ⟨bne_eq_false_iff_eq.2 (by omega), by rw [e0]; rfl⟩
      · by_cases e1 : a * 2 + c / 128 = 511
        · exact .inr (.inl ⟨bne_iff_ne.2 (by omega), bne_eq_false_iff_eq.2 (by omega), by rw [e1]; rfl⟩)
        · exact .inr (.inr ⟨bne_iff_ne.2 (by omega), bne_iff_ne.2 (by omega), by rw [show (a * 2 + c / 128 != 0) = true from bne_iff_ne.2 e0, show (a * 2 + c / 128 != 511) = true from bne_iff_ne.2 e1]; rfl⟩)
    clear HB
    rcases hq with ⟨q1, HV⟩ | ⟨q1, q2, HV⟩ | ⟨q1, q2, HV⟩
    all_goals
      replace HV := Px.hid HV
      go_enter Tryd.func39, Tryd.ntmps39
      go_wp2_with fail
      go_region
      go_wp2
      go_ret
      exact ⟨by rw [HV.out]; rfl, (Fr.refl _ w).drew⟩
theorem rbody_5 (s : Bytes) (w : World) : Calls Tryd.prog 39 #[.int .u8 5, S s] w fun r w' => r = .returned (.bool (bodyR 5 s)) ∧ Same w w' := by
  have hsz : (ByteArray.mk s.toArray).size = s.length := size_S s
  have hq : (((s.length : Int) == 0) = true ∧ bodyR 5 s = true) ∨ (((s.length : Int) == 0) = false ∧ bodyR 5 s = false) := by
    rw [show bodyR 5 s = (s.length == 0) from rfl]
    by_cases e : s.length = 0
    · exact .inl ⟨beq_iff_eq.2 (by omega), beq_iff_eq.2 e⟩
    · exact .inr ⟨beq_eq_false_iff_ne.2 (by omega), beq_eq_false_iff_ne.2 e⟩
  rcases hq with ⟨q, HV⟩ | ⟨q, HV⟩
  all_goals
    replace HV := Px.hid HV
    go_enter Tryd.func39, Tryd.ntmps39
    go_wp2
    go_ret
    exact ⟨by rw [HV.out]; rfl, Same.refl _⟩
theorem rbody_else (t : Nat) (ht : t ≠ 1 ∧ t ≠ 2 ∧ t ≠ 3 ∧ t ≠ 5 ∧ t ≠ 6 ∧ t ≠ 12) (s : Bytes) (w : World) : Calls Tryd.prog 39 #[.int .u8 (t : Nat), S s] w fun r w' => r = .returned (.bool (bodyR t s)) ∧ Same w w' := by
  obtain ⟨h1, h2, h3, h5, h6, h12⟩ := ht
  have HV := Px.hid (show bodyR t s = true by simp [bodyR, R5.body, h1, h2, h3, h5, h6, h12])
  have hsz : (ByteArray.mk s.toArray).size = s.length := size_S s
  have z1 : ((t : Int) == 1) = false := by simp; omega
  have z2 : ((t : Int) == 2) = false := by simp; omega
  have z3 : ((t : Int) == 3) = false := by simp; omega
  have z5 : ((t : Int) == 5) = false := by simp; omega
  have z6 : ((t : Int) == 6) = false := by simp; omega
  have z12 : ((t : Int) == 12) = false := by simp; omega
  clear h1 h2 h3 h5 h6 h12
  go_enter Tryd.func39, Tryd.ntmps39
  go_wp2
  go_ret
  exact ⟨by rw [HV.out]; rfl, Same.refl _⟩
theorem rbody_12 (s : Bytes) (hs : s.length ≤ maxLen) (w : World) : Calls Tryd.prog 39 #[.int .u8 12, S s] w fun r w' => r = .returned (.bool (bodyR 12 s)) ∧ Same w w' := by
  have HC := Px.hid (text_any s w hs)
  have hsz : (ByteArray.mk s.toArray).size = s.length := size_S s
  clear hs
  go_enter Tryd.func39, Tryd.ntmps39
  go_wp2_with fail
  refine HC.out.mono ?_
  rintro r w1 ⟨rfl, hb⟩
  have HB := Px.hid hb
  clear hb
  go_wp2
  go_ret
  exact ⟨rfl, HB.out⟩
theorem bit_tmod (z k : Nat) : (((z : Int) / 2 ^ k).tmod 2 == 1) = (z / 2 ^ k % 2 == 1) := by
  have e : (z : Int) / 2 ^ k = ((z / 2 ^ k : Nat) : Int) := by push_cast; rfl
  rw [e, show ((z / 2 ^ k : Nat) : Int).tmod 2 = ((z / 2 ^ k % 2 : Nat) : Int) from (Int.ofNat_tmod _ 2).symm, Bool.eq_iff_iff, beq_iff_eq, beq_iff_eq]
  omega
theorem bits_step (z a k : Nat) (hk : k < a) : R5.bitsN z (a - k) k = if z / 2 ^ k % 2 == 1 then false else R5.bitsN z (a - (k + 1)) (k + 1) := by
  rw [show a - k = (a - (k + 1)) + 1 by omega]
  rfl
set_option maxHeartbeats 2000000 in
theorem rbody_3 (s : Bytes) (hs : s.length ≤ 140737488355327) (w : World) : Calls Tryd.prog 39 #[.int .u8 3, S s] w fun r w' => r = .returned (.bool (bodyR 3 s)) ∧ Same w w' := by
  have hsz : (ByteArray.mk s.toArray).size = s.length := size_S s
  have HB : bodyR 3 s = (if s.length < 2 then s.length == 1 && (s.getD 0 0).toNat == 0 else if 7 < (s.getD 0 0).toNat then false else R5.bitsN (s.getD (s.length - 1) 0).toNat (s.getD 0 0).toNat 0) := rfl
  by_cases h2 : s.length < 2
  · rw [if_pos h2] at HB
    have hz : (s.length : Int) < 2 := by omega
    by_cases h1 : s.length = 1
    · have i0 := idx0_S s (by omega)
      obtain ⟨a, ha⟩ : ∃ a, a = (s.getD 0 0).toNat := ⟨_, rfl⟩
      rw [← ha] at i0 HB
      rw [show (s.length == 1) = true from beq_iff_eq.2 h1, Bool.true_and] at HB
      have n1 : ((s.length : Int) == 1) = true := beq_iff_eq.2 (by omega)
      have hq : (((a : Int) == 0) = true ∧ bodyR 3 s = true) ∨ (((a : Int) == 0) = false ∧ bodyR 3 s = false) := by
        rw [HB]
        by_cases e : a = 0
        · exact .inl ⟨beq_iff_eq.2 (by omega), beq_iff_eq.2 e⟩
        · exact .inr ⟨beq_eq_false_iff_ne.2 (by omega), beq_eq_false_iff_ne.2 e⟩
      clear ha h1 h2 HB hs
      rcases hq with ⟨q1, HV⟩ | ⟨q1, HV⟩
      all_goals
        replace HV := Px.hid HV
        go_enter Tryd.func39, Tryd.ntmps39
        go_wp2
        go_ret
        exact ⟨by rw [HV.out]; rfl, Same.refl _⟩
    · have HV := Px.hid (show bodyR 3 s = false by rw [HB, show (s.length == 1) = false from beq_eq_false_iff_ne.2 h1]; rfl)
      have n1 : ((s.length : Int) == 1) = false := beq_eq_false_iff_ne.2 (by omega)
      clear HB h1 h2 hs
      go_enter Tryd.func39, Tryd.ntmps39
      go_wp2
      go_ret
      exact ⟨by rw [HV.out]; rfl, Same.refl _⟩
  · rw [if_neg h2] at HB
    have hz : ¬ (s.length : Int) < 2 := by omega
    have i0 := idx0_S s (by omega)
    have i1 := idxz_S s (by omega)
    obtain ⟨a, ha⟩ : ∃ a, a = (s.getD 0 0).toNat := ⟨_, rfl⟩
    obtain ⟨z, hzz⟩ : ∃ z, z = (s.getD (s.length - 1) 0).toNat := ⟨_, rfl⟩
    have hz2 : z < 256 := by rw [hzz]; exact UInt8.toNat_lt _
    rw [← ha] at i0 HB
    rw [← hzz] at i1 HB
    clear ha hzz h2
    by_cases h7 : 7 < a
    · rw [if_pos h7] at HB
      have HV := Px.hid HB
      have q : (7 : Int) < a := by omega
      clear HB h7 hs
      go_enter Tryd.func39, Tryd.ntmps39
      go_wp2
      go_ret
      exact ⟨by rw [HV.out]; rfl, Same.refl _⟩
    · rw [if_neg h7] at HB
      have HV := Px.hid HB
      have q : ¬ (7 : Int) < a := by omega
      clear HB
      go_enter Tryd.func39, Tryd.ntmps39
      go_wp2
      go_loop [7] (fun i => ∃ k : Nat, k ≤ a ∧ i = .int .i64 (k : Nat) ∧ Hid (R5.bitsN z a 0 = R5.bitsN z (a - k) k)) (fun i => a - (intOf i).toNat)
      case atStart => exact ⟨0, Nat.zero_le _, rfl, Px.hid rfl⟩
      case round =>
        obtain ⟨k, hk, rfl, HR⟩ := hrel
        by_cases hlt : k < a
        · have hltz : (k : Int) < (a : Int) := by omega
          have hk8 : (k : Int) < 8 := by omega
          have hst := bits_step z a k hlt
          have hbt := bit_tmod z k
          cases hb : (z / 2 ^ k % 2 == 1) with
          | true =>
            rw [hb] at hst hbt
            have HE := Px.hid (show bodyR 3 s = false by rw [HV.out, HR.out, hst]; rfl)
            clear hst hb
            go_wp2
            go_ret
            exact ⟨by rw [HE.out]; rfl, Same.refl _⟩
          | false =>
            rw [hb] at hst hbt
            have HE := Px.hid (HR.out.trans hst)
            clear hst hb
            go_wp2
            go_round
            case rel => exact ⟨k + 1, by omega, by go_num, HE⟩
            case measure => simp [intOf]; omega
        · have hltz : ¬ (k : Int) < (a : Int) := by omega
          have HE := Px.hid (show bodyR 3 s = true by rw [HV.out, HR.out, show a - k = 0 by omega]; rfl)
          clear hlt
          go_wp2
          go_ret
          exact ⟨by rw [HE.out]; rfl, Same.refl _⟩
theorem oid_drop (s : Bytes) (k : Nat) (f : Bool) (hk : k < s.length) : R5.oidN (s.drop k) f = if f && ((s.getD k 0).toNat == 128) then false else R5.oidN (s.drop (k + 1)) (decide ((s.getD k 0).toNat < 128)) := by
  have hd : s.drop k = s.getD k 0 :: s.drop (k + 1) := by
    rw [List.drop_eq_getElem_cons hk, List.getD_eq_getElem?_getD, List.getElem?_eq_getElem hk]
    rfl
  have hc : ((s.getD k 0) == 128) = ((s.getD k 0).toNat == 128) := by
    rw [Bool.eq_iff_iff, beq_iff_eq, beq_iff_eq]
    exact ⟨fun e => by rw [e]; rfl, fun e => UInt8.toNat_inj.1 (by rw [e]; rfl)⟩
  rw [hd]
  conv => lhs; unfold R5.oidN
  rw [hc]
set_option maxHeartbeats 2000000 in
theorem rbody_6 (s : Bytes) (hs : s.length ≤ 140737488355327) (w : World) : Calls Tryd.prog 39 #[.int .u8 6, S s] w fun r w' => r = .returned (.bool (bodyR 6 s)) ∧ Same w w' := by
  have hsz : (ByteArray.mk s.toArray).size = s.length := size_S s
  have HV := Px.hid (show bodyR 6 s = (decide (0 < s.length) && R5.oidN (s.drop 0) true) by rw [List.drop_zero]; rfl)
  go_enter Tryd.func39, Tryd.ntmps39
  go_wp2
  go_loop [8, 9] (fun f i => ∃ (k : Nat) (g : Bool), k ≤ s.length ∧ i = .int .i64 (k : Nat) ∧ f = .bool g ∧ Hid (R5.oidN (s.drop 0) true = R5.oidN (s.drop k) g)) (fun _ i => s.length - (intOf i).toNat)
  case atStart => exact ⟨0, true, Nat.zero_le _, rfl, rfl, Px.hid rfl⟩
  case round =>
    obtain ⟨k, g, hk, rfl, rfl, HR⟩ := hrel
    by_cases hlt : k < s.length
    · have hltz : (k : Int) < (s.length : Int) := by omega
      have ik := idx_S s k hlt
      have hst := oid_drop s k g hlt
      obtain ⟨c, hc⟩ : ∃ c, c = (s.getD k 0).toNat := ⟨_, rfl⟩
      rw [← hc] at ik hst
      clear hc
      have hcz : decide ((c : Int) < 128) = decide (c < 128) := decide_eq_decide.2 (by omega)
      have HCZ := Px.hid hcz
      clear hcz
      cases g with
      | false =>
        rw [Bool.false_and, if_neg (by simp)] at hst
        have HE := Px.hid (HR.out.trans hst)
        clear hst
        go_wp2
        go_round
        case rel => exact ⟨k + 1, decide (c < 128), by omega, by go_num, by rw [HCZ.out], HE⟩
        case measure => simp [intOf]; omega
      | true =>
        rw [Bool.true_and] at hst
        by_cases e : c = 128
        · rw [if_pos (beq_iff_eq.2 e)] at hst
          have HE := Px.hid (show bodyR 6 s = false by rw [HV.out, HR.out, hst, Bool.and_false])
          have q : ((c : Int) == 128) = true := beq_iff_eq.2 (by omega)
          clear hst e
          go_wp2
          go_ret
          exact ⟨by rw [HE.out]; rfl, Same.refl _⟩
        · rw [if_neg (by rw [beq_iff_eq]; exact e)] at hst
          have HE := Px.hid (HR.out.trans hst)
          have q : ((c : Int) == 128) = false := beq_eq_false_iff_ne.2 (by omega)
          clear hst e
          go_wp2
          go_round
          case rel => exact ⟨k + 1, decide (c < 128), by omega, by go_num, by rw [HCZ.out], HE⟩
          case measure => simp [intOf]; omega
    · have hltz : ¬ (k : Int) < (s.length : Int) := by omega
      have hkl : k = s.length := by omega
      have HE := Px.hid (show bodyR 6 s = (decide (0 < s.length) && g) by rw [HV.out, HR.out, hkl, List.drop_length]; rfl)
      clear hlt hkl
      have hq : ((0 : Int) < (s.length : Int) ∧ bodyR 6 s = g) ∨ (¬ (0 : Int) < (s.length : Int) ∧ bodyR 6 s = false) := by
        rw [HE.out]
        by_cases e : 0 < s.length
        · exact .inl ⟨by omega, by rw [decide_eq_true e]; rfl⟩
        · exact .inr ⟨by omega, by rw [decide_eq_false e]; rfl⟩
      rcases hq with ⟨q, e⟩ | ⟨q, e⟩
      all_goals
        have HX := Px.hid e
        clear e
        go_wp2
        go_ret
        exact ⟨by rw [HX.out]; rfl, Same.refl _⟩
theorem rbody_any (t : Nat) (s : Bytes) (hs : s.length ≤ 140737488355327) (w : World) : Calls Tryd.prog 39 #[.int .u8 (t : Nat), S s] w fun r w' => r = .returned (.bool (R5.body t s)) ∧ Same w w' := by
  by_cases h1 : t = 1
  · subst h1; exact rbody_1 s w
  by_cases h2 : t = 2
  · subst h2; exact rbody_2 s w
  by_cases h3 : t = 3
  · subst h3; exact rbody_3 s hs w
  by_cases h5 : t = 5
  · subst h5; exact rbody_5 s w
  by_cases h6 : t = 6
  · subst h6; exact rbody_6 s hs w
  by_cases h12 : t = 12
  · subst h12; exact rbody_12 s (by unfold maxLen; omega) w
  exact rbody_else t ⟨h1, h2, h3, h5, h6, h12⟩ s w
end Go.Proofs.YtceffhkgnifmeaaDoor
