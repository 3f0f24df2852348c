/-
  The program's body of layer 15 says what the reference's does (plain law). No program is named here.
-/
import Derived.Test.YtceffhkgnifmeaaDoorD5M
namespace Go.Px.D5
open R5 (oidN bitsN)
theorem bitsN_mod : ∀ (m c i : Nat), bitsN c m i = decide (c / 2 ^ i % 2 ^ m = 0)
  | 0, c, i => by unfold bitsN; rw [Nat.pow_zero, Nat.mod_one, decide_eq_true rfl]
  | m + 1, c, i => by
    have h2 : c / 2 ^ (i + 1) = c / 2 ^ i / 2 := by rw [Nat.pow_succ, Nat.div_div_eq_div_mul]
    have h3 : c / 2 ^ i % 2 ^ (m + 1) = c / 2 ^ i % 2 + 2 * (c / 2 ^ i / 2 % 2 ^ m) := by rw [Nat.pow_succ, Nat.mul_comm (2 ^ m) 2, Nat.mod_mul]
    unfold bitsN
    rw [bitsN_mod m c (i + 1), h2, h3]
    by_cases h : c / 2 ^ i % 2 = 1
    · rw [if_pos (by simpa using h), decide_eq_false (by omega)]
    · rw [if_neg (by simpa using h)]
      exact decide_eq_decide.2 (by omega)
def fresh (s : Bytes) (i : Nat) : Bool := i == 0 || decide ((s.getD (i - 1) 0).toNat < 128)
def oidLoop (s : Bytes) : Nat → Nat → Bool
  | 0, _ => true
  | m + 1, i => if (s.getD i 0).toNat == 128 && fresh s i then false else oidLoop s m (i + 1)
theorem oidN_loop (s : Bytes) : ∀ (m i : Nat), i + m = s.length → oidN (s.drop i) (fresh s i) = (oidLoop s m i && fresh s s.length)
  | 0, i, h => by
    rw [List.drop_eq_nil_of_le (by omega)]
    have : i = s.length := by omega
    rw [this]
    rfl
  | m + 1, i, h => by
    have hd : s.drop i = s.getD i 0 :: s.drop (i + 1) := by
      rw [List.drop_eq_getElem_cons (show i < s.length by omega), List.getD_eq_getElem?_getD, List.getElem?_eq_getElem (show i < s.length by omega)]
      rfl
    rw [hd]
    unfold oidN oidLoop
    have hc : ((s.getD i 0) == 128) = ((s.getD i 0).toNat == 128) := by
      rw [Bool.eq_iff_iff, beq_iff_eq, beq_iff_eq]
      exact ⟨fun e => by rw [e]; rfl, fun e => UInt8.toNat_inj.1 (by rw [e]; rfl)⟩
    rw [hc, Bool.and_comm]
    by_cases hx : ((s.getD i 0).toNat == 128 && fresh s i) = true
    · rw [if_pos hx, if_pos hx]; rfl
    · rw [if_neg hx, if_neg hx]
      have hf : fresh s (i + 1) = decide ((s.getD i 0).toNat < 128) := rfl
      rw [← hf]
      exact oidN_loop s m (i + 1) (by omega)
/-- What the program's body says. -/
def body (t : Nat) (s : Bytes) : Bool :=
  let n := s.length
  let a := (s.getD 0 0).toNat
  let b := (s.getD 1 0).toNat
  let z := (s.getD (n - 1) 0).toNat
  if t == 1 then s == [0] || s == [255]
  else if t == 2 then n == 1 || (decide (1 < n) && !(a == 0 && decide (b < 128)) && !(a == 255 && decide (128 ≤ b)))
  else if t == 3 then (n == 1 && a == 0) || (decide (1 < n) && decide (a < 8) && z % 2 ^ a == 0)
  else if t == 5 then n == 0
  else if t == 6 then (if n == 0 || decide (128 ≤ z) then false else oidLoop s n 0)
  else if t == 12 then Lib.validD s
  else true
theorem one_byte (s : Bytes) (c : UInt8) : (s == [c]) = (s.length == 1 && (s.getD 0 0).toNat == c.toNat) := by
  rw [Bool.eq_iff_iff, beq_iff_eq, Bool.and_eq_true, beq_iff_eq, beq_iff_eq]
  constructor
  · intro e; rw [e]; exact ⟨rfl, rfl⟩
  · rintro ⟨h1, h2⟩
    match s, h1 with
    | [a], _ => rw [UInt8.toNat_inj.1 (show a.toNat = c.toNat from h2)]
theorem body_eq (t : Nat) (s : Bytes) : body t s = R5.body t s := by
  have ha : (s.getD 0 0).toNat < 256 := (s.getD 0 0).toNat_lt
  have hb : (s.getD 1 0).toNat < 256 := (s.getD 1 0).toNat_lt
  unfold body R5.body
  simp only
  by_cases h1 : (t == 1) = true
  · rw [if_pos h1, if_pos h1, one_byte, one_byte, ← Bool.and_or_distrib_left]
    rfl
  · rw [if_neg h1, if_neg h1]
    by_cases h2 : (t == 2) = true
    · rw [if_pos h2, if_pos h2]
      rw [Bool.eq_iff_iff]
      by_cases hn : s.length < 2
      · rw [if_pos hn]
        simp only [Bool.or_eq_true, Bool.and_eq_true, beq_iff_eq, decide_eq_true_eq]
        omega
      · rw [if_neg hn]
        simp only [Bool.or_eq_true, Bool.and_eq_true, beq_iff_eq, decide_eq_true_eq, Bool.not_eq_true', bne_iff_ne, Bool.and_eq_false_iff, beq_eq_false_iff_ne, decide_eq_false_iff_not]
        omega
    · rw [if_neg h2, if_neg h2]
      by_cases h3 : (t == 3) = true
      · rw [if_pos h3, if_pos h3, bitsN_mod, Nat.pow_zero, Nat.div_one]
        rw [Bool.eq_iff_iff]
        by_cases hn : s.length < 2
        · rw [if_pos hn]
          simp only [Bool.or_eq_true, Bool.and_eq_true, beq_iff_eq, decide_eq_true_eq]
          omega
        · rw [if_neg hn]
          by_cases h7 : 7 < (s.getD 0 0).toNat
          · rw [if_pos h7]
            simp only [Bool.or_eq_true, Bool.and_eq_true, beq_iff_eq, decide_eq_true_eq, Bool.false_eq_true, iff_false]
            omega
          · rw [if_neg h7]
            simp only [Bool.or_eq_true, Bool.and_eq_true, beq_iff_eq, decide_eq_true_eq]
            omega
      · rw [if_neg h3, if_neg h3]
        by_cases h5 : (t == 5) = true
        · rw [if_pos h5, if_pos h5]
        · rw [if_neg h5, if_neg h5]
          by_cases h6 : (t == 6) = true
          · rw [if_pos h6, if_pos h6]
            have h := oidN_loop s s.length 0 (Nat.zero_add _)
            rw [List.drop_zero] at h
            have hf : fresh s 0 = true := rfl
            rw [hf] at h
            rw [h]
            unfold fresh
            by_cases hn : s.length = 0
            · rw [if_pos (by rw [hn]; rfl), hn]; rfl
            · have e1 : (s.length == 0) = false := by simpa using hn
              have e2 : decide (0 < s.length) = true := decide_eq_true (by omega)
              rw [e1, e2, Bool.false_or, Bool.false_or, Bool.true_and]
              by_cases hz : 128 ≤ (s.getD (s.length - 1) 0).toNat
              · rw [if_pos (decide_eq_true hz), decide_eq_false (by omega), Bool.and_false]
              · rw [if_neg (by simpa using hz), decide_eq_true (by omega), Bool.and_true]
          · rw [if_neg h6, if_neg h6]
end Go.Px.D5
