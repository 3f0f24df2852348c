/-
  The walk over jsonfeed's text.digit, joined (printed by gen_wj.py).
-/
import Derived.Test.YtahojodgmjmpnaaWiJ
namespace Go.Proofs.Ytahojodgmjmpnaa
open Go.RowKit Go.Px

theorem hex_some (z h : Nat) (hh : R6.hex z = some h) : (48 ≤ z ∧ z ≤ 57 ∧ h = z - 48) ∨ (97 ≤ z ∧ z ≤ 102 ∧ h = z - 87) ∨ (65 ≤ z ∧ z ≤ 70 ∧ h = z - 55) := by
  unfold R6.hex R6.digit at hh
  simp only [Bool.and_eq_true, decide_eq_true_eq] at hh
  by_cases h1 : 48 ≤ z ∧ z ≤ 57
  · rw [if_pos h1] at hh; simp only [Option.some.injEq] at hh; omega
  · rw [if_neg h1] at hh
    by_cases h2 : 97 ≤ z ∧ z ≤ 102
    · rw [if_pos h2] at hh; simp only [Option.some.injEq] at hh; omega
    · rw [if_neg h2] at hh
      by_cases h3 : 65 ≤ z ∧ z ≤ 70
      · rw [if_pos h3] at hh; simp only [Option.some.injEq] at hh; omega
      · rw [if_neg h3] at hh; cases hh
theorem fourth_bad (t : J6.Txt) (n : Nat) (h : (decide (56320 ≤ n) && decide (n < 57344)) = !(t.high != 0)) : J6.fourth t n = (.refuses, { t with code := n, count := 0 }) := by
  unfold J6.fourth
  simp only [h]
  cases (t.high != 0) <;> rfl
theorem fourth_pair (t : J6.Txt) (n : Nat) (h1 : 56320 ≤ n) (h2 : n < 57344) (h3 : t.high ≠ 0) : J6.fourth t n = (.takes, { t with code := 65536 + (t.high - 55296) * 1024 + n - 56320, count := 0, high := 0, out := t.out ++ R6.sign8 (65536 + (t.high - 55296) * 1024 + n - 56320), mode := 0 }) := by
  have e1 : (t.high != 0) = true := by simpa using h3
  have e2 : (decide (56320 ≤ n) && decide (n < 57344)) = true := by simp; omega
  unfold J6.fourth
  simp only [e1, e2]
  rfl
theorem fourth_half (t : J6.Txt) (n : Nat) (h1 : 55296 ≤ n) (h2 : n < 56320) (h3 : t.high = 0) : J6.fourth t n = (.takes, { t with code := n, count := 0, high := n, mode := 3 }) := by
  have e1 : (t.high != 0) = false := by simp [h3]
  have e2 : (decide (56320 ≤ n) && decide (n < 57344)) = false := by simp; omega
  have e3 : (decide (55296 ≤ n) && decide (n < 56320)) = true := by simp; omega
  unfold J6.fourth
  simp only [e1, e2, e3]
  rfl
theorem fourth_one (t : J6.Txt) (n : Nat) (h : n < 55296 ∨ 57344 ≤ n) (h3 : t.high = 0) : J6.fourth t n = (.takes, { t with code := n, count := 0, out := t.out ++ R6.sign8 n, mode := 0 }) := by
  have e1 : (t.high != 0) = false := by simp [h3]
  have e2 : (decide (56320 ≤ n) && decide (n < 57344)) = false := by simp; omega
  have e3 : (decide (55296 ≤ n) && decide (n < 56320)) = false := by simp; omega
  unfold J6.fourth
  simp only [e1, e2, e3]
  rfl
theorem digit_a (b : Nat) (t : J6.Txt) (vt : Value) (z : Nat) (hz : 48 ≤ z) (hz2 : z ≤ 57) (hk : t.code ≤ 4095) (hm : 1 ≤ t.count) (hm4 : t.count ≤ 4) (hh : t.high = 0 ∨ (55296 ≤ t.high ∧ t.high < 56320)) (hl : t.out.length ≤ 1000000) (hx : R6.hex z = some (z - 48)) (w : World) (h : TxtAt w b t vt) :
    Calls Try.prog 95 #[.pointer (some ⟨b, 0, none⟩), .int .u8 (z : Nat)] w (TxtPost w b vt (J6.digitTake t z)) := by
  rw [digit_res t z _ hx]
  obtain ⟨n, hn⟩ : ∃ n, n = t.code * 16 + (z - 48) := ⟨_, rfl⟩
  rw [← hn]
  by_cases h1 : 1 < t.count
  · rw [if_pos h1]
    exact digit_a_t b t vt z t.code n t.count t.high hz hz2 hk hn h1 hm4 w h rfl rfl rfl
  · rw [if_neg h1]
    have h1 : t.count = 1 := by omega
    by_cases hlow : 56320 ≤ n ∧ n < 57344
    · by_cases hg : t.high = 0
      · rw [fourth_bad t n (by simp [hg]; omega)]
        exact digit_a_r1 b t vt z t.code n hz hz2 hk hn hlow.1 hlow.2 w h rfl h1 hg
      · rw [fourth_pair t n hlow.1 hlow.2 hg]
        exact digit_a_2 b t vt z t.code n t.high _ hz hz2 hk hn hlow.1 hlow.2 (by omega) (by omega) rfl hl w h rfl h1 rfl
    · by_cases hg : t.high = 0
      · by_cases hhalf : 55296 ≤ n ∧ n < 56320
        · rw [fourth_half t n hhalf.1 hhalf.2 hg]
          exact digit_a_s b t vt z t.code n hz hz2 hk hn hhalf.1 hhalf.2 w h rfl h1 hg
        · rw [fourth_one t n (by omega) hg]
          by_cases h4 : n < 55296
          · exact digit_a_4a b t vt z t.code n hz hz2 hk hn h4 hl w h rfl h1 hg
          · exact digit_a_4b b t vt z t.code n hz hz2 hk hn (by omega) hl w h rfl h1 hg
      · rw [fourth_bad t n (by have e : (t.high != 0) = true := by simpa using hg
                               rw [e]; simp; omega)]
        by_cases h4 : n < 56320
        · exact digit_a_r2a b t vt z t.code n t.high hz hz2 hk hn h4 hg w h rfl h1 rfl
        · exact digit_a_r2b b t vt z t.code n t.high hz hz2 hk hn (by omega) hg w h rfl h1 rfl
theorem digit_b (b : Nat) (t : J6.Txt) (vt : Value) (z : Nat) (hz : 97 ≤ z) (hz2 : z ≤ 102) (hk : t.code ≤ 4095) (hm : 1 ≤ t.count) (hm4 : t.count ≤ 4) (hh : t.high = 0 ∨ (55296 ≤ t.high ∧ t.high < 56320)) (hl : t.out.length ≤ 1000000) (hx : R6.hex z = some (z - 87)) (w : World) (h : TxtAt w b t vt) :
    Calls Try.prog 95 #[.pointer (some ⟨b, 0, none⟩), .int .u8 (z : Nat)] w (TxtPost w b vt (J6.digitTake t z)) := by
  rw [digit_res t z _ hx]
  obtain ⟨n, hn⟩ : ∃ n, n = t.code * 16 + (z - 87) := ⟨_, rfl⟩
  rw [← hn]
  by_cases h1 : 1 < t.count
  · rw [if_pos h1]
    exact digit_b_t b t vt z t.code n t.count t.high hz hz2 hk hn h1 hm4 w h rfl rfl rfl
  · rw [if_neg h1]
    have h1 : t.count = 1 := by omega
    by_cases hlow : 56320 ≤ n ∧ n < 57344
    · by_cases hg : t.high = 0
      · rw [fourth_bad t n (by simp [hg]; omega)]
        exact digit_b_r1 b t vt z t.code n hz hz2 hk hn hlow.1 hlow.2 w h rfl h1 hg
      · rw [fourth_pair t n hlow.1 hlow.2 hg]
        exact digit_b_2 b t vt z t.code n t.high _ hz hz2 hk hn hlow.1 hlow.2 (by omega) (by omega) rfl hl w h rfl h1 rfl
    · by_cases hg : t.high = 0
      · by_cases hhalf : 55296 ≤ n ∧ n < 56320
        · rw [fourth_half t n hhalf.1 hhalf.2 hg]
          exact digit_b_s b t vt z t.code n hz hz2 hk hn hhalf.1 hhalf.2 w h rfl h1 hg
        · rw [fourth_one t n (by omega) hg]
          by_cases h4 : n < 55296
          · exact digit_b_4a b t vt z t.code n hz hz2 hk hn h4 hl w h rfl h1 hg
          · exact digit_b_4b b t vt z t.code n hz hz2 hk hn (by omega) hl w h rfl h1 hg
      · rw [fourth_bad t n (by have e : (t.high != 0) = true := by simpa using hg
                               rw [e]; simp; omega)]
        by_cases h4 : n < 56320
        · exact digit_b_r2a b t vt z t.code n t.high hz hz2 hk hn h4 hg w h rfl h1 rfl
        · exact digit_b_r2b b t vt z t.code n t.high hz hz2 hk hn (by omega) hg w h rfl h1 rfl
theorem digit_c (b : Nat) (t : J6.Txt) (vt : Value) (z : Nat) (hz : 65 ≤ z) (hz2 : z ≤ 70) (hk : t.code ≤ 4095) (hm : 1 ≤ t.count) (hm4 : t.count ≤ 4) (hh : t.high = 0 ∨ (55296 ≤ t.high ∧ t.high < 56320)) (hl : t.out.length ≤ 1000000) (hx : R6.hex z = some (z - 55)) (w : World) (h : TxtAt w b t vt) :
    Calls Try.prog 95 #[.pointer (some ⟨b, 0, none⟩), .int .u8 (z : Nat)] w (TxtPost w b vt (J6.digitTake t z)) := by
  rw [digit_res t z _ hx]
  obtain ⟨n, hn⟩ : ∃ n, n = t.code * 16 + (z - 55) := ⟨_, rfl⟩
  rw [← hn]
  by_cases h1 : 1 < t.count
  · rw [if_pos h1]
    exact digit_c_t b t vt z t.code n t.count t.high hz hz2 hk hn h1 hm4 w h rfl rfl rfl
  · rw [if_neg h1]
    have h1 : t.count = 1 := by omega
    by_cases hlow : 56320 ≤ n ∧ n < 57344
    · by_cases hg : t.high = 0
      · rw [fourth_bad t n (by simp [hg]; omega)]
        exact digit_c_r1 b t vt z t.code n hz hz2 hk hn hlow.1 hlow.2 w h rfl h1 hg
      · rw [fourth_pair t n hlow.1 hlow.2 hg]
        exact digit_c_2 b t vt z t.code n t.high _ hz hz2 hk hn hlow.1 hlow.2 (by omega) (by omega) rfl hl w h rfl h1 rfl
    · by_cases hg : t.high = 0
      · by_cases hhalf : 55296 ≤ n ∧ n < 56320
        · rw [fourth_half t n hhalf.1 hhalf.2 hg]
          exact digit_c_s b t vt z t.code n hz hz2 hk hn hhalf.1 hhalf.2 w h rfl h1 hg
        · rw [fourth_one t n (by omega) hg]
          by_cases h4 : n < 55296
          · exact digit_c_4a b t vt z t.code n hz hz2 hk hn h4 hl w h rfl h1 hg
          · exact digit_c_4b b t vt z t.code n hz hz2 hk hn (by omega) hl w h rfl h1 hg
      · rw [fourth_bad t n (by have e : (t.high != 0) = true := by simpa using hg
                               rw [e]; simp; omega)]
        by_cases h4 : n < 56320
        · exact digit_c_r2a b t vt z t.code n t.high hz hz2 hk hn h4 hg w h rfl h1 rfl
        · exact digit_c_r2b b t vt z t.code n t.high hz hz2 hk hn (by omega) hg w h rfl h1 rfl
theorem text_digit (b : Nat) (t : J6.Txt) (vt : Value) (z : Nat) (hk : t.code ≤ 4095) (hm : 1 ≤ t.count) (hm4 : t.count ≤ 4) (hh : t.high = 0 ∨ (55296 ≤ t.high ∧ t.high < 56320)) (hl : t.out.length ≤ 1000000) (w : World) (h : TxtAt w b t vt) :
    Calls Try.prog 95 #[.pointer (some ⟨b, 0, none⟩), .int .u8 (z : Nat)] w (TxtPost w b vt (J6.digitTake t z)) := by
  cases hx : R6.hex z with
  | none =>
    have e : J6.digitTake t z = (.refuses, t) := by unfold J6.digitTake; rw [hx]
    rw [e]
    exact digit_none b t vt z hx w h
  | some d =>
    rcases hex_some z d hx with ⟨h1, h2, h3⟩ | ⟨h1, h2, h3⟩ | ⟨h1, h2, h3⟩
    · subst h3; exact digit_a b t vt z h1 h2 hk hm hm4 hh hl hx w h
    · subst h3; exact digit_b b t vt z h1 h2 hk hm hm4 hh hl hx w h
    · subst h3; exact digit_c b t vt z h1 h2 hk hm hm4 hh hl hx w h
end Go.Proofs.Ytahojodgmjmpnaa
