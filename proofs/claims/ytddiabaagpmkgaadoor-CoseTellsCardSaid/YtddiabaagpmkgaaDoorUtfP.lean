/-
  UTF-8 as the reference reads it, against the library's words (plain law). No program is named here.
-/
import Derived.Test.YtddiabaagpmkgaaDoorCborM
import Derived.Lib.TrimUEq
import Derived.Lib.MapLaws
namespace Go.Px.Utf
open Go.Lib

/-- How many bytes the sign at the beginning has; 0: it is none. -/
def utfW (l : Bytes) : Nat := if l = [] then 0 else if (decodeL l).1 = 65533 ∧ (decodeL l).2 = 1 then 0 else (decodeL l).2
def utfE (n b0 b1 b2 b3 : Nat) : Nat :=
  if b0 < 128 then 1
  else if 192 ≤ b0 ∧ b0 < 224 then
    (if n < 2 then 0 else if b1 < 128 ∨ 191 < b1 then 0 else if (b0 - 192) * 64 + (b1 - 128) < 128 then 0 else 2)
  else if 224 ≤ b0 ∧ b0 < 240 then
    (if n < 3 then 0 else if b1 < 128 ∨ 191 < b1 then 0 else if b2 < 128 ∨ 191 < b2 then 0 else
      if ((b0 - 224) * 64 + (b1 - 128)) * 64 + (b2 - 128) < 2048 ∨ (55296 ≤ ((b0 - 224) * 64 + (b1 - 128)) * 64 + (b2 - 128) ∧ ((b0 - 224) * 64 + (b1 - 128)) * 64 + (b2 - 128) < 57344) then 0 else 3)
  else if 240 ≤ b0 ∧ b0 < 248 then
    (if n < 4 then 0 else if b1 < 128 ∨ 191 < b1 then 0 else if b2 < 128 ∨ 191 < b2 then 0 else if b3 < 128 ∨ 191 < b3 then 0 else
      if (((b0 - 240) * 64 + (b1 - 128)) * 64 + (b2 - 128)) * 64 + (b3 - 128) < 65536 ∨ 1114111 < (((b0 - 240) * 64 + (b1 - 128)) * 64 + (b2 - 128)) * 64 + (b3 - 128) then 0 else 4)
  else 0
set_option maxHeartbeats 2000000 in
theorem utfE_of (n b0 b1 b2 b3 : Nat) (h0 : b0 < 256) (h1 : b1 < 256) (h2 : b2 < 256) (h3 : b3 < 256) :
    (if (decodeN n b0 b1 b2 b3).1 = 65533 ∧ (decodeN n b0 b1 b2 b3).2 = 1 then 0 else (decodeN n b0 b1 b2 b3).2) = utfE n b0 b1 b2 b3 := by
  obtain ⟨D, hD⟩ : ∃ D, D = decodeN n b0 b1 b2 b3 := ⟨_, rfl⟩
  rw [← hD]
  unfold decodeN at hD
  repeat' split at hD
  all_goals
    subst hD
    first | rw [if_pos ⟨rfl, rfl⟩] | (rw [if_neg (by simp only; omega)])
    unfold utfE
    repeat' split
  all_goals first | rfl | omega
theorem utfW_eq (l : Bytes) (hl : l ≠ []) : utfW l = utfE l.length (l.getD 0 0).toNat (l.getD 1 0).toNat (l.getD 2 0).toNat (l.getD 3 0).toNat := by
  unfold utfW
  rw [if_neg hl, decodeL_N]
  exact utfE_of _ _ _ _ _ (UInt8.toNat_lt _) (UInt8.toNat_lt _) (UInt8.toNat_lt _) (UInt8.toNat_lt _)

theorem validGoD_nil (n : Nat) : validGoD n [] = true := by
  cases n <;> simp [validGoD]
theorem validGoD_step (n : Nat) (l : Bytes) (hl : l ≠ []) : validGoD (n + 1) l = if utfW l = 0 then false else validGoD n (l.drop (utfW l)) := by
  have e : validGoD (n + 1) l = if l = [] then true else if (decodeL l).1 = 65533 ∧ (decodeL l).2 = 1 then false else validGoD n (l.drop (decodeL l).2) := rfl
  rw [e]
  unfold utfW
  rw [if_neg hl, if_neg hl]
  have := decodeL_width l
  by_cases h : (decodeL l).1 = 65533 ∧ (decodeL l).2 = 1
  · rw [if_pos h, if_pos h, if_pos rfl]
  · rw [if_neg h, if_neg h, if_neg (by omega)]
theorem utfW_le (l : Bytes) : utfW l ≤ l.length := by
  unfold utfW
  by_cases hl : l = []
  · rw [if_pos hl]; omega
  · rw [if_neg hl]
    split
    · omega
    · exact decodeL_le l hl

/-- A sign's number, of the first byte's part and k further bytes. -/
def contC (l : Bytes) (c0 : Nat) : Nat → Nat
  | 0 => c0
  | k + 1 => 64 * contC l c0 k + ((l.getD (k + 1) 0).toNat - 128)
def contOk (l : Bytes) (k : Nat) : Prop := ∀ j, 1 ≤ j → j ≤ k → 128 ≤ (l.getD j 0).toNat ∧ (l.getD j 0).toNat ≤ 191
theorem contOk_succ {l : Bytes} {k : Nat} (h : contOk l k) (a : 128 ≤ (l.getD (k + 1) 0).toNat) (b : (l.getD (k + 1) 0).toNat ≤ 191) : contOk l (k + 1) := fun j h1 h2 => by
  by_cases e : j = k + 1
  · subst e; exact ⟨a, b⟩
  · exact h j h1 (by omega)
theorem contC_next (l : Bytes) (c0 k : Nat) : contC l c0 (k + 1) ≤ 64 * contC l c0 k + 127 := by
  have := (l.getD (k + 1) 0).toNat_lt
  show 64 * contC l c0 k + ((l.getD (k + 1) 0).toNat - 128) ≤ _
  omega
theorem contC_le (l : Bytes) (c0 k : Nat) (h0 : c0 ≤ 31) (hk : k ≤ 3) : contC l c0 k ≤ 9000000 := by
  have e0 : contC l c0 0 = c0 := rfl
  have h1 : contC l c0 1 ≤ 64 * contC l c0 0 + 127 := contC_next l c0 0
  have h2 : contC l c0 2 ≤ 64 * contC l c0 1 + 127 := contC_next l c0 1
  have h3 : contC l c0 3 ≤ 64 * contC l c0 2 + 127 := contC_next l c0 2
  have : k = 0 ∨ k = 1 ∨ k = 2 ∨ k = 3 := by omega
  rcases this with h | h | h | h <;> rw [h] <;> omega
/-- What a sign of n bytes comes to: 'lo' is what its first byte has more than its part. -/
theorem utf_short (l : Bytes) (hl : l ≠ []) (n lo hi : Nat) (hn : n = 2 ∧ lo = 192 ∧ hi = 224 ∨ n = 3 ∧ lo = 224 ∧ hi = 240 ∨ n = 4 ∧ lo = 240 ∧ hi = 248) (h1 : lo ≤ (l.getD 0 0).toNat) (h2 : (l.getD 0 0).toNat < hi) (hs : l.length < n) : utfW l = 0 := by
  rw [utfW_eq l hl]
  unfold utfE
  rcases hn with ⟨rfl, rfl, rfl⟩ | ⟨rfl, rfl, rfl⟩ | ⟨rfl, rfl, rfl⟩
  · rw [if_neg (by omega), if_pos (by omega), if_pos hs]
  · rw [if_neg (by omega), if_neg (by omega), if_pos (by omega), if_pos hs]
  · rw [if_neg (by omega), if_neg (by omega), if_neg (by omega), if_pos (by omega), if_pos hs]
theorem utf_cont (l : Bytes) (hl : l ≠ []) (n lo hi k : Nat) (hn : n = 2 ∧ lo = 192 ∧ hi = 224 ∨ n = 3 ∧ lo = 224 ∧ hi = 240 ∨ n = 4 ∧ lo = 240 ∧ hi = 248) (h1 : lo ≤ (l.getD 0 0).toNat) (h2 : (l.getD 0 0).toNat < hi) (hs : ¬ l.length < n) (hk : k + 1 < n) (ho : contOk l k) (hb : (l.getD (k + 1) 0).toNat < 128 ∨ 191 < (l.getD (k + 1) 0).toNat) : utfW l = 0 := by
  rw [utfW_eq l hl]
  unfold utfE
  have o1 := ho 1 (by omega)
  have o2 := ho 2 (by omega)
  rcases hn with ⟨rfl, rfl, rfl⟩ | ⟨rfl, rfl, rfl⟩ | ⟨rfl, rfl, rfl⟩
  · obtain rfl : k = 0 := by omega
    rw [if_neg (by omega), if_pos (by omega), if_neg hs, if_pos hb]
  · rw [if_neg (by omega), if_neg (by omega), if_pos (by omega), if_neg hs]
    have : k = 0 ∨ k = 1 := by omega
    rcases this with rfl | rfl
    · rw [if_pos hb]
    · rw [if_neg (by have := o1 (by omega); omega), if_pos hb]
  · rw [if_neg (by omega), if_neg (by omega), if_neg (by omega), if_pos (by omega), if_neg hs]
    have : k = 0 ∨ k = 1 ∨ k = 2 := by omega
    rcases this with rfl | rfl | rfl
    · rw [if_pos hb]
    · rw [if_neg (by have := o1 (by omega); omega), if_pos hb]
    · rw [if_neg (by have := o1 (by omega); omega), if_neg (by have := o2 (by omega); omega), if_pos hb]
theorem utf_whole2 (l : Bytes) (hl : l ≠ []) (h1 : 192 ≤ (l.getD 0 0).toNat) (h2 : (l.getD 0 0).toNat < 224) (hs : ¬ l.length < 2) (ho : contOk l 1) (C : Nat) (hC : C = contC l ((l.getD 0 0).toNat - 192) 1) :
    ((C < 128 ∨ 1114111 < C ∨ (55296 ≤ C ∧ C < 57344)) → utfW l = 0) ∧ (¬ (C < 128 ∨ 1114111 < C ∨ (55296 ≤ C ∧ C < 57344)) → utfW l = 2) := by
  have p1 := ho 1 (by omega) (by omega)
  have hC' : C = 64 * ((l.getD 0 0).toNat - 192) + ((l.getD 1 0).toNat - 128) := hC
  clear hC
  rw [utfW_eq l hl]
  unfold utfE
  constructor
  · intro hb
    rw [if_neg (by omega), if_pos (by omega), if_neg hs, if_neg (by omega), if_pos (by omega)]
  · intro hb
    rw [if_neg (by omega), if_pos (by omega), if_neg hs, if_neg (by omega), if_neg (by omega)]
theorem utf_whole3 (l : Bytes) (hl : l ≠ []) (h1 : 224 ≤ (l.getD 0 0).toNat) (h2 : (l.getD 0 0).toNat < 240) (hs : ¬ l.length < 3) (ho : contOk l 2) (C : Nat) (hC : C = contC l ((l.getD 0 0).toNat - 224) 2) :
    ((C < 2048 ∨ 1114111 < C ∨ (55296 ≤ C ∧ C < 57344)) → utfW l = 0) ∧ (¬ (C < 2048 ∨ 1114111 < C ∨ (55296 ≤ C ∧ C < 57344)) → utfW l = 3) := by
  have p1 := ho 1 (by omega) (by omega)
  have p2 := ho 2 (by omega) (by omega)
  have hC' : C = 64 * (64 * ((l.getD 0 0).toNat - 224) + ((l.getD 1 0).toNat - 128)) + ((l.getD 2 0).toNat - 128) := hC
  clear hC
  rw [utfW_eq l hl]
  unfold utfE
  constructor
  · intro hb
    rw [if_neg (by omega), if_neg (by omega), if_pos (by omega), if_neg hs, if_neg (by omega), if_neg (by omega), if_pos (by omega)]
  · intro hb
    rw [if_neg (by omega), if_neg (by omega), if_pos (by omega), if_neg hs, if_neg (by omega), if_neg (by omega), if_neg (by omega)]
theorem utf_whole4 (l : Bytes) (hl : l ≠ []) (h1 : 240 ≤ (l.getD 0 0).toNat) (h2 : (l.getD 0 0).toNat < 248) (hs : ¬ l.length < 4) (ho : contOk l 3) (C : Nat) (hC : C = contC l ((l.getD 0 0).toNat - 240) 3) :
    ((C < 65536 ∨ 1114111 < C ∨ (55296 ≤ C ∧ C < 57344)) → utfW l = 0) ∧ (¬ (C < 65536 ∨ 1114111 < C ∨ (55296 ≤ C ∧ C < 57344)) → utfW l = 4) := by
  have p1 := ho 1 (by omega) (by omega)
  have p2 := ho 2 (by omega) (by omega)
  have p3 := ho 3 (by omega) (by omega)
  have hC' : C = 64 * (64 * (64 * ((l.getD 0 0).toNat - 240) + ((l.getD 1 0).toNat - 128)) + ((l.getD 2 0).toNat - 128)) + ((l.getD 3 0).toNat - 128) := hC
  clear hC
  rw [utfW_eq l hl]
  unfold utfE
  constructor
  · intro hb
    rw [if_neg (by omega), if_neg (by omega), if_neg (by omega), if_pos (by omega), if_neg hs, if_neg (by omega), if_neg (by omega), if_neg (by omega), if_pos (by omega)]
  · intro hb
    rw [if_neg (by omega), if_neg (by omega), if_neg (by omega), if_pos (by omega), if_neg hs, if_neg (by omega), if_neg (by omega), if_neg (by omega), if_neg (by omega)]
theorem utf_ascii (l : Bytes) (hl : l ≠ []) (h : (l.getD 0 0).toNat < 128) : utfW l = 1 := by
  rw [utfW_eq l hl]; unfold utfE; rw [if_pos h]
theorem utf_none (l : Bytes) (hl : l ≠ []) (h : 128 ≤ (l.getD 0 0).toNat) (h2 : (l.getD 0 0).toNat < 192 ∨ 248 ≤ (l.getD 0 0).toNat) : utfW l = 0 := by
  rw [utfW_eq l hl]; unfold utfE; rw [if_neg (by omega), if_neg (by omega), if_neg (by omega), if_neg (by omega)]
end Go.Px.Utf
