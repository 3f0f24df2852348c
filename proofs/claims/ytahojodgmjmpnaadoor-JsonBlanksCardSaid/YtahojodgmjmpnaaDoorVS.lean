/-
  Several texts in one: The walk over the statement JsonBlanks.
-/
import Derived.Test.YtahojodgmjmpnaaDoorVR
/-! The walk over the statement JsonBlanks. -/
namespace Go.Proofs.YtahojodgmjmpnaaDoor
open Go.RowKit Go.Px

theorem cat_S (x y : Bytes) (hl : x.length + y.length ≤ 140737488355327) (w : World) : (binOp .add 9 (S x) (S y)).run Tryd.prog w = .ok (S (x ++ y)) w := by
  unfold binOp
  have e : (⟨x.toArray⟩ : ByteArray) ++ ⟨y.toArray⟩ = ⟨(x ++ y).toArray⟩ := by
    apply ByteArray.ext
    simp
  have hx := size_S x
  have hy := size_S y
  simp [Op.stringOp, e]
  omega
theorem cat_ba (x y : Bytes) : (⟨x.toArray⟩ : ByteArray) ++ ⟨y.toArray⟩ = ⟨(x ++ y).toArray⟩ := by
  apply ByteArray.ext
  simp
def blk (m i : Nat) : UInt8 := ([32, 9, 10, 13] : Bytes).getD ((i + m) % 4) 0
def abl (m k : Nat) : Bytes := (List.range k).map (blk m)
theorem abl_succ (m k : Nat) : abl m (k + 1) = abl m k ++ [blk m k] := by unfold abl; rw [List.range_succ, List.map_append]; rfl
theorem abl_len (m k : Nat) : (abl m k).length = k := by unfold abl; simp
theorem blk_blank (m i : Nat) : R6.blank (blk m i).toNat = true := by
  unfold blk
  have h : (i + m) % 4 = 0 ∨ (i + m) % 4 = 1 ∨ (i + m) % 4 = 2 ∨ (i + m) % 4 = 3 := by omega
  rcases h with h | h | h | h <;> rw [h] <;> rfl
theorem abl_blank (m k : Nat) : ∀ c ∈ abl m k, R6.blank c.toNat = true := by
  intro c hc
  unfold abl at hc
  obtain ⟨i, _, rfl⟩ := List.mem_map.1 hc
  exact blk_blank m i
/-- One of the four blanks, cut out. -/
theorem cut_blank (r : Nat) (hr : r < 4) : ∃ y : Bytes, (∀ w, (Instr.slice 9 (.string { data := #[32, 9, 10, 13] }) (some (.int .i64 (r : Int))) none none).run Tryd.prog w = .ok (S y) w) ∧ (∀ w, (Instr.slice 9 (S y) none (some (.int .i64 1)) none).run Tryd.prog w = .ok (S [([32, 9, 10, 13] : Bytes).getD r 0]) w) := by
  refine ⟨([32, 9, 10, 13] : Bytes).drop r, fun w => from_S ([32, 9, 10, 13] : Bytes) r (by simp; omega) w, fun w => ?_⟩
  have h := to_S (([32, 9, 10, 13] : Bytes).drop r) 1 (by simp; omega) w
  have e : (([32, 9, 10, 13] : Bytes).drop r).take 1 = [([32, 9, 10, 13] : Bytes).getD r 0] := by
    have hc : r = 0 ∨ r = 1 ∨ r = 2 ∨ r = 3 := by omega
    rcases hc with rfl | rfl | rfl | rfl <;> rfl
  rw [e] at h
  exact h
set_option maxRecDepth 100000 in
set_option maxHeartbeats 4000000 in
theorem law_JsonBlanks (s : Bytes) (a0 b0 : Int) (w : World) (hs0 : s.length ≤ 140737488351232) (ha : 0 ≤ a0 ∧ a0 ≤ 255) (hb : 0 ≤ b0 ∧ b0 ≤ 255) (hT : Tabs w) :
    Calls Tryd.prog 8 #[S s, .int .u8 a0, .int .u8 b0] w fun e w' => e = .returned (.bool true) ∧ Below w.heap.size w w' := by
  obtain ⟨a, rfl⟩ : ∃ a : Nat, a0 = (a : Int) := ⟨a0.toNat, by omega⟩
  obtain ⟨b, rfl⟩ : ∃ b : Nat, b0 = (b : Int) := ⟨b0.toNat, by omega⟩
  have ha2 : a ≤ 255 := by omega
  have hb2 : b ≤ 255 := by omega
  have hs : s.length ≤ 140737488355327 := by omega
  have hsz : (ByteArray.mk s.toArray).size = s.length := size_S s
  have HT := Px.hid hT
  clear hT ha hb hs0
  by_cases hlong : 10000 < s.length
  · have z : (10000 : Int) < (s.length : Int) := by omega
    clear hlong
    go_enter Tryd.func8, Tryd.ntmps8
    go_wp2_with fail
    refine (wakes16_any _ HT.out).mono ?_
    rintro e w1 ⟨rfl, hs⟩
    have HS := Px.hid hs
    clear hs
    go_wp2
    go_ret
    exact ⟨rfl, HS.out.below⟩
  have hsl : s.length ≤ 10000 := by omega
  have z : ¬ (10000 : Int) < (s.length : Int) := by omega
  clear hlong
  have hma : (a : Int).tmod 9 = ((a % 9 : Nat) : Int) := by rw [Int.tmod_eq_emod_of_nonneg (by omega)]; omega
  have hmb : (b : Int).tmod 9 = ((b % 9 : Nat) : Int) := by rw [Int.tmod_eq_emod_of_nonneg (by omega)]; omega
  obtain ⟨n, hn⟩ : ∃ n, a % 9 = n := ⟨_, rfl⟩
  obtain ⟨m, hm⟩ : ∃ m, b % 9 = m := ⟨_, rfl⟩
  have hn9 : n < 9 := by omega
  have hm9 : m < 9 := by omega
  rw [hn] at hma
  rw [hm] at hmb
  clear hn hm
  go_enter Tryd.func8, Tryd.ntmps8
  go_wp2_with fail
  refine (wakes16_any _ HT.out).mono ?_
  rintro e w1 ⟨rfl, hs1⟩
  have HS1 := Px.hid (And.intro hs1 (HT.out.same hs1))
  clear hs1
  go_wp2
  go_loopw [8, 26] (fun v i wr => ∃ k : Nat, k ≤ n ∧ i = .int .i64 (k : Nat) ∧ v = S (abl a k) ∧ w1 = wr) (fun _ i _ => n - (intOf i).toNat)
  case atStart => exact ⟨0, Nat.zero_le _, rfl, rfl, rfl⟩
  case round =>
    obtain ⟨k, hk, rfl, rfl, rfl⟩ := hrel
    by_cases hlt : k < n
    · have hltz : (k : Int) < (n : Int) := by omega
      have hrm : ((k : Int) + (a : Int)).tmod 4 = (((k + a) % 4 : Nat) : Int) := by rw [Int.tmod_eq_emod_of_nonneg (by omega)]; omega
      obtain ⟨r, hr⟩ : ∃ r, (k + a) % 4 = r := ⟨_, rfl⟩
      have hr4 : r < 4 := by omega
      obtain ⟨y, hy1, hy2⟩ := cut_blank r hr4
      obtain ⟨c, hc⟩ : ∃ c, ([32, 9, 10, 13] : Bytes).getD r 0 = c := ⟨_, rfl⟩
      rw [hc] at hy2
      rw [hr] at hrm
      have HC := Px.hid (show abl a (k + 1) = abl a k ++ [c] by rw [abl_succ]; unfold blk; rw [hr, hc])
      obtain ⟨X, hX⟩ : ∃ X, abl a k = X := ⟨_, rfl⟩
      have hXl : X.length ≤ 8 := by rw [← hX, abl_len]; omega
      have hcat := cat_S X [c] (by simp; omega)
      rw [hX] at HC ⊢
      clear hr hc hX
      go_wp2
      go_roundw
      case rel => exact ⟨k + 1, hlt, by go_num, by rw [HC.out]; exact congrArg Value.string (cat_ba _ _), (by first | trivial | rfl)⟩
      case measure => simp [intOf]; omega
    · obtain rfl : k = n := by omega
      have hltz : ¬ (k : Int) < (k : Int) := by omega
      clear hlt hk hma
      obtain ⟨A, hA⟩ : ∃ A, abl a k = A := ⟨_, rfl⟩
      have HA := Px.hid (show A.length = k ∧ ∀ c ∈ A, R6.blank c.toNat = true from by rw [← hA]; exact ⟨abl_len _ _, abl_blank _ _⟩)
      rw [hA]
      clear hA
      go_wp2
      go_loopw [9, 43] (fun v i wr => ∃ j : Nat, j ≤ m ∧ i = .int .i64 (j : Nat) ∧ v = S (abl b j) ∧ w1 = wr) (fun _ i _ => m - (intOf i).toNat)
      case atStart => exact ⟨0, Nat.zero_le _, rfl, rfl, rfl⟩
      case round =>
        obtain ⟨j, hj, rfl, rfl, rfl⟩ := hrel
        by_cases hlt : j < m
        · have hltz : (j : Int) < (m : Int) := by omega
          have hrm : ((j : Int) + (b : Int)).tmod 4 = (((j + b) % 4 : Nat) : Int) := by rw [Int.tmod_eq_emod_of_nonneg (by omega)]; omega
          obtain ⟨r, hr⟩ : ∃ r, (j + b) % 4 = r := ⟨_, rfl⟩
          have hr4 : r < 4 := by omega
          obtain ⟨y, hy1, hy2⟩ := cut_blank r hr4
          obtain ⟨c, hc⟩ : ∃ c, ([32, 9, 10, 13] : Bytes).getD r 0 = c := ⟨_, rfl⟩
          rw [hc] at hy2
          rw [hr] at hrm
          have HC := Px.hid (show abl b (j + 1) = abl b j ++ [c] by rw [abl_succ]; unfold blk; rw [hr, hc])
          obtain ⟨X, hX⟩ : ∃ X, abl b j = X := ⟨_, rfl⟩
          have hXl : X.length ≤ 8 := by rw [← hX, abl_len]; omega
          have hcat := cat_S X [c] (by simp; omega)
          rw [hX] at HC ⊢
          clear hr hc hX
          go_wp2
          go_roundw
          case rel => exact ⟨j + 1, hlt, by go_num, by rw [HC.out]; exact congrArg Value.string (cat_ba _ _), (by first | trivial | rfl)⟩
          case measure => simp [intOf]; omega
        · obtain rfl : j = m := by omega
          have hltz : ¬ (j : Int) < (j : Int) := by omega
          clear hlt hj hmb
          obtain ⟨B, hB⟩ : ∃ B, abl b j = B := ⟨_, rfl⟩
          have HB := Px.hid (show B.length = j ∧ ∀ c ∈ B, R6.blank c.toNat = true from by rw [← hB]; exact ⟨abl_len _ _, abl_blank _ _⟩)
          rw [hB]
          clear hB
          obtain ⟨d1, d2, d3, hd⟩ : ∃ d1 d2 d3, R6.decode s most = (d1, d2, d3) := ⟨_, _, _, rfl⟩
          have hAl : A.length = k := HA.out.1
          have hBl : B.length = j := HB.out.1
          have hmb : most.b = 262144 := rfl
          have hah := D6.ahead (lim := most) (s := s) (a := A) most_may (by rw [hmb, hAl]; omega) HA.out.2
          have hpl := D6.decode_place (s := s) (lim := most) most_may
          rw [hd] at hah hpl
          simp only at hah hpl
          have hp0 := hpl.1
          have hp1 : d2 ≤ 262144 := by have := hpl.2; rw [hmb] at this; omega
          have hbeh : d3 = 0 → R6.decode (A ++ s ++ B) most = (d1, 0, 0) := fun e => by
            subst e
            exact D6.move most_may most_may (Int.le_refl _) (by obtain ⟨q, z, q2, y, m2, _, _, _, _, _, _, _, _, h9, _⟩ := D6.decode_inv most_may hd; exact h9) (by rw [hmb, hAl, hBl]; omega) HA.out.2 HB.out.2 hd
          have hzero : d3 = 0 → d2 = 0 := fun e => by subst e; exact D6.decode_zero most_may hd
          have HD := Px.hid (And.intro hd (And.intro hah (And.intro hbeh hzero)))
          have hasz : (ByteArray.mk A.toArray).size = k := by rw [size_S A, hAl]
          have hbsz : (ByteArray.mk B.toArray).size = j := by rw [size_S B, hBl]
          have hasz2 : ((ByteArray.mk A.toArray) ++ (ByteArray.mk s.toArray)).size = k + s.length := by rw [cat_ba, size_S, List.length_append, hAl]
          have HCB := Px.hid (cat_ba (A ++ s) B)
          have HCA := Px.hid (cat_ba A s)
          have HLN := Px.hid (show (A ++ s).length ≤ 9223372036854775807 ∧ (A ++ s ++ B).length ≤ 9223372036854775807 from by simp only [List.length_append]; omega)
          clear hd hah hbeh hpl hAl hBl hmb hzero
          go_wp2_with fail
          refine (most_any _).mono ?_
          rintro e w2 ⟨rfl, hs2⟩
          have HS := Px.hid (HS1.out.1.trans hs2)
          clear hs2
          go_wp2_with fail
          refine (jdecode_any s most (by omega) _).mono ?_
          intro e w3 hg
          obtain ⟨ga, gc, rfl, ho, hs3⟩ := hg.len
          rw [HD.out.1] at ho ⊢
          have HO := Px.hid ho
          have HS := Px.hid (HS.out.trans hs3)
          clear ho hs3 hg
          go_wp2_with fail
          refine (most_any _).mono ?_
          rintro e w4 ⟨rfl, hs4⟩
          have HO := Px.hid (Owns.same HO.out hs4)
          have HS := Px.hid (HS.out.trans hs4)
          clear hs4
          go_wp2_with fail
          refine (jdecode_any (A ++ s) most HLN.out.1 _).mono ?_
          intro e w5 hg
          obtain ⟨ga2, gc2, rfl, ho, hs5⟩ := hg.len
          rw [HD.out.2.1] at ho ⊢
          have HO := Px.hid (And.intro (Owns.same HO.out hs5) ho)
          have HS := Px.hid (HS.out.trans hs5)
          clear ho hs5 hg
          by_cases he : d3 = 0
          · subst he
            have HBE := Px.hid (HD.out.2.2.1 rfl)
            go_wp2_with fail
            refine (same_lies _ _ _ _ (HO.out.1.lies cVal_len) (HO.out.2.lies cVal_len)).mono ?_
            rintro e w6 ⟨rfl, hs6⟩
            have HO := Px.hid (Owns.same HO.out.1 hs6)
            have HS := Px.hid (HS.out.trans hs6)
            clear hs6
            go_wp2_with fail
            refine (most_any _).mono ?_
            rintro e w7 ⟨rfl, hs7⟩
            have HO := Px.hid (Owns.same HO.out hs7)
            have HS := Px.hid (HS.out.trans hs7)
            clear hs7
            go_wp2_with fail
            refine (jdecode_any (A ++ s ++ B) most HLN.out.2 _).mono ?_
            intro e w8 hg
            obtain ⟨ga3, gc3, rfl, ho, hs8⟩ := hg.len
            rw [HBE.out] at ho ⊢
            have HO := Px.hid (And.intro (Owns.same HO.out hs8) ho)
            have HS := Px.hid (HS.out.trans hs8)
            clear ho hs8 hg
            go_wp2_with fail
            refine (same_lies _ _ _ _ (HO.out.1.lies cVal_len) (HO.out.2.lies cVal_len)).mono ?_
            rintro e w9 ⟨rfl, hs9⟩
            have HS := Px.hid (HS.out.trans hs9)
            clear hs9
            go_wp2
            go_ret
            exact ⟨rfl, HS.out.below⟩
          · have hb3 : (d3 != 0) = true := bne_iff_ne.2 he
            have hif : (if d3 = 0 then (0 : Int) else d2 + (A.length : Int)) = d2 + (k : Int) := by rw [if_neg he, HA.out.1]
            rw [hif]
            have hwr : IntKind.i64.wrap (d2 + (k : Int)) = d2 + (k : Int) := IntWalk.i64_in _ ⟨by omega, by omega⟩
            clear he hif
            go_wp2_with fail
            refine (same_lies _ _ _ _ (HO.out.1.lies cVal_len) (HO.out.2.lies cVal_len)).mono ?_
            rintro e w6 ⟨rfl, hs6⟩
            have HS := Px.hid (HS.out.trans hs6)
            clear hs6
            go_wp2
            go_ret
            exact ⟨rfl, HS.out.below⟩
end Go.Proofs.YtahojodgmjmpnaaDoor
