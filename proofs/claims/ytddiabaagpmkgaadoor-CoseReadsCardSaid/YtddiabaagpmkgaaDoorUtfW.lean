/-
  The walks over the reference's Utf and Text: a text is UTF-8 as the library says.
-/
import Derived.Test.YtddiabaagpmkgaaDoorStr
import Derived.Test.YtddiabaagpmkgaaDoorUtfP
namespace Go.Proofs.YtddiabaagpmkgaaDoor
open Go.RowKit Go.Px Go.Px.Utf

theorem utf_nil (w : World) : Calls Tryd.prog 88 #[S []] w fun e w' => e = .returned (.int .i64 0) ∧ Same w w' := by
  go_enter Tryd.func88, Tryd.ntmps88
  go_wp2
  go_ret
  exact ⟨rfl, Same.refl w⟩

set_option maxRecDepth 100000 in
set_option maxHeartbeats 2000000 in
theorem utf_one (l : Bytes) (w : World) (hlen : l.length ≤ maxLen) (hne : l ≠ []) (h : (l.getD 0 0).toNat < 128) :
    Calls Tryd.prog 88 #[S l] w fun e w' => e = .returned (.int .i64 (utfW l : Nat)) ∧ Same w w' := by
  unfold maxLen at hlen
  have _ := hlen
  have hsz : (ByteArray.mk l.toArray).size = l.length := size_S l
  have hpos : 0 < l.length := List.length_pos_iff.2 hne
  have hposz : ((l.length : Int) == 0) = false := by simp; omega
  have i0 : ∀ w, (Instr.index 9 (S l) (.int .i64 0)).run Tryd.prog w = .ok (.int .u8 (l.getD 0 0).toNat) w := fun w => idx_S l 0 hpos w
  have hb := (l.getD 0 0).toNat_lt
  have hu := utf_ascii l hne h
  have H := Px.hid hu
  obtain ⟨b, hbb⟩ : ∃ b, b = (l.getD 0 0).toNat := ⟨_, rfl⟩
  rw [← hbb] at i0 hb h
  have hz : (b : Int) < 128 := by omega
  clear hu hbb hne h
  go_enter Tryd.func88, Tryd.ntmps88
  go_wp2
  go_ret
  rw [H.out]
  exact ⟨rfl, Same.refl w⟩

set_option maxRecDepth 100000 in
set_option maxHeartbeats 2000000 in
theorem utf_odd (l : Bytes) (w : World) (hlen : l.length ≤ maxLen) (hne : l ≠ []) (h : 128 ≤ (l.getD 0 0).toNat) (h2 : (l.getD 0 0).toNat < 192 ∨ 248 ≤ (l.getD 0 0).toNat) :
    Calls Tryd.prog 88 #[S l] w fun e w' => e = .returned (.int .i64 (utfW l : Nat)) ∧ Same w w' := by
  unfold maxLen at hlen
  have _ := hlen
  have hsz : (ByteArray.mk l.toArray).size = l.length := size_S l
  have hpos : 0 < l.length := List.length_pos_iff.2 hne
  have hposz : ((l.length : Int) == 0) = false := by simp; omega
  have i0 : ∀ w, (Instr.index 9 (S l) (.int .i64 0)).run Tryd.prog w = .ok (.int .u8 (l.getD 0 0).toNat) w := fun w => idx_S l 0 hpos w
  have hb := (l.getD 0 0).toNat_lt
  have hu := utf_none l hne h h2
  have H := Px.hid hu
  obtain ⟨b, hbb⟩ : ∃ b, b = (l.getD 0 0).toNat := ⟨_, rfl⟩
  rw [← hbb] at i0 hb h h2
  have hz : ¬ (b : Int) < 128 := by omega
  clear hu hbb hne
  rcases h2 with h2 | h2
  · have g1 : ¬ (192 : Int) ≤ (b : Int) := by omega
    have g2 : ¬ (224 : Int) ≤ (b : Int) := by omega
    have g3 : ¬ (240 : Int) ≤ (b : Int) := by omega
    go_enter Tryd.func88, Tryd.ntmps88
    go_wp2
    go_ret
    rw [H.out]
    exact ⟨rfl, Same.refl w⟩
  · have g1 : (192 : Int) ≤ (b : Int) := by omega
    have g2 : (224 : Int) ≤ (b : Int) := by omega
    have g3 : (240 : Int) ≤ (b : Int) := by omega
    have g4 : ¬ (b : Int) < 224 := by omega
    have g5 : ¬ (b : Int) < 240 := by omega
    have g6 : ¬ (b : Int) < 248 := by omega
    go_enter Tryd.func88, Tryd.ntmps88
    go_wp2
    go_ret
    rw [H.out]
    exact ⟨rfl, Same.refl w⟩

set_option maxRecDepth 100000 in
set_option maxHeartbeats 2000000 in
theorem utf_2 (l : Bytes) (w : World) (hlen : l.length ≤ maxLen) (hne : l ≠ []) (h1 : 192 ≤ (l.getD 0 0).toNat) (h2 : (l.getD 0 0).toNat < 224) :
    Calls Tryd.prog 88 #[S l] w fun e w' => e = .returned (.int .i64 (utfW l : Nat)) ∧ Same w w' := by
  unfold maxLen at hlen
  have _ := hlen
  have hsz : (ByteArray.mk l.toArray).size = l.length := size_S l
  have hpos : 0 < l.length := List.length_pos_iff.2 hne
  have hposz : ((l.length : Int) == 0) = false := by simp; omega
  have i0 : ∀ w, (Instr.index 9 (S l) (.int .i64 0)).run Tryd.prog w = .ok (.int .u8 (l.getD 0 0).toNat) w := fun w => idx_S l 0 hpos w
  have hb := (l.getD 0 0).toNat_lt
  have hsh := utf_short l hne 2 192 224 (.inl ⟨rfl, rfl, rfl⟩) h1 h2
  have hco := fun k => utf_cont l hne 2 192 224 k (.inl ⟨rfl, rfl, rfl⟩) h1 h2
  have hwh := utf_whole2 l hne h1 h2
  obtain ⟨b, hbb⟩ : ∃ b, b = (l.getD 0 0).toNat := ⟨_, rfl⟩
  rw [← hbb] at i0 hb h1 h2 hwh
  have hcz : ((b - 192 : Nat) : Int) = (b : Int) - 192 := by omega
  have hcl : b - 192 ≤ 31 := by omega
  have H := Px.hid (And.intro hco (And.intro hwh (And.intro hcz hcl)))
  have hz : ¬ (b : Int) < 128 := by omega
  have ga192 : (192 : Int) ≤ (b : Int) := by omega
  have gb224 : (b : Int) < 224 := by omega
  clear hbb hco hwh hcz hcl hne
  by_cases hs : l.length < 2
  · have H2 := Px.hid (hsh hs)
    have hsz2 : (l.length : Int) < 2 := by omega
    clear hsh H
    go_enter Tryd.func88, Tryd.ntmps88
    go_wp2
    go_ret
    rw [H2.out]
    exact ⟨rfl, Same.refl w⟩
  · have hsz2 : ¬ (l.length : Int) < 2 := by omega
    clear hsh
    go_enter Tryd.func88, Tryd.ntmps88
    go_wp2
    go_loop [4, 6] (fun c i => ∃ j C : Nat, 1 ≤ j ∧ j ≤ 2 ∧ i = .int .i64 (j : Nat) ∧ c = .int .i64 (C : Nat) ∧ Hid (C = contC l (b - 192) (j - 1) ∧ contOk l (j - 1))) (fun _ i => 2 - (intOf i).toNat)
    case atStart => exact ⟨1, b - 192, by omega, by omega, rfl, by rw [H.out.2.2.1], Px.hid ⟨rfl, fun j a b => by omega⟩⟩
    case round =>
      obtain ⟨j, C, hj1, hj2, rfl, rfl, HC⟩ := hrel
      have hcb := contC_le l (b - 192) (j - 1) H.out.2.2.2 (by omega)
      rw [← HC.out.1] at hcb
      by_cases hlt : j < 2
      · have hix : ∀ w, (Instr.index 9 (S l) (.int .i64 (j : Nat))).run Tryd.prog w = .ok (.int .u8 (l.getD j 0).toNat) w := fun w => idx_S l j (by omega) w
        have hc2 := (l.getD j 0).toNat_lt
        have hn2 : contC l (b - 192) j = 64 * C + ((l.getD j 0).toNat - 128) := by
          obtain ⟨k, rfl⟩ : ∃ k, j = k + 1 := ⟨j - 1, by omega⟩
          rw [HC.out.1]; rfl
        have hbd : ((l.getD j 0).toNat < 128 ∨ 191 < (l.getD j 0).toNat) → utfW l = 0 := by
          obtain ⟨k, rfl⟩ : ∃ k, j = k + 1 := ⟨j - 1, by omega⟩
          exact H.out.1 k hs hlt HC.out.2
        have hok : 128 ≤ (l.getD j 0).toNat → (l.getD j 0).toNat ≤ 191 → contOk l j := by
          obtain ⟨k, rfl⟩ : ∃ k, j = k + 1 := ⟨j - 1, by omega⟩
          exact contOk_succ HC.out.2
        have HC := Px.hid (And.intro hn2 (And.intro hbd hok))
        clear hn2 hbd hok
        obtain ⟨c, hcc⟩ : ∃ c, c = (l.getD j 0).toNat := ⟨_, rfl⟩
        rw [← hcc] at hix hc2
        have HCC := Px.hid hcc
        clear hcc
        have hlz : (j : Int) < 2 := by omega
        by_cases hb1 : c < 128
        · have z1 : (c : Int) < 128 := by omega
          go_wp2
          go_ret
          rw [HC.out.2.1 (by rw [← HCC.out]; exact .inl hb1)]
          exact ⟨rfl, Same.refl w⟩
        · have z1 : ¬ (c : Int) < 128 := by omega
          by_cases hb2 : 191 < c
          · have z2 : (191 : Int) < (c : Int) := by omega
            go_wp2
            go_ret
            rw [HC.out.2.1 (by rw [← HCC.out]; exact .inr hb2)]
            exact ⟨rfl, Same.refl w⟩
          · have z2 : ¬ (191 : Int) < (c : Int) := by omega
            go_wp2
            go_round
            case rel => exact ⟨j + 1, 64 * C + (c - 128), by omega, by omega, by go_num, by go_num, Px.hid ⟨by rw [Nat.add_sub_cancel, HC.out.1, ← HCC.out], by rw [Nat.add_sub_cancel]; exact HC.out.2.2 (by rw [← HCC.out]; omega) (by rw [← HCC.out]; omega)⟩⟩
            case measure => simp [intOf]; omega
      · have hke : j = 2 := by omega
        subst hke
        have HW := Px.hid (H.out.2.1 hs HC.out.2 C HC.out.1)
        clear HC
        go_wp2
        all_goals
          go_ret
          refine ⟨?_, (Fr.refl _ w).alloc _⟩
          first
          | (rw [HW.out.1 (by omega)]; rfl)
          | (rw [HW.out.2 (by omega)]; rfl)

set_option maxRecDepth 100000 in
set_option maxHeartbeats 2000000 in
theorem utf_3 (l : Bytes) (w : World) (hlen : l.length ≤ maxLen) (hne : l ≠ []) (h1 : 224 ≤ (l.getD 0 0).toNat) (h2 : (l.getD 0 0).toNat < 240) :
    Calls Tryd.prog 88 #[S l] w fun e w' => e = .returned (.int .i64 (utfW l : Nat)) ∧ Same w w' := by
  unfold maxLen at hlen
  have _ := hlen
  have hsz : (ByteArray.mk l.toArray).size = l.length := size_S l
  have hpos : 0 < l.length := List.length_pos_iff.2 hne
  have hposz : ((l.length : Int) == 0) = false := by simp; omega
  have i0 : ∀ w, (Instr.index 9 (S l) (.int .i64 0)).run Tryd.prog w = .ok (.int .u8 (l.getD 0 0).toNat) w := fun w => idx_S l 0 hpos w
  have hb := (l.getD 0 0).toNat_lt
  have hsh := utf_short l hne 3 224 240 (.inr (.inl ⟨rfl, rfl, rfl⟩)) h1 h2
  have hco := fun k => utf_cont l hne 3 224 240 k (.inr (.inl ⟨rfl, rfl, rfl⟩)) h1 h2
  have hwh := utf_whole3 l hne h1 h2
  obtain ⟨b, hbb⟩ : ∃ b, b = (l.getD 0 0).toNat := ⟨_, rfl⟩
  rw [← hbb] at i0 hb h1 h2 hwh
  have hcz : ((b - 224 : Nat) : Int) = (b : Int) - 224 := by omega
  have hcl : b - 224 ≤ 31 := by omega
  have H := Px.hid (And.intro hco (And.intro hwh (And.intro hcz hcl)))
  have hz : ¬ (b : Int) < 128 := by omega
  have ga192 : (192 : Int) ≤ (b : Int) := by omega
  have gb224 : ¬ (b : Int) < 224 := by omega
  have ga224 : (224 : Int) ≤ (b : Int) := by omega
  have gb240 : (b : Int) < 240 := by omega
  clear hbb hco hwh hcz hcl hne
  by_cases hs : l.length < 3
  · have H2 := Px.hid (hsh hs)
    have hsz2 : (l.length : Int) < 3 := by omega
    clear hsh H
    go_enter Tryd.func88, Tryd.ntmps88
    go_wp2
    go_ret
    rw [H2.out]
    exact ⟨rfl, Same.refl w⟩
  · have hsz2 : ¬ (l.length : Int) < 3 := by omega
    clear hsh
    go_enter Tryd.func88, Tryd.ntmps88
    go_wp2
    go_loop [4, 6] (fun c i => ∃ j C : Nat, 1 ≤ j ∧ j ≤ 3 ∧ i = .int .i64 (j : Nat) ∧ c = .int .i64 (C : Nat) ∧ Hid (C = contC l (b - 224) (j - 1) ∧ contOk l (j - 1))) (fun _ i => 3 - (intOf i).toNat)
    case atStart => exact ⟨1, b - 224, by omega, by omega, rfl, by rw [H.out.2.2.1], Px.hid ⟨rfl, fun j a b => by omega⟩⟩
    case round =>
      obtain ⟨j, C, hj1, hj2, rfl, rfl, HC⟩ := hrel
      have hcb := contC_le l (b - 224) (j - 1) H.out.2.2.2 (by omega)
      rw [← HC.out.1] at hcb
      by_cases hlt : j < 3
      · have hix : ∀ w, (Instr.index 9 (S l) (.int .i64 (j : Nat))).run Tryd.prog w = .ok (.int .u8 (l.getD j 0).toNat) w := fun w => idx_S l j (by omega) w
        have hc2 := (l.getD j 0).toNat_lt
        have hn2 : contC l (b - 224) j = 64 * C + ((l.getD j 0).toNat - 128) := by
          obtain ⟨k, rfl⟩ : ∃ k, j = k + 1 := ⟨j - 1, by omega⟩
          rw [HC.out.1]; rfl
        have hbd : ((l.getD j 0).toNat < 128 ∨ 191 < (l.getD j 0).toNat) → utfW l = 0 := by
          obtain ⟨k, rfl⟩ : ∃ k, j = k + 1 := ⟨j - 1, by omega⟩
          exact H.out.1 k hs hlt HC.out.2
        have hok : 128 ≤ (l.getD j 0).toNat → (l.getD j 0).toNat ≤ 191 → contOk l j := by
          obtain ⟨k, rfl⟩ : ∃ k, j = k + 1 := ⟨j - 1, by omega⟩
          exact contOk_succ HC.out.2
        have HC := Px.hid (And.intro hn2 (And.intro hbd hok))
        clear hn2 hbd hok
        obtain ⟨c, hcc⟩ : ∃ c, c = (l.getD j 0).toNat := ⟨_, rfl⟩
        rw [← hcc] at hix hc2
        have HCC := Px.hid hcc
        clear hcc
        have hlz : (j : Int) < 3 := by omega
        by_cases hb1 : c < 128
        · have z1 : (c : Int) < 128 := by omega
          go_wp2
          go_ret
          rw [HC.out.2.1 (by rw [← HCC.out]; exact .inl hb1)]
          exact ⟨rfl, Same.refl w⟩
        · have z1 : ¬ (c : Int) < 128 := by omega
          by_cases hb2 : 191 < c
          · have z2 : (191 : Int) < (c : Int) := by omega
            go_wp2
            go_ret
            rw [HC.out.2.1 (by rw [← HCC.out]; exact .inr hb2)]
            exact ⟨rfl, Same.refl w⟩
          · have z2 : ¬ (191 : Int) < (c : Int) := by omega
            go_wp2
            go_round
            case rel => exact ⟨j + 1, 64 * C + (c - 128), by omega, by omega, by go_num, by go_num, Px.hid ⟨by rw [Nat.add_sub_cancel, HC.out.1, ← HCC.out], by rw [Nat.add_sub_cancel]; exact HC.out.2.2 (by rw [← HCC.out]; omega) (by rw [← HCC.out]; omega)⟩⟩
            case measure => simp [intOf]; omega
      · have hke : j = 3 := by omega
        subst hke
        have HW := Px.hid (H.out.2.1 hs HC.out.2 C HC.out.1)
        clear HC
        go_wp2
        all_goals
          go_ret
          refine ⟨?_, (Fr.refl _ w).alloc _⟩
          first
          | (rw [HW.out.1 (by omega)]; rfl)
          | (rw [HW.out.2 (by omega)]; rfl)

set_option maxRecDepth 100000 in
set_option maxHeartbeats 2000000 in
theorem utf_4 (l : Bytes) (w : World) (hlen : l.length ≤ maxLen) (hne : l ≠ []) (h1 : 240 ≤ (l.getD 0 0).toNat) (h2 : (l.getD 0 0).toNat < 248) :
    Calls Tryd.prog 88 #[S l] w fun e w' => e = .returned (.int .i64 (utfW l : Nat)) ∧ Same w w' := by
  unfold maxLen at hlen
  have _ := hlen
  have hsz : (ByteArray.mk l.toArray).size = l.length := size_S l
  have hpos : 0 < l.length := List.length_pos_iff.2 hne
  have hposz : ((l.length : Int) == 0) = false := by simp; omega
  have i0 : ∀ w, (Instr.index 9 (S l) (.int .i64 0)).run Tryd.prog w = .ok (.int .u8 (l.getD 0 0).toNat) w := fun w => idx_S l 0 hpos w
  have hb := (l.getD 0 0).toNat_lt
  have hsh := utf_short l hne 4 240 248 (.inr (.inr ⟨rfl, rfl, rfl⟩)) h1 h2
  have hco := fun k => utf_cont l hne 4 240 248 k (.inr (.inr ⟨rfl, rfl, rfl⟩)) h1 h2
  have hwh := utf_whole4 l hne h1 h2
  obtain ⟨b, hbb⟩ : ∃ b, b = (l.getD 0 0).toNat := ⟨_, rfl⟩
  rw [← hbb] at i0 hb h1 h2 hwh
  have hcz : ((b - 240 : Nat) : Int) = (b : Int) - 240 := by omega
  have hcl : b - 240 ≤ 31 := by omega
  have H := Px.hid (And.intro hco (And.intro hwh (And.intro hcz hcl)))
  have hz : ¬ (b : Int) < 128 := by omega
  have ga192 : (192 : Int) ≤ (b : Int) := by omega
  have gb224 : ¬ (b : Int) < 224 := by omega
  have ga224 : (224 : Int) ≤ (b : Int) := by omega
  have gb240 : ¬ (b : Int) < 240 := by omega
  have ga240 : (240 : Int) ≤ (b : Int) := by omega
  have gb248 : (b : Int) < 248 := by omega
  clear hbb hco hwh hcz hcl hne
  by_cases hs : l.length < 4
  · have H2 := Px.hid (hsh hs)
    have hsz2 : (l.length : Int) < 4 := by omega
    clear hsh H
    go_enter Tryd.func88, Tryd.ntmps88
    go_wp2
    go_ret
    rw [H2.out]
    exact ⟨rfl, Same.refl w⟩
  · have hsz2 : ¬ (l.length : Int) < 4 := by omega
    clear hsh
    go_enter Tryd.func88, Tryd.ntmps88
    go_wp2
    go_loop [4, 6] (fun c i => ∃ j C : Nat, 1 ≤ j ∧ j ≤ 4 ∧ i = .int .i64 (j : Nat) ∧ c = .int .i64 (C : Nat) ∧ Hid (C = contC l (b - 240) (j - 1) ∧ contOk l (j - 1))) (fun _ i => 4 - (intOf i).toNat)
    case atStart => exact ⟨1, b - 240, by omega, by omega, rfl, by rw [H.out.2.2.1], Px.hid ⟨rfl, fun j a b => by omega⟩⟩
    case round =>
      obtain ⟨j, C, hj1, hj2, rfl, rfl, HC⟩ := hrel
      have hcb := contC_le l (b - 240) (j - 1) H.out.2.2.2 (by omega)
      rw [← HC.out.1] at hcb
      by_cases hlt : j < 4
      · have hix : ∀ w, (Instr.index 9 (S l) (.int .i64 (j : Nat))).run Tryd.prog w = .ok (.int .u8 (l.getD j 0).toNat) w := fun w => idx_S l j (by omega) w
        have hc2 := (l.getD j 0).toNat_lt
        have hn2 : contC l (b - 240) j = 64 * C + ((l.getD j 0).toNat - 128) := by
          obtain ⟨k, rfl⟩ : ∃ k, j = k + 1 := ⟨j - 1, by omega⟩
          rw [HC.out.1]; rfl
        have hbd : ((l.getD j 0).toNat < 128 ∨ 191 < (l.getD j 0).toNat) → utfW l = 0 := by
          obtain ⟨k, rfl⟩ : ∃ k, j = k + 1 := ⟨j - 1, by omega⟩
          exact H.out.1 k hs hlt HC.out.2
        have hok : 128 ≤ (l.getD j 0).toNat → (l.getD j 0).toNat ≤ 191 → contOk l j := by
          obtain ⟨k, rfl⟩ : ∃ k, j = k + 1 := ⟨j - 1, by omega⟩
          exact contOk_succ HC.out.2
        have HC := Px.hid (And.intro hn2 (And.intro hbd hok))
        clear hn2 hbd hok
        obtain ⟨c, hcc⟩ : ∃ c, c = (l.getD j 0).toNat := ⟨_, rfl⟩
        rw [← hcc] at hix hc2
        have HCC := Px.hid hcc
        clear hcc
        have hlz : (j : Int) < 4 := by omega
        by_cases hb1 : c < 128
        · have z1 : (c : Int) < 128 := by omega
          go_wp2
          go_ret
          rw [HC.out.2.1 (by rw [← HCC.out]; exact .inl hb1)]
          exact ⟨rfl, Same.refl w⟩
        · have z1 : ¬ (c : Int) < 128 := by omega
          by_cases hb2 : 191 < c
          · have z2 : (191 : Int) < (c : Int) := by omega
            go_wp2
            go_ret
            rw [HC.out.2.1 (by rw [← HCC.out]; exact .inr hb2)]
            exact ⟨rfl, Same.refl w⟩
          · have z2 : ¬ (191 : Int) < (c : Int) := by omega
            go_wp2
            go_round
            case rel => exact ⟨j + 1, 64 * C + (c - 128), by omega, by omega, by go_num, by go_num, Px.hid ⟨by rw [Nat.add_sub_cancel, HC.out.1, ← HCC.out], by rw [Nat.add_sub_cancel]; exact HC.out.2.2 (by rw [← HCC.out]; omega) (by rw [← HCC.out]; omega)⟩⟩
            case measure => simp [intOf]; omega
      · have hke : j = 4 := by omega
        subst hke
        have HW := Px.hid (H.out.2.1 hs HC.out.2 C HC.out.1)
        clear HC
        go_wp2
        all_goals
          go_ret
          refine ⟨?_, (Fr.refl _ w).alloc _⟩
          first
          | (rw [HW.out.1 (by omega)]; rfl)
          | (rw [HW.out.2 (by omega)]; rfl)

theorem utf_any (l : Bytes) (w : World) (hlen : l.length ≤ maxLen) : Calls Tryd.prog 88 #[S l] w fun e w' => e = .returned (.int .i64 (utfW l : Nat)) ∧ Same w w' := by
  by_cases hne : l = []
  · subst hne; exact utf_nil w
  · by_cases h1 : (l.getD 0 0).toNat < 128
    · exact utf_one l w hlen hne h1
    · by_cases h2 : (l.getD 0 0).toNat < 192 ∨ 248 ≤ (l.getD 0 0).toNat
      · exact utf_odd l w hlen hne (by omega) h2
      · by_cases h3 : (l.getD 0 0).toNat < 224
        · exact utf_2 l w hlen hne (by omega) h3
        · by_cases h4 : (l.getD 0 0).toNat < 240
          · exact utf_3 l w hlen hne (by omega) h4
          · exact utf_4 l w hlen hne (by omega) (by omega)

set_option maxHeartbeats 1000000 in
theorem text_any (l : Bytes) (w : World) (hlen : l.length ≤ maxLen) : Calls Tryd.prog 78 #[S l] w fun e w' => e = .returned (.bool (Lib.validD l)) ∧ Same w w' := by
  have hlen2 := hlen
  unfold maxLen at hlen
  have hsz : (ByteArray.mk l.toArray).size = l.length := size_S l
  have HL := Px.hid hlen2
  clear hlen2
  go_enter Tryd.func78, Tryd.ntmps78
  go_wp2
  go_loopw [3, 4] (fun i _ wr => ∃ k n : Nat, k ≤ l.length ∧ i = .int .i64 (k : Nat) ∧ l.length - k ≤ n ∧ Lib.validGoD n (l.drop k) = Lib.validD l ∧ Same w wr) (fun i _ _ => l.length - (intOf i).toNat)
  case atStart => exact ⟨0, l.length, Nat.zero_le _, rfl, by omega, rfl, Same.refl w⟩
  case round =>
    obtain ⟨k, n, hk, rfl, hn, hv, hs⟩ := hrel
    by_cases hlt : k < l.length
    · have hltz : (k : Int) < (l.length : Int) := by omega
      have hfr : ∀ w, (Instr.slice 9 (S l) (some (.int .i64 (k : Int))) none none).run Tryd.prog w = .ok (S (l.drop k)) w := fun w => from_S l k hk w
      have hne : l.drop k ≠ [] := by intro e; have := congrArg List.length e; simp at this; omega
      obtain ⟨m, rfl⟩ : ∃ m, n = m + 1 := ⟨n - 1, by omega⟩
      have hst := validGoD_step m (l.drop k) hne
      rw [hv] at hst
      have hle := utfW_le (l.drop k)
      rw [List.length_drop] at hle
      rw [List.drop_drop] at hst
      have hll : (l.drop k).length ≤ maxLen := by have := HL.out; rw [List.length_drop]; omega
      have HST := Px.hid (And.intro hst (And.intro hll hs))
      clear hst hll hs hv hne
      go_wp2_with fail
      refine (utf_any (l.drop k) _ HST.out.2.1).mono ?_
      rintro e w' ⟨rfl, hs⟩
      have HS := Px.hid (HST.out.2.2.trans hs)
      have HST := Px.hid HST.out.1
      clear hs
      obtain ⟨u, hu⟩ : ∃ u, u = utfW (l.drop k) := ⟨_, rfl⟩
      rw [← hu] at hle ⊢
      have HU := Px.hid hu
      clear hu
      by_cases h0 : u = 0
      · have hr : Lib.validD l = false := by rw [HST.out, if_pos (by rw [← HU.out]; exact h0)]
        have H := Px.hid hr
        clear hr
        subst h0
        go_wp2
        go_ret
        rw [H.out]
        exact ⟨rfl, HS.out⟩
      · have hr : Lib.validD l = Lib.validGoD m (l.drop (k + u)) := by rw [HST.out, if_neg (by rw [← HU.out]; exact h0), ← HU.out]
        have H := Px.hid hr
        have h0z : ((u : Int) == 0) = false := by simp; omega
        clear hr
        go_wp2
        go_roundw
        case rel => exact ⟨k + u, m, by omega, by go_num, by omega, H.out.symm, HS.out⟩
        case measure => simp [intOf]; omega
    · have hltz : ¬ (k : Int) < (l.length : Int) := by omega
      have hd : l.drop k = [] := List.drop_eq_nil_of_le (by omega)
      rw [hd, validGoD_nil] at hv
      have H := Px.hid (And.intro hv hs)
      clear hd hv hs
      go_wp2
      go_ret
      rw [← H.out.1]
      exact ⟨rfl, H.out.2⟩
end Go.Proofs.YtddiabaagpmkgaaDoor
