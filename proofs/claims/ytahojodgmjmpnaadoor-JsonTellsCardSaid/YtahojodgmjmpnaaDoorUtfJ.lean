/-
  The walk over the reference's Utf (turned from XUtfW5); it is R6.utf.
-/
import Derived.Test.YtahojodgmjmpnaaDoorGdJ
import Derived.Test.YtahojodgmjmpnaaDoorR6M
import Derived.Test.YtahojodgmjmpnaaDoorUtfP
namespace Go.Proofs.YtahojodgmjmpnaaDoor
open Go.RowKit Go.Px Go.Px.Utf

theorem utf_nil (w : World) : Calls Tryd.prog 60 #[S []] w fun e w' => e = .returned (.int .i64 0) ∧ Same w w' := by
  go_enter Tryd.func60, Tryd.ntmps60
  go_wp2
  go_ret
  exact ⟨rfl, Same.refl w⟩

set_option maxRecDepth 100000 in
set_option maxHeartbeats 2000000 in
theorem utf_one (l : Bytes) (w : World) (hlen : l.length ≤ maxLen) (hne : l ≠ []) (h : (l.getD 0 0).toNat < 128) :
    Calls Tryd.prog 60 #[S l] w fun e w' => e = .returned (.int .i64 (utfW l : Nat)) ∧ Same w w' := by
  unfold maxLen at hlen
  have _ := hlen
  have hsz : (ByteArray.mk l.toArray).size = l.length := size_S l
  have hpos : 0 < l.length := List.length_pos_iff.2 hne
  have hposz : ((l.length : Int) == 0) = false := by simp; omega
  have i0 : ∀ w, (Instr.index 9 (S l) (.int .i64 0)).run Tryd.prog w = .ok (.int .u8 (l.getD 0 0).toNat) w := fun w => idx_S l 0 hpos w
  have hb := (l.getD 0 0).toNat_lt
  have hu := utf_ascii l hne h
  have H := Px.hid hu
  obtain ⟨b, hbb⟩ : ∃ b, b = (l.getD 0 0).toNat := ⟨_, rfl⟩
  rw [← hbb] at i0 hb h
  have hz : (b : Int) < 128 := by omega
  clear hu hbb hne h
  go_enter Tryd.func60, Tryd.ntmps60
  go_wp2
  go_ret
  rw [H.out]
  exact ⟨rfl, Same.refl w⟩

set_option maxRecDepth 100000 in
set_option maxHeartbeats 2000000 in
theorem utf_odd (l : Bytes) (w : World) (hlen : l.length ≤ maxLen) (hne : l ≠ []) (h : 128 ≤ (l.getD 0 0).toNat) (h2 : (l.getD 0 0).toNat < 192 ∨ 248 ≤ (l.getD 0 0).toNat) :
    Calls Tryd.prog 60 #[S l] w fun e w' => e = .returned (.int .i64 (utfW l : Nat)) ∧ Same w w' := by
  unfold maxLen at hlen
  have _ := hlen
  have hsz : (ByteArray.mk l.toArray).size = l.length := size_S l
  have hpos : 0 < l.length := List.length_pos_iff.2 hne
  have hposz : ((l.length : Int) == 0) = false := by simp; omega
  have i0 : ∀ w, (Instr.index 9 (S l) (.int .i64 0)).run Tryd.prog w = .ok (.int .u8 (l.getD 0 0).toNat) w := fun w => idx_S l 0 hpos w
  have hb := (l.getD 0 0).toNat_lt
  have hu := utf_none l hne h h2
  have H := Px.hid hu
  obtain ⟨b, hbb⟩ : ∃ b, b = (l.getD 0 0).toNat := ⟨_, rfl⟩
  rw [← hbb] at i0 hb h h2
  have hz : ¬ (b : Int) < 128 := by omega
  clear hu hbb hne
  rcases h2 with h2 | h2
  · have g1 : ¬ (192 : Int) ≤ (b : Int) := by omega
    have g2 : ¬ (224 : Int) ≤ (b : Int) := by omega
    have g3 : ¬ (240 : Int) ≤ (b : Int) := by omega
    go_enter Tryd.func60, Tryd.ntmps60
    go_wp2
    go_ret
    rw [H.out]
    exact ⟨rfl, Same.refl w⟩
  · have g1 : (192 : Int) ≤ (b : Int) := by omega
    have g2 : (224 : Int) ≤ (b : Int) := by omega
    have g3 : (240 : Int) ≤ (b : Int) := by omega
    have g4 : ¬ (b : Int) < 224 := by omega
    have g5 : ¬ (b : Int) < 240 := by omega
    have g6 : ¬ (b : Int) < 248 := by omega
    go_enter Tryd.func60, Tryd.ntmps60
    go_wp2
    go_ret
    rw [H.out]
    exact ⟨rfl, Same.refl w⟩

set_option maxRecDepth 100000 in
set_option maxHeartbeats 2000000 in
theorem utf_2 (l : Bytes) (w : World) (hlen : l.length ≤ maxLen) (hne : l ≠ []) (h1 : 192 ≤ (l.getD 0 0).toNat) (h2 : (l.getD 0 0).toNat < 224) :
    Calls Tryd.prog 60 #[S l] w fun e w' => e = .returned (.int .i64 (utfW l : Nat)) ∧ Same w w' := by
  unfold maxLen at hlen
  have _ := hlen
  have hsz : (ByteArray.mk l.toArray).size = l.length := size_S l
  have hpos : 0 < l.length := List.length_pos_iff.2 hne
  have hposz : ((l.length : Int) == 0) = false := by simp; omega
  have i0 : ∀ w, (Instr.index 9 (S l) (.int .i64 0)).run Tryd.prog w = .ok (.int .u8 (l.getD 0 0).toNat) w := fun w => idx_S l 0 hpos w
  have hb := (l.getD 0 0).toNat_lt
  have hsh := utf_short l hne 2 192 224 (.inl ⟨rfl, rfl, rfl⟩) h1 h2
  have hco := fun k => utf_cont l hne 2 192 224 k (.inl ⟨rfl, rfl, rfl⟩) h1 h2
  have hwh := utf_whole2 l hne h1 h2
  obtain ⟨b, hbb⟩ : ∃ b, b = (l.getD 0 0).toNat := ⟨_, rfl⟩
  rw [← hbb] at i0 hb h1 h2 hwh
  have hcz : ((b - 192 : Nat) : Int) = (b : Int) - 192 := by omega
  have hcl : b - 192 ≤ 31 := by omega
  have H := Px.hid (And.intro hco (And.intro hwh (And.intro hcz hcl)))
  have hz : ¬ (b : Int) < 128 := by omega
  have ga192 : (192 : Int) ≤ (b : Int) := by omega
  have gb224 : (b : Int) < 224 := by omega
  clear hbb hco hwh hcz hcl hne
  by_cases hs : l.length < 2
  · have H2 := Px.hid (hsh hs)
    have hsz2 : (l.length : Int) < 2 := by omega
    clear hsh H
    go_enter Tryd.func60, Tryd.ntmps60
    go_wp2
    go_ret
    rw [H2.out]
    exact ⟨rfl, Same.refl w⟩
  · have hsz2 : ¬ (l.length : Int) < 2 := by omega
    clear hsh
    go_enter Tryd.func60, Tryd.ntmps60
    go_wp2
    go_loop [4, 6] (fun c i => ∃ j C : Nat, 1 ≤ j ∧ j ≤ 2 ∧ i = .int .i64 (j : Nat) ∧ c = .int .i64 (C : Nat) ∧ Hid (C = contC l (b - 192) (j - 1) ∧ contOk l (j - 1))) (fun _ i => 2 - (intOf i).toNat)
    case atStart => exact ⟨1, b - 192, by omega, by omega, rfl, by rw [H.out.2.2.1], Px.hid ⟨rfl, fun j a b => by omega⟩⟩
    case round =>
      obtain ⟨j, C, hj1, hj2, rfl, rfl, HC⟩ := hrel
      have hcb := contC_le l (b - 192) (j - 1) H.out.2.2.2 (by omega)
      rw [← HC.out.1] at hcb
      by_cases hlt : j < 2
      · have hix : ∀ w, (Instr.index 9 (S l) (.int .i64 (j : Nat))).run Tryd.prog w = .ok (.int .u8 (l.getD j 0).toNat) w := fun w => idx_S l j (by omega) w
        have hc2 := (l.getD j 0).toNat_lt
        have hn2 : contC l (b - 192) j = 64 * C + ((l.getD j 0).toNat - 128) := by
          obtain ⟨k, rfl⟩ : ∃ k, j = k + 1 := ⟨j - 1, by omega⟩
          rw [HC.out.1]; rfl
        have hbd : ((l.getD j 0).toNat < 128 ∨ 191 < (l.getD j 0).toNat) → utfW l = 0 := by
          obtain ⟨k, rfl⟩ : ∃ k, j = k + 1 := ⟨j - 1, by omega⟩
          exact H.out.1 k hs hlt HC.out.2
        have hok : 128 ≤ (l.getD j 0).toNat → (l.getD j 0).toNat ≤ 191 → contOk l j := by
          obtain ⟨k, rfl⟩ : ∃ k, j = k + 1 := ⟨j - 1, by omega⟩
          exact contOk_succ HC.out.2
        have HC := Px.hid (And.intro hn2 (And.intro hbd hok))
        clear hn2 hbd hok
        obtain ⟨c, hcc⟩ : ∃ c, c = (l.getD j 0).toNat := ⟨_, rfl⟩
        rw [← hcc] at hix hc2
        have HCC := Px.hid hcc
        clear hcc
        have hlz : (j : Int) < 2 := by omega
        by_cases hb1 : c < 128
        · have z1 : (c : Int) < 128 := by omega
          go_wp2
          go_ret
          rw [HC.out.2.1 (by rw [← HCC.out]; exact .inl hb1)]
          exact ⟨rfl, Same.refl w⟩
        · have z1 : ¬ (c : Int) < 128 := by omega
          by_cases hb2 : 191 < c
          · have z2 : (191 : Int) < (c : Int) := by omega
            go_wp2
            go_ret
            rw [HC.out.2.1 (by rw [← HCC.out]; exact .inr hb2)]
            exact ⟨rfl, Same.refl w⟩
          · have z2 : ¬ (191 : Int) < (c : Int) := by omega
            go_wp2
            go_round
            case rel => exact ⟨j + 1, 64 * C + (c - 128), by omega, by omega, by go_num, by go_num, Px.hid ⟨by rw [Nat.add_sub_cancel, HC.out.1, ← HCC.out], by rw [Nat.add_sub_cancel]; exact HC.out.2.2 (by rw [← HCC.out]; omega) (by rw [← HCC.out]; omega)⟩⟩
            case measure => simp [intOf]; omega
      · have hke : j = 2 := by omega
        subst hke
        have HW := Px.hid (H.out.2.1 hs HC.out.2 C HC.out.1)
        clear HC
        go_wp2
        all_goals
          go_ret
          refine ⟨?_, (Fr.refl _ w).alloc _⟩
          first
          | (rw [HW.out.1 (by omega)]; rfl)
          | (rw [HW.out.2 (by omega)]; rfl)

set_option maxRecDepth 100000 in
set_option maxHeartbeats 2000000 in
theorem utf_3 (l : Bytes) (w : World) (hlen : l.length ≤ maxLen) (hne : l ≠ []) (h1 : 224 ≤ (l.getD 0 0).toNat) (h2 : (l.getD 0 0).toNat < 240) :
    Calls Tryd.prog 60 #[S l] w fun e w' => e = .returned (.int .i64 (utfW l : Nat)) ∧ Same w w' := by
  unfold maxLen at hlen
  have _ := hlen
  have hsz : (ByteArray.mk l.toArray).size = l.length := size_S l
  have hpos : 0 < l.length := List.length_pos_iff.2 hne
  have hposz : ((l.length : Int) == 0) = false := by simp; omega
  have i0 : ∀ w, (Instr.index 9 (S l) (.int .i64 0)).run Tryd.prog w = .ok (.int .u8 (l.getD 0 0).toNat) w := fun w => idx_S l 0 hpos w
  have hb := (l.getD 0 0).toNat_lt
  have hsh := utf_short l hne 3 224 240 (.inr (.inl ⟨rfl, rfl, rfl⟩)) h1 h2
  have hco := fun k => utf_cont l hne 3 224 240 k (.inr (.inl ⟨rfl, rfl, rfl⟩)) h1 h2
  have hwh := utf_whole3 l hne h1 h2
  obtain ⟨b, hbb⟩ : ∃ b, b = (l.getD 0 0).toNat := ⟨_, rfl⟩
  rw [← hbb] at i0 hb h1 h2 hwh
  have hcz : ((b - 224 : Nat) : Int) = (b : Int) - 224 := by omega
  have hcl : b - 224 ≤ 31 := by omega
  have H := Px.hid (And.intro hco (And.intro hwh (And.intro hcz hcl)))
  have hz : ¬ (b : Int) < 128 := by omega
  have ga192 : (192 : Int) ≤ (b : Int) := by omega
  have gb224 : ¬ (b : Int) < 224 := by omega
  have ga224 : (224 : Int) ≤ (b : Int) := by omega
  have gb240 : (b : Int) < 240 := by omega
  clear hbb hco hwh hcz hcl hne
  by_cases hs : l.length < 3
  · have H2 := Px.hid (hsh hs)
    have hsz2 : (l.length : Int) < 3 := by omega
    clear hsh H
    go_enter Tryd.func60, Tryd.ntmps60
    go_wp2
    go_ret
    rw [H2.out]
    exact ⟨rfl, Same.refl w⟩
  · have hsz2 : ¬ (l.length : Int) < 3 := by omega
    clear hsh
    go_enter Tryd.func60, Tryd.ntmps60
    go_wp2
    go_loop [4, 6] (fun c i => ∃ j C : Nat, 1 ≤ j ∧ j ≤ 3 ∧ i = .int .i64 (j : Nat) ∧ c = .int .i64 (C : Nat) ∧ Hid (C = contC l (b - 224) (j - 1) ∧ contOk l (j - 1))) (fun _ i => 3 - (intOf i).toNat)
    case atStart => exact ⟨1, b - 224, by omega, by omega, rfl, by rw [H.out.2.2.1], Px.hid ⟨rfl, fun j a b => by omega⟩⟩
    case round =>
      obtain ⟨j, C, hj1, hj2, rfl, rfl, HC⟩ := hrel
      have hcb := contC_le l (b - 224) (j - 1) H.out.2.2.2 (by omega)
      rw [← HC.out.1] at hcb
      by_cases hlt : j < 3
      · have hix : ∀ w, (Instr.index 9 (S l) (.int .i64 (j : Nat))).run Tryd.prog w = .ok (.int .u8 (l.getD j 0).toNat) w := fun w => idx_S l j (by omega) w
        have hc2 := (l.getD j 0).toNat_lt
        have hn2 : contC l (b - 224) j = 64 * C + ((l.getD j 0).toNat - 128) := by
          obtain ⟨k, rfl⟩ : ∃ k, j = k + 1 := ⟨j - 1, by omega⟩
          rw [HC.out.1]; rfl
        have hbd : ((l.getD j 0).toNat < 128 ∨ 191 < (l.getD j 0).toNat) → utfW l = 0 := by
          obtain ⟨k, rfl⟩ : ∃ k, j = k + 1 := ⟨j - 1, by omega⟩
          exact H.out.1 k hs hlt HC.out.2
        have hok : 128 ≤ (l.getD j 0).toNat → (l.getD j 0).toNat ≤ 191 → contOk l j := by
          obtain ⟨k, rfl⟩ : ∃ k, j = k + 1 := ⟨j - 1, by omega⟩
          exact contOk_succ HC.out.2
        have HC := Px.hid (And.intro hn2 (And.intro hbd hok))
        clear hn2 hbd hok
        obtain ⟨c, hcc⟩ : ∃ c, c = (l.getD j 0).toNat := ⟨_, rfl⟩
        rw [← hcc] at hix hc2
        have HCC := Px.hid hcc
        clear hcc
        have hlz : (j : Int) < 3 := by omega
        by_cases hb1 : c < 128
        · have z1 : (c : Int) < 128 := by omega
          go_wp2
          go_ret
          rw [HC.out.2.1 (by rw [← HCC.out]; exact .inl hb1)]
          exact ⟨rfl, Same.refl w⟩
        · have z1 : ¬ (c : Int) < 128 := by omega
          by_cases hb2 : 191 < c
          · have z2 : (191 : Int) < (c : Int) := by omega
            go_wp2
            go_ret
            rw [HC.out.2.1 (by rw [← HCC.out]; exact .inr hb2)]
            exact ⟨rfl, Same.refl w⟩
          · have z2 : ¬ (191 : Int) < (c : Int) := by omega
            go_wp2
            go_round
            case rel => exact ⟨j + 1, 64 * C + (c - 128), by omega, by omega, by go_num, by go_num, Px.hid ⟨by rw [Nat.add_sub_cancel, HC.out.1, ← HCC.out], by rw [Nat.add_sub_cancel]; exact HC.out.2.2 (by rw [← HCC.out]; omega) (by rw [← HCC.out]; omega)⟩⟩
            case measure => simp [intOf]; omega
      · have hke : j = 3 := by omega
        subst hke
        have HW := Px.hid (H.out.2.1 hs HC.out.2 C HC.out.1)
        clear HC
        go_wp2
        all_goals
          go_ret
          refine ⟨?_, (Fr.refl _ w).alloc _⟩
          first
          | (rw [HW.out.1 (by omega)]; rfl)
          | (rw [HW.out.2 (by omega)]; rfl)

set_option maxRecDepth 100000 in
set_option maxHeartbeats 2000000 in
theorem utf_4 (l : Bytes) (w : World) (hlen : l.length ≤ maxLen) (hne : l ≠ []) (h1 : 240 ≤ (l.getD 0 0).toNat) (h2 : (l.getD 0 0).toNat < 248) :
    Calls Tryd.prog 60 #[S l] w fun e w' => e = .returned (.int .i64 (utfW l : Nat)) ∧ Same w w' := by
  unfold maxLen at hlen
  have _ := hlen
  have hsz : (ByteArray.mk l.toArray).size = l.length := size_S l
  have hpos : 0 < l.length := List.length_pos_iff.2 hne
  have hposz : ((l.length : Int) == 0) = false := by simp; omega
  have i0 : ∀ w, (Instr.index 9 (S l) (.int .i64 0)).run Tryd.prog w = .ok (.int .u8 (l.getD 0 0).toNat) w := fun w => idx_S l 0 hpos w
  have hb := (l.getD 0 0).toNat_lt
  have hsh := utf_short l hne 4 240 248 (.inr (.inr ⟨rfl, rfl, rfl⟩)) h1 h2
  have hco := fun k => utf_cont l hne 4 240 248 k (.inr (.inr ⟨rfl, rfl, rfl⟩)) h1 h2
  have hwh := utf_whole4 l hne h1 h2
  obtain ⟨b, hbb⟩ : ∃ b, b = (l.getD 0 0).toNat := ⟨_, rfl⟩
  rw [← hbb] at i0 hb h1 h2 hwh
  have hcz : ((b - 240 : Nat) : Int) = (b : Int) - 240 := by omega
  have hcl : b - 240 ≤ 31 := by omega
  have H := Px.hid (And.intro hco (And.intro hwh (And.intro hcz hcl)))
  have hz : ¬ (b : Int) < 128 := by omega
  have ga192 : (192 : Int) ≤ (b : Int) := by omega
  have gb224 : ¬ (b : Int) < 224 := by omega
  have ga224 : (224 : Int) ≤ (b : Int) := by omega
  have gb240 : ¬ (b : Int) < 240 := by omega
  have ga240 : (240 : Int) ≤ (b : Int) := by omega
  have gb248 : (b : Int) < 248 := by omega
  clear hbb hco hwh hcz hcl hne
  by_cases hs : l.length < 4
  · have H2 := Px.hid (hsh hs)
    have hsz2 : (l.length : Int) < 4 := by omega
    clear hsh H
    go_enter Tryd.func60, Tryd.ntmps60
    go_wp2
    go_ret
    rw [H2.out]
    exact ⟨rfl, Same.refl w⟩
  · have hsz2 : ¬ (l.length : Int) < 4 := by omega
    clear hsh
    go_enter Tryd.func60, Tryd.ntmps60
    go_wp2
    go_loop [4, 6] (fun c i => ∃ j C : Nat, 1 ≤ j ∧ j ≤ 4 ∧ i = .int .i64 (j : Nat) ∧ c = .int .i64 (C : Nat) ∧ Hid (C = contC l (b - 240) (j - 1) ∧ contOk l (j - 1))) (fun _ i => 4 - (intOf i).toNat)
    case atStart => exact ⟨1, b - 240, by omega, by omega, rfl, by rw [H.out.2.2.1], Px.hid ⟨rfl, fun j a b => by omega⟩⟩
    case round =>
      obtain ⟨j, C, hj1, hj2, rfl, rfl, HC⟩ := hrel
      have hcb := contC_le l (b - 240) (j - 1) H.out.2.2.2 (by omega)
      rw [← HC.out.1] at hcb
      by_cases hlt : j < 4
      · have hix : ∀ w, (Instr.index 9 (S l) (.int .i64 (j : Nat))).run Tryd.prog w = .ok (.int .u8 (l.getD j 0).toNat) w := fun w => idx_S l j (by omega) w
        have hc2 := (l.getD j 0).toNat_lt
        have hn2 : contC l (b - 240) j = 64 * C + ((l.getD j 0).toNat - 128) := by
          obtain ⟨k, rfl⟩ : ∃ k, j = k + 1 := ⟨j - 1, by omega⟩
          rw [HC.out.1]; rfl
        have hbd : ((l.getD j 0).toNat < 128 ∨ 191 < (l.getD j 0).toNat) → utfW l = 0 := by
          obtain ⟨k, rfl⟩ : ∃ k, j = k + 1 := ⟨j - 1, by omega⟩
          exact H.out.1 k hs hlt HC.out.2
        have hok : 128 ≤ (l.getD j 0).toNat → (l.getD j 0).toNat ≤ 191 → contOk l j := by
          obtain ⟨k, rfl⟩ : ∃ k, j = k + 1 := ⟨j - 1, by omega⟩
          exact contOk_succ HC.out.2
        have HC := Px.hid (And.intro hn2 (And.intro hbd hok))
        clear hn2 hbd hok
        obtain ⟨c, hcc⟩ : ∃ c, c = (l.getD j 0).toNat := ⟨_, rfl⟩
        rw [← hcc] at hix hc2
        have HCC := Px.hid hcc
        clear hcc
        have hlz : (j : Int) < 4 := by omega
        by_cases hb1 : c < 128
        · have z1 : (c : Int) < 128 := by omega
          go_wp2
          go_ret
          rw [HC.out.2.1 (by rw [← HCC.out]; exact .inl hb1)]
          exact ⟨rfl, Same.refl w⟩
        · have z1 : ¬ (c : Int) < 128 := by omega
          by_cases hb2 : 191 < c
          · have z2 : (191 : Int) < (c : Int) := by omega
            go_wp2
            go_ret
            rw [HC.out.2.1 (by rw [← HCC.out]; exact .inr hb2)]
            exact ⟨rfl, Same.refl w⟩
          · have z2 : ¬ (191 : Int) < (c : Int) := by omega
            go_wp2
            go_round
            case rel => exact ⟨j + 1, 64 * C + (c - 128), by omega, by omega, by go_num, by go_num, Px.hid ⟨by rw [Nat.add_sub_cancel, HC.out.1, ← HCC.out], by rw [Nat.add_sub_cancel]; exact HC.out.2.2 (by rw [← HCC.out]; omega) (by rw [← HCC.out]; omega)⟩⟩
            case measure => simp [intOf]; omega
      · have hke : j = 4 := by omega
        subst hke
        have HW := Px.hid (H.out.2.1 hs HC.out.2 C HC.out.1)
        clear HC
        go_wp2
        all_goals
          go_ret
          refine ⟨?_, (Fr.refl _ w).alloc _⟩
          first
          | (rw [HW.out.1 (by omega)]; rfl)
          | (rw [HW.out.2 (by omega)]; rfl)

theorem utf_any (l : Bytes) (w : World) (hlen : l.length ≤ maxLen) : Calls Tryd.prog 60 #[S l] w fun e w' => e = .returned (.int .i64 (utfW l : Nat)) ∧ Same w w' := by
  by_cases hne : l = []
  · subst hne; exact utf_nil w
  · by_cases h1 : (l.getD 0 0).toNat < 128
    · exact utf_one l w hlen hne h1
    · by_cases h2 : (l.getD 0 0).toNat < 192 ∨ 248 ≤ (l.getD 0 0).toNat
      · exact utf_odd l w hlen hne (by omega) h2
      · by_cases h3 : (l.getD 0 0).toNat < 224
        · exact utf_2 l w hlen hne (by omega) h3
        · by_cases h4 : (l.getD 0 0).toNat < 240
          · exact utf_3 l w hlen hne (by omega) h4
          · exact utf_4 l w hlen hne (by omega) (by omega)

set_option maxHeartbeats 4000000 in
theorem utfE_six (n a b c d : Nat) (hn : 0 < n) (ha : a < 256) (hb : b < 256) (hc : c < 256) (hd : d < 256) :
    utfE n a b c d = (if n = 0 then 0
      else if a < 128 then 1
      else if decide (194 ≤ a) && decide (a ≤ 223) then (if decide (2 ≤ n) && (decide (128 ≤ b) && decide (b ≤ 191)) then 2 else 0)
      else if decide (224 ≤ a) && decide (a ≤ 239) then (if decide (3 ≤ n) && decide ((if a == 224 then 160 else 128) ≤ b) && decide (b ≤ (if a == 237 then 159 else 191)) && (decide (128 ≤ c) && decide (c ≤ 191)) then 3 else 0)
      else if decide (240 ≤ a) && decide (a ≤ 244) then (if decide (4 ≤ n) && decide ((if a == 240 then 144 else 128) ≤ b) && decide (b ≤ (if a == 244 then 143 else 191)) && (decide (128 ≤ c) && decide (c ≤ 191)) && (decide (128 ≤ d) && decide (d ≤ 191)) then 4 else 0)
      else 0) := by
  unfold utfE
  simp only [Bool.and_eq_true, decide_eq_true_eq, beq_iff_eq]
  rw [if_neg (by omega : ¬ n = 0)]
  by_cases h1 : a < 128
  · rw [if_pos h1, if_pos h1]
  rw [if_neg h1, if_neg h1]
  have mk : ∀ (k u v : Nat), ∃ y, (if a = k then u else v) = y ∧ ((a = k ∧ y = u) ∨ (a ≠ k ∧ y = v)) := fun k u v => by
    by_cases e : a = k
    · exact ⟨u, if_pos e, .inl ⟨e, rfl⟩⟩
    · exact ⟨v, if_neg e, .inr ⟨e, rfl⟩⟩
  obtain ⟨l3, e3, f3⟩ := mk 224 160 128
  obtain ⟨g3, e4, f4⟩ := mk 237 159 191
  obtain ⟨l4, e5, f5⟩ := mk 240 144 128
  obtain ⟨g4, e6, f6⟩ := mk 244 143 191
  rw [e3, e4, e5, e6]
  clear e3 e4 e5 e6 mk
  by_cases h2 : a < 224
  · repeat' split
    all_goals omega
  rw [if_neg (show ¬ (192 ≤ a ∧ a < 224) by omega), if_neg (show ¬ (194 ≤ a ∧ a ≤ 223) by omega)]
  by_cases h3 : a < 240
  · rw [if_pos (show 224 ≤ a ∧ a < 240 by omega), if_pos (show 224 ≤ a ∧ a ≤ 239 by omega)]
    repeat' split
    all_goals omega
  rw [if_neg (show ¬ (224 ≤ a ∧ a < 240) by omega), if_neg (show ¬ (224 ≤ a ∧ a ≤ 239) by omega)]
  repeat' split
  all_goals omega
theorem utf_six (l : Bytes) : utfW l = R6.utf l := by
  by_cases hl : l = []
  · subst hl; rfl
  · rw [utfW_eq l hl, utfE_six _ _ _ _ _ (List.length_pos_iff.2 hl) (UInt8.toNat_lt _) (UInt8.toNat_lt _) (UInt8.toNat_lt _) (UInt8.toNat_lt _)]
    rfl
theorem utf_r6 (l : Bytes) (w : World) (hlen : l.length ≤ maxLen) : Calls Tryd.prog 60 #[S l] w fun e w' => e = .returned (.int .i64 (R6.utf l : Nat)) ∧ Same w w' := by
  have := utf_any l w hlen
  rw [utf_six] at this
  exact this
end Go.Proofs.YtahojodgmjmpnaaDoor
