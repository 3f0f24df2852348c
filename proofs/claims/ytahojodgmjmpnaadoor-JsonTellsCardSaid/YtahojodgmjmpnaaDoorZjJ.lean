/-
  The walk over the reference's Number, layer 16 (printed by gen_zj.py).
-/
import Derived.Test.YtahojodgmjmpnaaDoorZiJ
namespace Go.Proofs.YtahojodgmjmpnaaDoor
open Go.RowKit Go.Px

def numV (r : Nat × Bool) : Value := .tuple #[.int .i64 (r.1 : Nat), .bool r.2]
theorem numN_at (s : Bytes) (q k : Nat) (hk : k < s.length) : R6.numN q (s.drop k) = match R6.numNext q (R6.at_ s k) with
    | none => (0, R6.numEnd q)
    | some j => ((R6.numN j (s.drop (k + 1))).1 + 1, (R6.numN j (s.drop (k + 1))).2) := by
  rw [List.drop_eq_getElem_cons hk]
  have : s[k].toNat = R6.at_ s k := by unfold R6.at_; simp [hk]
  rw [← this]
  rfl
theorem num_go {s : Bytes} {q k j : Nat} {r : Nat × Bool} (hk : k < s.length) (hr : (k + (R6.numN q (s.drop k)).1, (R6.numN q (s.drop k)).2) = r) (hn : R6.numNext q (R6.at_ s k) = some j) :
    (k + 1 + (R6.numN j (s.drop (k + 1))).1, (R6.numN j (s.drop (k + 1))).2) = r := by
  rw [numN_at s q k hk, hn] at hr
  rw [← hr]
  simp only [Prod.mk.injEq, and_true]
  omega
theorem num_end {s : Bytes} {q k : Nat} {r : Nat × Bool} (hk : k < s.length) (hr : (k + (R6.numN q (s.drop k)).1, (R6.numN q (s.drop k)).2) = r) (hn : R6.numNext q (R6.at_ s k) = none) :
    (k, R6.numEnd q) = r := by
  rw [numN_at s q k hk, hn] at hr
  exact hr
theorem num_le {s : Bytes} {q k : Nat} {r : Nat × Bool} (hr : (k + (R6.numN q (s.drop k)).1, (R6.numN q (s.drop k)).2) = r) (hk : k = s.length) : (k, R6.numEnd q) = r := by
  subst hk
  rw [List.drop_length] at hr
  exact hr

set_option maxRecDepth 100000 in
set_option maxHeartbeats 40000000 in
theorem number6 (s : Bytes) (hs : s.length ≤ 140737488355327) (w : World) : Calls Tryd.prog 41 #[S s] w fun r w' => r = .returned (numV (R6.number s)) ∧ w = w' := by
  obtain ⟨R, hR⟩ : ∃ R, R = R6.number s := ⟨_, rfl⟩
  rw [← hR]
  have H := Px.hid hR
  have hsz : (ByteArray.mk s.toArray).size = s.length := size_S s
  clear hR
  go_enter Tryd.func41, Tryd.ntmps41
  go_wp2
  go_loopw [4, 5] (fun q i wr => ∃ Q k, q = .int .i64 (Q : Nat) ∧ i = .int .i64 (k : Nat) ∧ Q ≤ 8 ∧ k ≤ s.length ∧ w = wr ∧ (k + (R6.numN Q (s.drop k)).1, (R6.numN Q (s.drop k)).2) = R) (fun q i _ => s.length - (intOf i).toNat)
  case atStart => exact ⟨0, 0, rfl, rfl, by omega, Nat.zero_le _, rfl, by rw [H.out]; unfold R6.number; simp⟩
  case round =>
    obtain ⟨Q, k, rfl, rfl, hQ, hk, rfl, hps⟩ := hrel
    have hQ9 : Q = 0 ∨ Q = 1 ∨ Q = 2 ∨ Q = 3 ∨ Q = 4 ∨ Q = 5 ∨ Q = 6 ∨ Q = 7 ∨ Q = 8 := by omega
    by_cases hlt : k < s.length
    · have hltz : (k : Int) < (s.length : Int) := by omega
      have hix := idx6 s k hlt
      have hnS := fun j => num_go (j := j) hlt hps
      have hnE := num_end hlt hps
      have hk2 : k ≤ 140737488355327 := by omega
      have hwk := wrap1 k hk2
      obtain ⟨c, hcc⟩ : ∃ c, R6.at_ s k = c := ⟨_, rfl⟩
      simp only [hcc] at hix hnS hnE
      have HLT := Px.hid hlt
      have HNS := Px.hid hnS
      have HNE := Px.hid hnE
      clear hcc hps hlt hnS hnE hk H
      have hcc : c = 48 ∨ (49 ≤ c ∧ c ≤ 57) ∨ c = 45 ∨ c = 46 ∨ c = 101 ∨ c = 69 ∨ c = 43 ∨ ((¬ (48 ≤ c ∧ c ≤ 57)) ∧ c ≠ 45 ∧ c ≠ 46 ∧ c ≠ 101 ∧ c ≠ 69 ∧ c ≠ 43) := by omega
      rcases hcc with rfl | ⟨hd1, hd2⟩ | rfl | rfl | rfl | rfl | rfl | ⟨m0, m1, m2, m3, m4, m5⟩
      · have HD := Px.hid (fun w : World => (digit6 48 w))
        rw [show R6.digit 48 = true by decide] at HD
        rcases hQ9 with rfl | rfl | rfl | rfl | rfl | rfl | rfl | rfl | rfl
        as_aux_lemma =>
          have HP := Px.hid (HNS.out 2 (by decide))
          clear HNS HNE hQ
          repeat (go_wp2_with fail; refine (HD.out _).mono ?_; rintro e w2 ⟨rfl, rfl⟩)
          go_wp2
          go_roundw
          case rel => exact ⟨2, k + 1, rfl, by go_num, by omega, HLT.out, (by first | trivial | rfl), HP.out⟩
          case measure => have := HLT.out; simp [intOf]; omega
        as_aux_lemma =>
          have HP := Px.hid (HNS.out 2 (by decide))
          clear HNS HNE hQ
          repeat (go_wp2_with fail; refine (HD.out _).mono ?_; rintro e w2 ⟨rfl, rfl⟩)
          go_wp2
          go_roundw
          case rel => exact ⟨2, k + 1, rfl, by go_num, by omega, HLT.out, (by first | trivial | rfl), HP.out⟩
          case measure => have := HLT.out; simp [intOf]; omega
        as_aux_lemma =>
          have HP := Px.hid (HNE.out (by decide))
          clear HNS HNE hQ
          repeat (go_wp2_with fail; refine (HD.out _).mono ?_; rintro e w2 ⟨rfl, rfl⟩)
          go_wp2
          go_ret2
          rw [← HP.out]
          exact ⟨rfl, rfl⟩
        as_aux_lemma =>
          have HP := Px.hid (HNS.out 3 (by decide))
          clear HNS HNE hQ
          repeat (go_wp2_with fail; refine (HD.out _).mono ?_; rintro e w2 ⟨rfl, rfl⟩)
          go_wp2
          go_roundw
          case rel => exact ⟨3, k + 1, rfl, by go_num, by omega, HLT.out, (by first | trivial | rfl), HP.out⟩
          case measure => have := HLT.out; simp [intOf]; omega
        as_aux_lemma =>
          have HP := Px.hid (HNS.out 5 (by decide))
          clear HNS HNE hQ
          repeat (go_wp2_with fail; refine (HD.out _).mono ?_; rintro e w2 ⟨rfl, rfl⟩)
          go_wp2
          go_roundw
          case rel => exact ⟨5, k + 1, rfl, by go_num, by omega, HLT.out, (by first | trivial | rfl), HP.out⟩
          case measure => have := HLT.out; simp [intOf]; omega
        as_aux_lemma =>
          have HP := Px.hid (HNS.out 5 (by decide))
          clear HNS HNE hQ
          repeat (go_wp2_with fail; refine (HD.out _).mono ?_; rintro e w2 ⟨rfl, rfl⟩)
          go_wp2
          go_roundw
          case rel => exact ⟨5, k + 1, rfl, by go_num, by omega, HLT.out, (by first | trivial | rfl), HP.out⟩
          case measure => have := HLT.out; simp [intOf]; omega
        as_aux_lemma =>
          have HP := Px.hid (HNS.out 8 (by decide))
          clear HNS HNE hQ
          repeat (go_wp2_with fail; refine (HD.out _).mono ?_; rintro e w2 ⟨rfl, rfl⟩)
          go_wp2
          go_roundw
          case rel => exact ⟨8, k + 1, rfl, by go_num, by omega, HLT.out, (by first | trivial | rfl), HP.out⟩
          case measure => have := HLT.out; simp [intOf]; omega
        as_aux_lemma =>
          have HP := Px.hid (HNS.out 8 (by decide))
          clear HNS HNE hQ
          repeat (go_wp2_with fail; refine (HD.out _).mono ?_; rintro e w2 ⟨rfl, rfl⟩)
          go_wp2
          go_roundw
          case rel => exact ⟨8, k + 1, rfl, by go_num, by omega, HLT.out, (by first | trivial | rfl), HP.out⟩
          case measure => have := HLT.out; simp [intOf]; omega
        as_aux_lemma =>
          have HP := Px.hid (HNS.out 8 (by decide))
          clear HNS HNE hQ
          repeat (go_wp2_with fail; refine (HD.out _).mono ?_; rintro e w2 ⟨rfl, rfl⟩)
          go_wp2
          go_roundw
          case rel => exact ⟨8, k + 1, rfl, by go_num, by omega, HLT.out, (by first | trivial | rfl), HP.out⟩
          case measure => have := HLT.out; simp [intOf]; omega
      · have HD := Px.hid (fun w : World => (digit6 c w))
        rw [show R6.digit c = true by unfold R6.digit; simp; omega] at HD
        have n45 : ((c : Int) == 45) = false := by simp; omega
        have n48 : ((c : Int) == 48) = false := by simp; omega
        have n46 : ((c : Int) == 46) = false := by simp; omega
        have n101 : ((c : Int) == 101) = false := by simp; omega
        have n69 : ((c : Int) == 69) = false := by simp; omega
        have n43 : ((c : Int) == 43) = false := by simp; omega
        rcases hQ9 with rfl | rfl | rfl | rfl | rfl | rfl | rfl | rfl | rfl
        as_aux_lemma =>
          have HP := Px.hid (HNS.out 3 ((numD_eq 0 (by omega) c (by omega) (by omega)).trans (by rfl)))
          clear hd1 hd2
          clear HNS HNE hQ
          repeat (go_wp2_with fail; refine (HD.out _).mono ?_; rintro e w2 ⟨rfl, rfl⟩)
          go_wp2
          go_roundw
          case rel => exact ⟨3, k + 1, rfl, by go_num, by omega, HLT.out, (by first | trivial | rfl), HP.out⟩
          case measure => have := HLT.out; simp [intOf]; omega
        as_aux_lemma =>
          have HP := Px.hid (HNS.out 3 ((numD_eq 1 (by omega) c (by omega) (by omega)).trans (by rfl)))
          clear hd1 hd2
          clear HNS HNE hQ
          repeat (go_wp2_with fail; refine (HD.out _).mono ?_; rintro e w2 ⟨rfl, rfl⟩)
          go_wp2
          go_roundw
          case rel => exact ⟨3, k + 1, rfl, by go_num, by omega, HLT.out, (by first | trivial | rfl), HP.out⟩
          case measure => have := HLT.out; simp [intOf]; omega
        as_aux_lemma =>
          have HP := Px.hid (HNE.out ((numD_eq 2 (by omega) c (by omega) (by omega)).trans (by rfl)))
          clear hd1 hd2
          clear HNS HNE hQ
          repeat (go_wp2_with fail; refine (HD.out _).mono ?_; rintro e w2 ⟨rfl, rfl⟩)
          go_wp2
          go_ret2
          rw [← HP.out]
          exact ⟨rfl, rfl⟩
        as_aux_lemma =>
          have HP := Px.hid (HNS.out 3 ((numD_eq 3 (by omega) c (by omega) (by omega)).trans (by rfl)))
          clear hd1 hd2
          clear HNS HNE hQ
          repeat (go_wp2_with fail; refine (HD.out _).mono ?_; rintro e w2 ⟨rfl, rfl⟩)
          go_wp2
          go_roundw
          case rel => exact ⟨3, k + 1, rfl, by go_num, by omega, HLT.out, (by first | trivial | rfl), HP.out⟩
          case measure => have := HLT.out; simp [intOf]; omega
        as_aux_lemma =>
          have HP := Px.hid (HNS.out 5 ((numD_eq 4 (by omega) c (by omega) (by omega)).trans (by rfl)))
          clear hd1 hd2
          clear HNS HNE hQ
          repeat (go_wp2_with fail; refine (HD.out _).mono ?_; rintro e w2 ⟨rfl, rfl⟩)
          go_wp2
          go_roundw
          case rel => exact ⟨5, k + 1, rfl, by go_num, by omega, HLT.out, (by first | trivial | rfl), HP.out⟩
          case measure => have := HLT.out; simp [intOf]; omega
        as_aux_lemma =>
          have HP := Px.hid (HNS.out 5 ((numD_eq 5 (by omega) c (by omega) (by omega)).trans (by rfl)))
          clear hd1 hd2
          clear HNS HNE hQ
          repeat (go_wp2_with fail; refine (HD.out _).mono ?_; rintro e w2 ⟨rfl, rfl⟩)
          go_wp2
          go_roundw
          case rel => exact ⟨5, k + 1, rfl, by go_num, by omega, HLT.out, (by first | trivial | rfl), HP.out⟩
          case measure => have := HLT.out; simp [intOf]; omega
        as_aux_lemma =>
          have HP := Px.hid (HNS.out 8 ((numD_eq 6 (by omega) c (by omega) (by omega)).trans (by rfl)))
          clear hd1 hd2
          clear HNS HNE hQ
          repeat (go_wp2_with fail; refine (HD.out _).mono ?_; rintro e w2 ⟨rfl, rfl⟩)
          go_wp2
          go_roundw
          case rel => exact ⟨8, k + 1, rfl, by go_num, by omega, HLT.out, (by first | trivial | rfl), HP.out⟩
          case measure => have := HLT.out; simp [intOf]; omega
        as_aux_lemma =>
          have HP := Px.hid (HNS.out 8 ((numD_eq 7 (by omega) c (by omega) (by omega)).trans (by rfl)))
          clear hd1 hd2
          clear HNS HNE hQ
          repeat (go_wp2_with fail; refine (HD.out _).mono ?_; rintro e w2 ⟨rfl, rfl⟩)
          go_wp2
          go_roundw
          case rel => exact ⟨8, k + 1, rfl, by go_num, by omega, HLT.out, (by first | trivial | rfl), HP.out⟩
          case measure => have := HLT.out; simp [intOf]; omega
        as_aux_lemma =>
          have HP := Px.hid (HNS.out 8 ((numD_eq 8 (by omega) c (by omega) (by omega)).trans (by rfl)))
          clear hd1 hd2
          clear HNS HNE hQ
          repeat (go_wp2_with fail; refine (HD.out _).mono ?_; rintro e w2 ⟨rfl, rfl⟩)
          go_wp2
          go_roundw
          case rel => exact ⟨8, k + 1, rfl, by go_num, by omega, HLT.out, (by first | trivial | rfl), HP.out⟩
          case measure => have := HLT.out; simp [intOf]; omega
      · have HD := Px.hid (fun w : World => (digit6 45 w))
        rw [show R6.digit 45 = false by decide] at HD
        rcases hQ9 with rfl | rfl | rfl | rfl | rfl | rfl | rfl | rfl | rfl
        as_aux_lemma =>
          have HP := Px.hid (HNS.out 1 (by decide))
          clear HNS HNE hQ
          repeat (go_wp2_with fail; refine (HD.out _).mono ?_; rintro e w2 ⟨rfl, rfl⟩)
          go_wp2
          go_roundw
          case rel => exact ⟨1, k + 1, rfl, by go_num, by omega, HLT.out, (by first | trivial | rfl), HP.out⟩
          case measure => have := HLT.out; simp [intOf]; omega
        as_aux_lemma =>
          have HP := Px.hid (HNE.out (by decide))
          clear HNS HNE hQ
          repeat (go_wp2_with fail; refine (HD.out _).mono ?_; rintro e w2 ⟨rfl, rfl⟩)
          go_wp2
          go_ret2
          rw [← HP.out]
          exact ⟨rfl, rfl⟩
        as_aux_lemma =>
          have HP := Px.hid (HNE.out (by decide))
          clear HNS HNE hQ
          repeat (go_wp2_with fail; refine (HD.out _).mono ?_; rintro e w2 ⟨rfl, rfl⟩)
          go_wp2
          go_ret2
          rw [← HP.out]
          exact ⟨rfl, rfl⟩
        as_aux_lemma =>
          have HP := Px.hid (HNE.out (by decide))
          clear HNS HNE hQ
          repeat (go_wp2_with fail; refine (HD.out _).mono ?_; rintro e w2 ⟨rfl, rfl⟩)
          go_wp2
          go_ret2
          rw [← HP.out]
          exact ⟨rfl, rfl⟩
        as_aux_lemma =>
          have HP := Px.hid (HNE.out (by decide))
          clear HNS HNE hQ
          repeat (go_wp2_with fail; refine (HD.out _).mono ?_; rintro e w2 ⟨rfl, rfl⟩)
          go_wp2
          go_ret2
          rw [← HP.out]
          exact ⟨rfl, rfl⟩
        as_aux_lemma =>
          have HP := Px.hid (HNE.out (by decide))
          clear HNS HNE hQ
          repeat (go_wp2_with fail; refine (HD.out _).mono ?_; rintro e w2 ⟨rfl, rfl⟩)
          go_wp2
          go_ret2
          rw [← HP.out]
          exact ⟨rfl, rfl⟩
        as_aux_lemma =>
          have HP := Px.hid (HNS.out 7 (by decide))
          clear HNS HNE hQ
          repeat (go_wp2_with fail; refine (HD.out _).mono ?_; rintro e w2 ⟨rfl, rfl⟩)
          go_wp2
          go_roundw
          case rel => exact ⟨7, k + 1, rfl, by go_num, by omega, HLT.out, (by first | trivial | rfl), HP.out⟩
          case measure => have := HLT.out; simp [intOf]; omega
        as_aux_lemma =>
          have HP := Px.hid (HNE.out (by decide))
          clear HNS HNE hQ
          repeat (go_wp2_with fail; refine (HD.out _).mono ?_; rintro e w2 ⟨rfl, rfl⟩)
          go_wp2
          go_ret2
          rw [← HP.out]
          exact ⟨rfl, rfl⟩
        as_aux_lemma =>
          have HP := Px.hid (HNE.out (by decide))
          clear HNS HNE hQ
          repeat (go_wp2_with fail; refine (HD.out _).mono ?_; rintro e w2 ⟨rfl, rfl⟩)
          go_wp2
          go_ret2
          rw [← HP.out]
          exact ⟨rfl, rfl⟩
      · have HD := Px.hid (fun w : World => (digit6 46 w))
        rw [show R6.digit 46 = false by decide] at HD
        rcases hQ9 with rfl | rfl | rfl | rfl | rfl | rfl | rfl | rfl | rfl
        as_aux_lemma =>
          have HP := Px.hid (HNE.out (by decide))
          clear HNS HNE hQ
          repeat (go_wp2_with fail; refine (HD.out _).mono ?_; rintro e w2 ⟨rfl, rfl⟩)
          go_wp2
          go_ret2
          rw [← HP.out]
          exact ⟨rfl, rfl⟩
        as_aux_lemma =>
          have HP := Px.hid (HNE.out (by decide))
          clear HNS HNE hQ
          repeat (go_wp2_with fail; refine (HD.out _).mono ?_; rintro e w2 ⟨rfl, rfl⟩)
          go_wp2
          go_ret2
          rw [← HP.out]
          exact ⟨rfl, rfl⟩
        as_aux_lemma =>
          have HP := Px.hid (HNS.out 4 (by decide))
          clear HNS HNE hQ
          repeat (go_wp2_with fail; refine (HD.out _).mono ?_; rintro e w2 ⟨rfl, rfl⟩)
          go_wp2
          go_roundw
          case rel => exact ⟨4, k + 1, rfl, by go_num, by omega, HLT.out, (by first | trivial | rfl), HP.out⟩
          case measure => have := HLT.out; simp [intOf]; omega
        as_aux_lemma =>
          have HP := Px.hid (HNS.out 4 (by decide))
          clear HNS HNE hQ
          repeat (go_wp2_with fail; refine (HD.out _).mono ?_; rintro e w2 ⟨rfl, rfl⟩)
          go_wp2
          go_roundw
          case rel => exact ⟨4, k + 1, rfl, by go_num, by omega, HLT.out, (by first | trivial | rfl), HP.out⟩
          case measure => have := HLT.out; simp [intOf]; omega
        as_aux_lemma =>
          have HP := Px.hid (HNE.out (by decide))
          clear HNS HNE hQ
          repeat (go_wp2_with fail; refine (HD.out _).mono ?_; rintro e w2 ⟨rfl, rfl⟩)
          go_wp2
          go_ret2
          rw [← HP.out]
          exact ⟨rfl, rfl⟩
        as_aux_lemma =>
          have HP := Px.hid (HNE.out (by decide))
          clear HNS HNE hQ
          repeat (go_wp2_with fail; refine (HD.out _).mono ?_; rintro e w2 ⟨rfl, rfl⟩)
          go_wp2
          go_ret2
          rw [← HP.out]
          exact ⟨rfl, rfl⟩
        as_aux_lemma =>
          have HP := Px.hid (HNE.out (by decide))
          clear HNS HNE hQ
          repeat (go_wp2_with fail; refine (HD.out _).mono ?_; rintro e w2 ⟨rfl, rfl⟩)
          go_wp2
          go_ret2
          rw [← HP.out]
          exact ⟨rfl, rfl⟩
        as_aux_lemma =>
          have HP := Px.hid (HNE.out (by decide))
          clear HNS HNE hQ
          repeat (go_wp2_with fail; refine (HD.out _).mono ?_; rintro e w2 ⟨rfl, rfl⟩)
          go_wp2
          go_ret2
          rw [← HP.out]
          exact ⟨rfl, rfl⟩
        as_aux_lemma =>
          have HP := Px.hid (HNE.out (by decide))
          clear HNS HNE hQ
          repeat (go_wp2_with fail; refine (HD.out _).mono ?_; rintro e w2 ⟨rfl, rfl⟩)
          go_wp2
          go_ret2
          rw [← HP.out]
          exact ⟨rfl, rfl⟩
      · have HD := Px.hid (fun w : World => (digit6 101 w))
        rw [show R6.digit 101 = false by decide] at HD
        rcases hQ9 with rfl | rfl | rfl | rfl | rfl | rfl | rfl | rfl | rfl
        as_aux_lemma =>
          have HP := Px.hid (HNE.out (by decide))
          clear HNS HNE hQ
          repeat (go_wp2_with fail; refine (HD.out _).mono ?_; rintro e w2 ⟨rfl, rfl⟩)
          go_wp2
          go_ret2
          rw [← HP.out]
          exact ⟨rfl, rfl⟩
        as_aux_lemma =>
          have HP := Px.hid (HNE.out (by decide))
          clear HNS HNE hQ
          repeat (go_wp2_with fail; refine (HD.out _).mono ?_; rintro e w2 ⟨rfl, rfl⟩)
          go_wp2
          go_ret2
          rw [← HP.out]
          exact ⟨rfl, rfl⟩
        as_aux_lemma =>
          have HP := Px.hid (HNS.out 6 (by decide))
          clear HNS HNE hQ
          repeat (go_wp2_with fail; refine (HD.out _).mono ?_; rintro e w2 ⟨rfl, rfl⟩)
          go_wp2
          go_roundw
          case rel => exact ⟨6, k + 1, rfl, by go_num, by omega, HLT.out, (by first | trivial | rfl), HP.out⟩
          case measure => have := HLT.out; simp [intOf]; omega
        as_aux_lemma =>
          have HP := Px.hid (HNS.out 6 (by decide))
          clear HNS HNE hQ
          repeat (go_wp2_with fail; refine (HD.out _).mono ?_; rintro e w2 ⟨rfl, rfl⟩)
          go_wp2
          go_roundw
          case rel => exact ⟨6, k + 1, rfl, by go_num, by omega, HLT.out, (by first | trivial | rfl), HP.out⟩
          case measure => have := HLT.out; simp [intOf]; omega
        as_aux_lemma =>
          have HP := Px.hid (HNE.out (by decide))
          clear HNS HNE hQ
          repeat (go_wp2_with fail; refine (HD.out _).mono ?_; rintro e w2 ⟨rfl, rfl⟩)
          go_wp2
          go_ret2
          rw [← HP.out]
          exact ⟨rfl, rfl⟩
        as_aux_lemma =>
          have HP := Px.hid (HNS.out 6 (by decide))
          clear HNS HNE hQ
          repeat (go_wp2_with fail; refine (HD.out _).mono ?_; rintro e w2 ⟨rfl, rfl⟩)
          go_wp2
          go_roundw
          case rel => exact ⟨6, k + 1, rfl, by go_num, by omega, HLT.out, (by first | trivial | rfl), HP.out⟩
          case measure => have := HLT.out; simp [intOf]; omega
        as_aux_lemma =>
          have HP := Px.hid (HNE.out (by decide))
          clear HNS HNE hQ
          repeat (go_wp2_with fail; refine (HD.out _).mono ?_; rintro e w2 ⟨rfl, rfl⟩)
          go_wp2
          go_ret2
          rw [← HP.out]
          exact ⟨rfl, rfl⟩
        as_aux_lemma =>
          have HP := Px.hid (HNE.out (by decide))
          clear HNS HNE hQ
          repeat (go_wp2_with fail; refine (HD.out _).mono ?_; rintro e w2 ⟨rfl, rfl⟩)
          go_wp2
          go_ret2
          rw [← HP.out]
          exact ⟨rfl, rfl⟩
        as_aux_lemma =>
          have HP := Px.hid (HNE.out (by decide))
          clear HNS HNE hQ
          repeat (go_wp2_with fail; refine (HD.out _).mono ?_; rintro e w2 ⟨rfl, rfl⟩)
          go_wp2
          go_ret2
          rw [← HP.out]
          exact ⟨rfl, rfl⟩
      · have HD := Px.hid (fun w : World => (digit6 69 w))
        rw [show R6.digit 69 = false by decide] at HD
        rcases hQ9 with rfl | rfl | rfl | rfl | rfl | rfl | rfl | rfl | rfl
        as_aux_lemma =>
          have HP := Px.hid (HNE.out (by decide))
          clear HNS HNE hQ
          repeat (go_wp2_with fail; refine (HD.out _).mono ?_; rintro e w2 ⟨rfl, rfl⟩)
          go_wp2
          go_ret2
          rw [← HP.out]
          exact ⟨rfl, rfl⟩
        as_aux_lemma =>
          have HP := Px.hid (HNE.out (by decide))
          clear HNS HNE hQ
          repeat (go_wp2_with fail; refine (HD.out _).mono ?_; rintro e w2 ⟨rfl, rfl⟩)
          go_wp2
          go_ret2
          rw [← HP.out]
          exact ⟨rfl, rfl⟩
        as_aux_lemma =>
          have HP := Px.hid (HNS.out 6 (by decide))
          clear HNS HNE hQ
          repeat (go_wp2_with fail; refine (HD.out _).mono ?_; rintro e w2 ⟨rfl, rfl⟩)
          go_wp2
          go_roundw
          case rel => exact ⟨6, k + 1, rfl, by go_num, by omega, HLT.out, (by first | trivial | rfl), HP.out⟩
          case measure => have := HLT.out; simp [intOf]; omega
        as_aux_lemma =>
          have HP := Px.hid (HNS.out 6 (by decide))
          clear HNS HNE hQ
          repeat (go_wp2_with fail; refine (HD.out _).mono ?_; rintro e w2 ⟨rfl, rfl⟩)
          go_wp2
          go_roundw
          case rel => exact ⟨6, k + 1, rfl, by go_num, by omega, HLT.out, (by first | trivial | rfl), HP.out⟩
          case measure => have := HLT.out; simp [intOf]; omega
        as_aux_lemma =>
          have HP := Px.hid (HNE.out (by decide))
          clear HNS HNE hQ
          repeat (go_wp2_with fail; refine (HD.out _).mono ?_; rintro e w2 ⟨rfl, rfl⟩)
          go_wp2
          go_ret2
          rw [← HP.out]
          exact ⟨rfl, rfl⟩
        as_aux_lemma =>
          have HP := Px.hid (HNS.out 6 (by decide))
          clear HNS HNE hQ
          repeat (go_wp2_with fail; refine (HD.out _).mono ?_; rintro e w2 ⟨rfl, rfl⟩)
          go_wp2
          go_roundw
          case rel => exact ⟨6, k + 1, rfl, by go_num, by omega, HLT.out, (by first | trivial | rfl), HP.out⟩
          case measure => have := HLT.out; simp [intOf]; omega
        as_aux_lemma =>
          have HP := Px.hid (HNE.out (by decide))
          clear HNS HNE hQ
          repeat (go_wp2_with fail; refine (HD.out _).mono ?_; rintro e w2 ⟨rfl, rfl⟩)
          go_wp2
          go_ret2
          rw [← HP.out]
          exact ⟨rfl, rfl⟩
        as_aux_lemma =>
          have HP := Px.hid (HNE.out (by decide))
          clear HNS HNE hQ
          repeat (go_wp2_with fail; refine (HD.out _).mono ?_; rintro e w2 ⟨rfl, rfl⟩)
          go_wp2
          go_ret2
          rw [← HP.out]
          exact ⟨rfl, rfl⟩
        as_aux_lemma =>
          have HP := Px.hid (HNE.out (by decide))
          clear HNS HNE hQ
          repeat (go_wp2_with fail; refine (HD.out _).mono ?_; rintro e w2 ⟨rfl, rfl⟩)
          go_wp2
          go_ret2
          rw [← HP.out]
          exact ⟨rfl, rfl⟩
      · have HD := Px.hid (fun w : World => (digit6 43 w))
        rw [show R6.digit 43 = false by decide] at HD
        rcases hQ9 with rfl | rfl | rfl | rfl | rfl | rfl | rfl | rfl | rfl
        as_aux_lemma =>
          have HP := Px.hid (HNE.out (by decide))
          clear HNS HNE hQ
          repeat (go_wp2_with fail; refine (HD.out _).mono ?_; rintro e w2 ⟨rfl, rfl⟩)
          go_wp2
          go_ret2
          rw [← HP.out]
          exact ⟨rfl, rfl⟩
        as_aux_lemma =>
          have HP := Px.hid (HNE.out (by decide))
          clear HNS HNE hQ
          repeat (go_wp2_with fail; refine (HD.out _).mono ?_; rintro e w2 ⟨rfl, rfl⟩)
          go_wp2
          go_ret2
          rw [← HP.out]
          exact ⟨rfl, rfl⟩
        as_aux_lemma =>
          have HP := Px.hid (HNE.out (by decide))
          clear HNS HNE hQ
          repeat (go_wp2_with fail; refine (HD.out _).mono ?_; rintro e w2 ⟨rfl, rfl⟩)
          go_wp2
          go_ret2
          rw [← HP.out]
          exact ⟨rfl, rfl⟩
        as_aux_lemma =>
          have HP := Px.hid (HNE.out (by decide))
          clear HNS HNE hQ
          repeat (go_wp2_with fail; refine (HD.out _).mono ?_; rintro e w2 ⟨rfl, rfl⟩)
          go_wp2
          go_ret2
          rw [← HP.out]
          exact ⟨rfl, rfl⟩
        as_aux_lemma =>
          have HP := Px.hid (HNE.out (by decide))
          clear HNS HNE hQ
          repeat (go_wp2_with fail; refine (HD.out _).mono ?_; rintro e w2 ⟨rfl, rfl⟩)
          go_wp2
          go_ret2
          rw [← HP.out]
          exact ⟨rfl, rfl⟩
        as_aux_lemma =>
          have HP := Px.hid (HNE.out (by decide))
          clear HNS HNE hQ
          repeat (go_wp2_with fail; refine (HD.out _).mono ?_; rintro e w2 ⟨rfl, rfl⟩)
          go_wp2
          go_ret2
          rw [← HP.out]
          exact ⟨rfl, rfl⟩
        as_aux_lemma =>
          have HP := Px.hid (HNS.out 7 (by decide))
          clear HNS HNE hQ
          repeat (go_wp2_with fail; refine (HD.out _).mono ?_; rintro e w2 ⟨rfl, rfl⟩)
          go_wp2
          go_roundw
          case rel => exact ⟨7, k + 1, rfl, by go_num, by omega, HLT.out, (by first | trivial | rfl), HP.out⟩
          case measure => have := HLT.out; simp [intOf]; omega
        as_aux_lemma =>
          have HP := Px.hid (HNE.out (by decide))
          clear HNS HNE hQ
          repeat (go_wp2_with fail; refine (HD.out _).mono ?_; rintro e w2 ⟨rfl, rfl⟩)
          go_wp2
          go_ret2
          rw [← HP.out]
          exact ⟨rfl, rfl⟩
        as_aux_lemma =>
          have HP := Px.hid (HNE.out (by decide))
          clear HNS HNE hQ
          repeat (go_wp2_with fail; refine (HD.out _).mono ?_; rintro e w2 ⟨rfl, rfl⟩)
          go_wp2
          go_ret2
          rw [← HP.out]
          exact ⟨rfl, rfl⟩
      · have HD := Px.hid (fun w : World => (digit6 c w))
        rw [show R6.digit c = false by unfold R6.digit; simp; omega] at HD
        have n45 : ((c : Int) == 45) = false := by simp; omega
        have n48 : ((c : Int) == 48) = false := by simp; omega
        have n46 : ((c : Int) == 46) = false := by simp; omega
        have n101 : ((c : Int) == 101) = false := by simp; omega
        have n69 : ((c : Int) == 69) = false := by simp; omega
        have n43 : ((c : Int) == 43) = false := by simp; omega
        rcases hQ9 with rfl | rfl | rfl | rfl | rfl | rfl | rfl | rfl | rfl
        as_aux_lemma =>
          have HP := Px.hid (HNE.out (num_none 0 c m0 m1 m2 m3 m4 m5))
          clear m0 m1 m2 m3 m4 m5
          clear HNS HNE hQ
          repeat (go_wp2_with fail; refine (HD.out _).mono ?_; rintro e w2 ⟨rfl, rfl⟩)
          go_wp2
          go_ret2
          rw [← HP.out]
          exact ⟨rfl, rfl⟩
        as_aux_lemma =>
          have HP := Px.hid (HNE.out (num_none 1 c m0 m1 m2 m3 m4 m5))
          clear m0 m1 m2 m3 m4 m5
          clear HNS HNE hQ
          repeat (go_wp2_with fail; refine (HD.out _).mono ?_; rintro e w2 ⟨rfl, rfl⟩)
          go_wp2
          go_ret2
          rw [← HP.out]
          exact ⟨rfl, rfl⟩
        as_aux_lemma =>
          have HP := Px.hid (HNE.out (num_none 2 c m0 m1 m2 m3 m4 m5))
          clear m0 m1 m2 m3 m4 m5
          clear HNS HNE hQ
          repeat (go_wp2_with fail; refine (HD.out _).mono ?_; rintro e w2 ⟨rfl, rfl⟩)
          go_wp2
          go_ret2
          rw [← HP.out]
          exact ⟨rfl, rfl⟩
        as_aux_lemma =>
          have HP := Px.hid (HNE.out (num_none 3 c m0 m1 m2 m3 m4 m5))
          clear m0 m1 m2 m3 m4 m5
          clear HNS HNE hQ
          repeat (go_wp2_with fail; refine (HD.out _).mono ?_; rintro e w2 ⟨rfl, rfl⟩)
          go_wp2
          go_ret2
          rw [← HP.out]
          exact ⟨rfl, rfl⟩
        as_aux_lemma =>
          have HP := Px.hid (HNE.out (num_none 4 c m0 m1 m2 m3 m4 m5))
          clear m0 m1 m2 m3 m4 m5
          clear HNS HNE hQ
          repeat (go_wp2_with fail; refine (HD.out _).mono ?_; rintro e w2 ⟨rfl, rfl⟩)
          go_wp2
          go_ret2
          rw [← HP.out]
          exact ⟨rfl, rfl⟩
        as_aux_lemma =>
          have HP := Px.hid (HNE.out (num_none 5 c m0 m1 m2 m3 m4 m5))
          clear m0 m1 m2 m3 m4 m5
          clear HNS HNE hQ
          repeat (go_wp2_with fail; refine (HD.out _).mono ?_; rintro e w2 ⟨rfl, rfl⟩)
          go_wp2
          go_ret2
          rw [← HP.out]
          exact ⟨rfl, rfl⟩
        as_aux_lemma =>
          have HP := Px.hid (HNE.out (num_none 6 c m0 m1 m2 m3 m4 m5))
          clear m0 m1 m2 m3 m4 m5
          clear HNS HNE hQ
          repeat (go_wp2_with fail; refine (HD.out _).mono ?_; rintro e w2 ⟨rfl, rfl⟩)
          go_wp2
          go_ret2
          rw [← HP.out]
          exact ⟨rfl, rfl⟩
        as_aux_lemma =>
          have HP := Px.hid (HNE.out (num_none 7 c m0 m1 m2 m3 m4 m5))
          clear m0 m1 m2 m3 m4 m5
          clear HNS HNE hQ
          repeat (go_wp2_with fail; refine (HD.out _).mono ?_; rintro e w2 ⟨rfl, rfl⟩)
          go_wp2
          go_ret2
          rw [← HP.out]
          exact ⟨rfl, rfl⟩
        as_aux_lemma =>
          have HP := Px.hid (HNE.out (num_none 8 c m0 m1 m2 m3 m4 m5))
          clear m0 m1 m2 m3 m4 m5
          clear HNS HNE hQ
          repeat (go_wp2_with fail; refine (HD.out _).mono ?_; rintro e w2 ⟨rfl, rfl⟩)
          go_wp2
          go_ret2
          rw [← HP.out]
          exact ⟨rfl, rfl⟩
    · have hkl : k = s.length := by omega
      have HP := Px.hid (num_le hps hkl)
      have hltz : ¬ (k : Int) < (s.length : Int) := by omega
      subst hkl
      clear hlt hps H hk hltz
      have hlt2 : decide ((s.length : Int) < (s.length : Int)) = false := by simp
      rcases hQ9 with rfl | rfl | rfl | rfl | rfl | rfl | rfl | rfl | rfl
      all_goals
        go_wp2
        go_ret2
        rw [← HP.out]
        exact ⟨rfl, rfl⟩
end Go.Proofs.YtahojodgmjmpnaaDoor
