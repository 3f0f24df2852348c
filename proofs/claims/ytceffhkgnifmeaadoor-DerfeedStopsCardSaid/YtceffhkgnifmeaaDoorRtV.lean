/-
  The walks over the reference's Tag and Body (layer 15).
-/
import Derived.Test.YtceffhkgnifmeaaDoorRdV
import Derived.Test.YtceffhkgnifmeaaDoorUtfW5
import Derived.Deep.CutBlock
namespace Go.Proofs.YtceffhkgnifmeaaDoor
open Go.RowKit Go.Px

theorem plain_cases (n : Nat) : (R5.plainT n = true ∧ (((1 : Int) ≤ n ∧ (n : Int) ≤ 6) ∨ ((1 : Int) ≤ n ∧ ¬ (n : Int) ≤ 6 ∧ ((n : Int) == 12) = true))) ∨ (R5.plainT n = false ∧ ((¬ (1 : Int) ≤ n ∧ ((n : Int) == 12) = false) ∨ ((1 : Int) ≤ n ∧ ¬ (n : Int) ≤ 6 ∧ ((n : Int) == 12) = false))) := by
  unfold R5.plainT
  by_cases h1 : 1 ≤ n
  · by_cases h6 : n ≤ 6
    · exact .inl ⟨by rw [decide_eq_true h1, decide_eq_true h6]; rfl, .inl ⟨by omega, by omega⟩⟩
    · by_cases h12 : n = 12
      · exact .inl ⟨by rw [h12]; rfl, .inr ⟨by omega, by omega, beq_iff_eq.2 (by omega)⟩⟩
      · exact .inr ⟨by rw [decide_eq_false h6, show (n == 12) = false from beq_eq_false_iff_ne.2 h12, Bool.and_false]; rfl, .inr ⟨by omega, by omega, beq_eq_false_iff_ne.2 (by omega)⟩⟩
  · exact .inr ⟨by rw [decide_eq_false h1, show (n == 12) = false from beq_eq_false_iff_ne.2 (by omega)]; rfl, .inl ⟨by omega, beq_eq_false_iff_ne.2 (by omega)⟩⟩
theorem many_cases (n : Nat) : (R5.manyT n = true ∧ (((n : Int) == 16) = true ∨ (((n : Int) == 16) = false ∧ ((n : Int) == 17) = true))) ∨ (R5.manyT n = false ∧ ((n : Int) == 16) = false ∧ ((n : Int) == 17) = false) := by
  unfold R5.manyT
  by_cases h1 : n = 16
  · exact .inl ⟨by rw [h1]; rfl, .inl (beq_iff_eq.2 (by omega))⟩
  · by_cases h2 : n = 17
    · exact .inl ⟨by rw [h2]; rfl, .inr ⟨beq_eq_false_iff_ne.2 (by omega), beq_iff_eq.2 (by omega)⟩⟩
    · exact .inr ⟨by rw [show (n == 16) = false from beq_eq_false_iff_ne.2 h1, show (n == 17) = false from beq_eq_false_iff_ne.2 h2]; rfl, beq_eq_false_iff_ne.2 (by omega), beq_eq_false_iff_ne.2 (by omega)⟩
/-- The ways of the two tests. -/
theorem tag_ways (cl n : Nat) (i P M : Bool) (hP : R5.plainT n = P) (hM : R5.manyT n = M) :
    (((cl : Int) == 0) = false ∧ ((cl : Int) == 2) = false ∧ tagP cl n i = 11) ∨
    (((cl : Int) == 0) = false ∧ ((cl : Int) == 2) = true ∧ ((n : Int) == 31) = true ∧ tagP cl n i = 11) ∨
    (((cl : Int) == 0) = false ∧ ((cl : Int) == 2) = true ∧ ((n : Int) == 31) = false ∧ tagP cl n i = 0) ∨
    (((cl : Int) == 0) = true ∧ ((n : Int) == 31) = true ∧ tagP cl n i = 11) ∨
    (((cl : Int) == 0) = true ∧ ((n : Int) == 31) = false ∧ P = false ∧ M = false ∧ tagP cl n i = 11) ∨
    (((cl : Int) == 0) = true ∧ ((n : Int) == 31) = false ∧ (P = true ∨ (P = false ∧ M = true)) ∧ ((i != M) = true ∧ tagP cl n i = 9 ∨ (i != M) = false ∧ tagP cl n i = 0)) := by
  by_cases h0 : cl = 0
  · have b0 : ((cl : Int) == 0) = true := beq_iff_eq.2 (by omega)
    subst h0
    by_cases h31 : n = 31
    · exact .inr (.inr (.inr (.inl ⟨b0, beq_iff_eq.2 (by omega), by rw [h31]; rfl⟩)))
    · have b31 : ((n : Int) == 31) = false := beq_eq_false_iff_ne.2 (by omega)
      have c31 : (n == 31) = false := beq_eq_false_iff_ne.2 h31
      have ht : tagP 0 n i = if (!P && !M) = true then 11 else if (i != M) = true then 9 else 0 := by
        unfold tagP
        rw [hP, hM, c31]
        simp
      rw [ht]
      cases P
      · cases M
        · exact .inr (.inr (.inr (.inr (.inl ⟨b0, b31, rfl, rfl, rfl⟩))))
        · refine .inr (.inr (.inr (.inr (.inr ⟨b0, b31, .inr ⟨rfl, rfl⟩, ?_⟩))))
          cases i <;> simp
      · refine .inr (.inr (.inr (.inr (.inr ⟨b0, b31, .inl rfl, ?_⟩))))
        cases i <;> cases M <;> simp
  · have b0 : ((cl : Int) == 0) = false := beq_eq_false_iff_ne.2 (by omega)
    by_cases h2 : cl = 2
    · subst h2
      by_cases h31 : n = 31
      · exact .inr (.inl ⟨b0, rfl, beq_iff_eq.2 (by omega), by rw [h31]; rfl⟩)
      · refine .inr (.inr (.inl ⟨b0, rfl, beq_eq_false_iff_ne.2 (by omega), ?_⟩))
        unfold tagP
        rw [if_neg, if_neg]
        · simp
        · simp [h31]
    · refine .inl ⟨b0, beq_eq_false_iff_ne.2 (by omega), ?_⟩
      unfold tagP
      rw [if_pos]
      simp [h0, h2]
set_option maxHeartbeats 2000000 in
theorem rtag_any (t : Nat) (ht : t < 256) (w : World) : Calls Tryd.prog 38 #[.int .u8 (t : Nat)] w fun r w' => r = .returned (.int .i64 (R5.tagE t)) ∧ w = w' := by
  rw [tagE_parts]
  obtain ⟨cl, hcl⟩ : ∃ cl, cl = t / 64 := ⟨_, rfl⟩
  obtain ⟨n, hn⟩ : ∃ n, n = t % 32 := ⟨_, rfl⟩
  obtain ⟨i, hi⟩ : ∃ i, i = R5.inner t := ⟨_, rfl⟩
  rw [← hcl, ← hn, ← hi]
  have h1 : (t : Int) / 64 = (cl : Int) := by omega
  have h2 : (t : Int) % 32 = (n : Int) := by omega
  have h3 : ((t : Int) / 32 % 2 == 1) = i := by
    rw [hi]
    unfold R5.inner
    rw [Bool.eq_iff_iff, beq_iff_eq, beq_iff_eq]
    omega
  obtain ⟨P, hP⟩ : ∃ P, R5.plainT n = P := ⟨_, rfl⟩
  obtain ⟨M, hM⟩ : ∃ M, R5.manyT n = M := ⟨_, rfl⟩
  have HW := Px.hid (And.intro hP (And.intro hM (tag_ways cl n i P M hP hM)))
  obtain ⟨T, hT⟩ : ∃ T, T = tagP cl n i := ⟨_, rfl⟩
  have HT := Px.hid hT
  rw [← hT] at HW ⊢
  clear hcl hn hi hP hM hT HT
  go_enter Tryd.func38, Tryd.ntmps38
  go_upto_region 4 with fail
  rw [h2]
  go_cut [6] (fun t6 wx => t6 = .bool P ∧ wx = w)
  case first =>
    rcases plain_cases n with ⟨e, ⟨q1, q2⟩ | ⟨q1, q2, q3⟩⟩ | ⟨e, ⟨q1, q2⟩ | ⟨q1, q2, q3⟩⟩
    all_goals
      have HE := Px.hid (HW.out.1.symm.trans e)
      clear e
      go_wp2_with fail
      go_meet
      rw [HE.out]
      exact ⟨rfl, rfl⟩
  case rest =>
    obtain ⟨rfl, hwc⟩ := hcut
    subst hwc
    go_upto_region 5 with fail
    go_cut [7] (fun t7 wx => t7 = .bool M ∧ wx = wc)
    case first =>
      rcases many_cases n with ⟨e, q1 | ⟨q1, q2⟩⟩ | ⟨e, q1, q2⟩
      all_goals
        have HE := Px.hid (HW.out.2.1.symm.trans e)
        clear e
        go_wp2_with fail
        go_meet
        rw [HE.out]
        exact ⟨rfl, rfl⟩
    case rest =>
      obtain ⟨rfl, hwc2⟩ := hcut
      subst hwc2
      rcases HW.out.2.2 with ⟨q1, q2, e⟩ | ⟨q1, q2, q3, e⟩ | ⟨q1, q2, q3, e⟩ | ⟨q1, q2, e⟩ | ⟨q1, q2, q3, q4, e⟩ | ⟨q1, q2, q3, q4⟩
      · have p1 : ((cl : Int) != 0) = true := by rw [bne, q1]; rfl
        have p2 : ((cl : Int) != 2) = true := by rw [bne, q2]; rfl
        have n0 : ¬ cl = 0 := fun e => by rw [e] at q1; cases q1
        have n2 : ¬ (cl : Int) = 2 := fun e => by rw [e] at q2; cases q2
        have HE := Px.hid e
        clear e
        go_wp2
        go_ret
        rw [HE.out]; exact ⟨rfl, rfl⟩
      · obtain rfl : cl = 2 := by rw [beq_iff_eq] at q2; omega
        clear q1 q2
        have HE := Px.hid e
        clear e
        go_wp2
        go_ret
        rw [HE.out]; exact ⟨rfl, rfl⟩
      · obtain rfl : cl = 2 := by rw [beq_iff_eq] at q2; omega
        clear q1 q2
        have HE := Px.hid e
        clear e
        go_wp2
        go_ret
        rw [HE.out]; exact ⟨rfl, rfl⟩
      · obtain rfl : cl = 0 := by rw [beq_iff_eq] at q1; omega
        clear q1
        have HE := Px.hid e
        clear e
        go_wp2
        go_ret
        rw [HE.out]; exact ⟨rfl, rfl⟩
      · obtain rfl : cl = 0 := by rw [beq_iff_eq] at q1; omega
        clear q1
        subst q3 q4
        have HE := Px.hid e
        clear e
        go_wp2
        go_ret
        rw [HE.out]; exact ⟨rfl, rfl⟩
      · obtain rfl : cl = 0 := by rw [beq_iff_eq] at q1; omega
        clear q1
        rcases q3 with q3 | ⟨q3, q5⟩
        · subst q3
          rcases q4 with ⟨q4, e⟩ | ⟨q4, e⟩
          all_goals
            have HE := Px.hid e
            clear e
            cases i <;> cases M <;> first | (exfalso; revert q4; decide) | skip
            all_goals
              clear q4
              go_wp2
              go_ret
              rw [HE.out]; exact ⟨rfl, rfl⟩
        · subst q3 q5
          rcases q4 with ⟨q4, e⟩ | ⟨q4, e⟩
          all_goals
            have HE := Px.hid e
            clear e
            cases i <;> first | (exfalso; revert q4; decide) | skip
            all_goals
              clear q4
              go_wp2
              go_ret
              rw [HE.out]; exact ⟨rfl, rfl⟩
end Go.Proofs.YtceffhkgnifmeaaDoor
