/-
 Several texts in one: The walk over suite.Of, number by number (printed by gen_cpd.py). The walks over cose.alg and the reference's table of suites.
-/
import Derived.Test.YtddiabaagpmkgaaDoorGcA
import Derived.Test.YtddiabaagpmkgaaDoorCC
import Derived.StillTailTactics
/-! The walk over suite.Of, number by number (printed by gen_cpd.py). -/
namespace Go.Proofs.YtddiabaagpmkgaaDoor
open Go.RowKit Go.Px Go.Px.E7 Go.Px.Co
def rowV : Option Row → Value
 | some r => .agg #[.int .i64 (r.key : Nat), .int .i64 (r.iv : Nat), .int .i64 (r.tag : Nat)]
 | none => .agg #[.int .i64 0, .int .i64 0, .int .i64 0]
def rowE (o : Option Row) : Int := if o.isSome then 0 else 11
def suiteV (o : Option Row) : Value := .tuple #[rowV o, .int .i64 (rowE o)]
set_option maxRecDepth 100000 in
set_option maxHeartbeats 2000000 in
theorem suite_1 (w : World) : Calls Tryd.prog 31 #[.int .i64 1] w fun e w' => e = .returned (suiteV (some ⟨1, 16, 12, 16, 9⟩)) ∧ Same w w' := by
 go_enter Tryd.func31, Tryd.ntmps31
 go_wp2
 refine bodyPost_ret (v := suiteV (some ⟨1, 16, 12, 16, 9⟩)) (by simp [results, Tryd.results31, go_sem, suiteV, rowV, rowE, *]) rfl ⟨rfl, ?_⟩
 repeat' first
  | exact Fr.refl _ _
  | refine Fr.alloc ?_ _
  | refine Fr.setCell ?_ (.inr (by simp)) _
set_option maxRecDepth 100000 in
set_option maxHeartbeats 2000000 in
theorem suite_2 (w : World) : Calls Tryd.prog 31 #[.int .i64 2] w fun e w' => e = .returned (suiteV (some ⟨2, 24, 12, 16, 9⟩)) ∧ Same w w' := by
 go_enter Tryd.func31, Tryd.ntmps31
 go_wp2
 refine bodyPost_ret (v := suiteV (some ⟨2, 24, 12, 16, 9⟩)) (by simp [results, Tryd.results31, go_sem, suiteV, rowV, rowE, *]) rfl ⟨rfl, ?_⟩
 repeat' first
  | exact Fr.refl _ _
  | refine Fr.alloc ?_ _
  | refine Fr.setCell ?_ (.inr (by simp)) _
set_option maxRecDepth 100000 in
set_option maxHeartbeats 2000000 in
theorem suite_3 (w : World) : Calls Tryd.prog 31 #[.int .i64 3] w fun e w' => e = .returned (suiteV (some ⟨3, 32, 12, 16, 9⟩)) ∧ Same w w' := by
 go_enter Tryd.func31, Tryd.ntmps31
 go_wp2
 refine bodyPost_ret (v := suiteV (some ⟨3, 32, 12, 16, 9⟩)) (by simp [results, Tryd.results31, go_sem, suiteV, rowV, rowE, *]) rfl ⟨rfl, ?_⟩
 repeat' first
  | exact Fr.refl _ _
  | refine Fr.alloc ?_ _
  | refine Fr.setCell ?_ (.inr (by simp)) _
set_option maxRecDepth 100000 in
set_option maxHeartbeats 2000000 in
theorem suite_4 (w : World) : Calls Tryd.prog 31 #[.int .i64 4] w fun e w' => e = .returned (suiteV (some ⟨4, 32, 16, 16, 11⟩)) ∧ Same w w' := by
 go_enter Tryd.func31, Tryd.ntmps31
 go_wp2
 refine bodyPost_ret (v := suiteV (some ⟨4, 32, 16, 16, 11⟩)) (by simp [results, Tryd.results31, go_sem, suiteV, rowV, rowE, *]) rfl ⟨rfl, ?_⟩
 repeat' first
  | exact Fr.refl _ _
  | refine Fr.alloc ?_ _
  | refine Fr.setCell ?_ (.inr (by simp)) _
set_option maxRecDepth 100000 in
set_option maxHeartbeats 2000000 in
theorem suite_5 (w : World) : Calls Tryd.prog 31 #[.int .i64 5] w fun e w' => e = .returned (suiteV (some ⟨5, 48, 16, 24, 11⟩)) ∧ Same w w' := by
 go_enter Tryd.func31, Tryd.ntmps31
 go_wp2
 refine bodyPost_ret (v := suiteV (some ⟨5, 48, 16, 24, 11⟩)) (by simp [results, Tryd.results31, go_sem, suiteV, rowV, rowE, *]) rfl ⟨rfl, ?_⟩
 repeat' first
  | exact Fr.refl _ _
  | refine Fr.alloc ?_ _
  | refine Fr.setCell ?_ (.inr (by simp)) _
set_option maxRecDepth 100000 in
set_option maxHeartbeats 2000000 in
theorem suite_6 (w : World) : Calls Tryd.prog 31 #[.int .i64 6] w fun e w' => e = .returned (suiteV (some ⟨6, 64, 16, 32, 11⟩)) ∧ Same w w' := by
 go_enter Tryd.func31, Tryd.ntmps31
 go_wp2
 refine bodyPost_ret (v := suiteV (some ⟨6, 64, 16, 32, 11⟩)) (by simp [results, Tryd.results31, go_sem, suiteV, rowV, rowE, *]) rfl ⟨rfl, ?_⟩
 repeat' first
  | exact Fr.refl _ _
  | refine Fr.alloc ?_ _
  | refine Fr.setCell ?_ (.inr (by simp)) _
set_option maxRecDepth 100000 in
set_option maxHeartbeats 2000000 in
theorem suite_10 (w : World) : Calls Tryd.prog 31 #[.int .i64 10] w fun e w' => e = .returned (suiteV (some ⟨10, 16, 13, 8, 10⟩)) ∧ Same w w' := by
 go_enter Tryd.func31, Tryd.ntmps31
 go_wp2
 refine bodyPost_ret (v := suiteV (some ⟨10, 16, 13, 8, 10⟩)) (by simp [results, Tryd.results31, go_sem, suiteV, rowV, rowE, *]) rfl ⟨rfl, ?_⟩
 repeat' first
  | exact Fr.refl _ _
  | refine Fr.alloc ?_ _
  | refine Fr.setCell ?_ (.inr (by simp)) _
set_option maxRecDepth 100000 in
set_option maxHeartbeats 2000000 in
theorem suite_11 (w : World) : Calls Tryd.prog 31 #[.int .i64 11] w fun e w' => e = .returned (suiteV (some ⟨11, 32, 13, 8, 10⟩)) ∧ Same w w' := by
 go_enter Tryd.func31, Tryd.ntmps31
 go_wp2
 refine bodyPost_ret (v := suiteV (some ⟨11, 32, 13, 8, 10⟩)) (by simp [results, Tryd.results31, go_sem, suiteV, rowV, rowE, *]) rfl ⟨rfl, ?_⟩
 repeat' first
  | exact Fr.refl _ _
  | refine Fr.alloc ?_ _
  | refine Fr.setCell ?_ (.inr (by simp)) _
set_option maxRecDepth 100000 in
set_option maxHeartbeats 2000000 in
theorem suite_12 (w : World) : Calls Tryd.prog 31 #[.int .i64 12] w fun e w' => e = .returned (suiteV (some ⟨12, 16, 7, 8, 10⟩)) ∧ Same w w' := by
 go_enter Tryd.func31, Tryd.ntmps31
 go_wp2
 refine bodyPost_ret (v := suiteV (some ⟨12, 16, 7, 8, 10⟩)) (by simp [results, Tryd.results31, go_sem, suiteV, rowV, rowE, *]) rfl ⟨rfl, ?_⟩
 repeat' first
  | exact Fr.refl _ _
  | refine Fr.alloc ?_ _
  | refine Fr.setCell ?_ (.inr (by simp)) _
set_option maxRecDepth 100000 in
set_option maxHeartbeats 2000000 in
theorem suite_13 (w : World) : Calls Tryd.prog 31 #[.int .i64 13] w fun e w' => e = .returned (suiteV (some ⟨13, 32, 7, 8, 10⟩)) ∧ Same w w' := by
 go_enter Tryd.func31, Tryd.ntmps31
 go_wp2
 refine bodyPost_ret (v := suiteV (some ⟨13, 32, 7, 8, 10⟩)) (by simp [results, Tryd.results31, go_sem, suiteV, rowV, rowE, *]) rfl ⟨rfl, ?_⟩
 repeat' first
  | exact Fr.refl _ _
  | refine Fr.alloc ?_ _
  | refine Fr.setCell ?_ (.inr (by simp)) _
set_option maxRecDepth 100000 in
set_option maxHeartbeats 2000000 in
theorem suite_30 (w : World) : Calls Tryd.prog 31 #[.int .i64 30] w fun e w' => e = .returned (suiteV (some ⟨30, 16, 13, 16, 10⟩)) ∧ Same w w' := by
 go_enter Tryd.func31, Tryd.ntmps31
 go_wp2
 refine bodyPost_ret (v := suiteV (some ⟨30, 16, 13, 16, 10⟩)) (by simp [results, Tryd.results31, go_sem, suiteV, rowV, rowE, *]) rfl ⟨rfl, ?_⟩
 repeat' first
  | exact Fr.refl _ _
  | refine Fr.alloc ?_ _
  | refine Fr.setCell ?_ (.inr (by simp)) _
set_option maxRecDepth 100000 in
set_option maxHeartbeats 2000000 in
theorem suite_31 (w : World) : Calls Tryd.prog 31 #[.int .i64 31] w fun e w' => e = .returned (suiteV (some ⟨31, 32, 13, 16, 10⟩)) ∧ Same w w' := by
 go_enter Tryd.func31, Tryd.ntmps31
 go_wp2
 refine bodyPost_ret (v := suiteV (some ⟨31, 32, 13, 16, 10⟩)) (by simp [results, Tryd.results31, go_sem, suiteV, rowV, rowE, *]) rfl ⟨rfl, ?_⟩
 repeat' first
  | exact Fr.refl _ _
  | refine Fr.alloc ?_ _
  | refine Fr.setCell ?_ (.inr (by simp)) _
set_option maxRecDepth 100000 in
set_option maxHeartbeats 2000000 in
theorem suite_32 (w : World) : Calls Tryd.prog 31 #[.int .i64 32] w fun e w' => e = .returned (suiteV (some ⟨32, 16, 7, 16, 10⟩)) ∧ Same w w' := by
 go_enter Tryd.func31, Tryd.ntmps31
 go_wp2
 refine bodyPost_ret (v := suiteV (some ⟨32, 16, 7, 16, 10⟩)) (by simp [results, Tryd.results31, go_sem, suiteV, rowV, rowE, *]) rfl ⟨rfl, ?_⟩
 repeat' first
  | exact Fr.refl _ _
  | refine Fr.alloc ?_ _
  | refine Fr.setCell ?_ (.inr (by simp)) _
set_option maxRecDepth 100000 in
set_option maxHeartbeats 2000000 in
theorem suite_33 (w : World) : Calls Tryd.prog 31 #[.int .i64 33] w fun e w' => e = .returned (suiteV (some ⟨33, 32, 7, 16, 10⟩)) ∧ Same w w' := by
 go_enter Tryd.func31, Tryd.ntmps31
 go_wp2
 refine bodyPost_ret (v := suiteV (some ⟨33, 32, 7, 16, 10⟩)) (by simp [results, Tryd.results31, go_sem, suiteV, rowV, rowE, *]) rfl ⟨rfl, ?_⟩
 repeat' first
  | exact Fr.refl _ _
  | refine Fr.alloc ?_ _
  | refine Fr.setCell ?_ (.inr (by simp)) _
set_option maxRecDepth 100000 in
set_option maxHeartbeats 2000000 in
theorem suite_104 (w : World) : Calls Tryd.prog 31 #[.int .i64 104] w fun e w' => e = .returned (suiteV (some ⟨104, 32, 0, 8, 4⟩)) ∧ Same w w' := by
 go_enter Tryd.func31, Tryd.ntmps31
 go_wp2
 refine bodyPost_ret (v := suiteV (some ⟨104, 32, 0, 8, 4⟩)) (by simp [results, Tryd.results31, go_sem, suiteV, rowV, rowE, *]) rfl ⟨rfl, ?_⟩
 repeat' first
  | exact Fr.refl _ _
  | refine Fr.alloc ?_ _
  | refine Fr.setCell ?_ (.inr (by simp)) _
set_option maxRecDepth 100000 in
set_option maxHeartbeats 2000000 in
theorem suite_105 (w : World) : Calls Tryd.prog 31 #[.int .i64 105] w fun e w' => e = .returned (suiteV (some ⟨105, 32, 0, 32, 4⟩)) ∧ Same w w' := by
 go_enter Tryd.func31, Tryd.ntmps31
 go_wp2
 refine bodyPost_ret (v := suiteV (some ⟨105, 32, 0, 32, 4⟩)) (by simp [results, Tryd.results31, go_sem, suiteV, rowV, rowE, *]) rfl ⟨rfl, ?_⟩
 repeat' first
  | exact Fr.refl _ _
  | refine Fr.alloc ?_ _
  | refine Fr.setCell ?_ (.inr (by simp)) _
set_option maxRecDepth 100000 in
set_option maxHeartbeats 2000000 in
theorem suite_106 (w : World) : Calls Tryd.prog 31 #[.int .i64 106] w fun e w' => e = .returned (suiteV (some ⟨106, 48, 0, 48, 4⟩)) ∧ Same w w' := by
 go_enter Tryd.func31, Tryd.ntmps31
 go_wp2
 refine bodyPost_ret (v := suiteV (some ⟨106, 48, 0, 48, 4⟩)) (by simp [results, Tryd.results31, go_sem, suiteV, rowV, rowE, *]) rfl ⟨rfl, ?_⟩
 repeat' first
  | exact Fr.refl _ _
  | refine Fr.alloc ?_ _
  | refine Fr.setCell ?_ (.inr (by simp)) _
set_option maxRecDepth 100000 in
set_option maxHeartbeats 2000000 in
theorem suite_107 (w : World) : Calls Tryd.prog 31 #[.int .i64 107] w fun e w' => e = .returned (suiteV (some ⟨107, 64, 0, 64, 4⟩)) ∧ Same w w' := by
 go_enter Tryd.func31, Tryd.ntmps31
 go_wp2
 refine bodyPost_ret (v := suiteV (some ⟨107, 64, 0, 64, 4⟩)) (by simp [results, Tryd.results31, go_sem, suiteV, rowV, rowE, *]) rfl ⟨rfl, ?_⟩
 repeat' first
  | exact Fr.refl _ _
  | refine Fr.alloc ?_ _
  | refine Fr.setCell ?_ (.inr (by simp)) _
set_option maxRecDepth 100000 in
set_option maxHeartbeats 2000000 in
theorem suite_114 (w : World) : Calls Tryd.prog 31 #[.int .i64 114] w fun e w' => e = .returned (suiteV (some ⟨114, 16, 0, 8, 6⟩)) ∧ Same w w' := by
 go_enter Tryd.func31, Tryd.ntmps31
 go_wp2
 refine bodyPost_ret (v := suiteV (some ⟨114, 16, 0, 8, 6⟩)) (by simp [results, Tryd.results31, go_sem, suiteV, rowV, rowE, *]) rfl ⟨rfl, ?_⟩
 repeat' first
  | exact Fr.refl _ _
  | refine Fr.alloc ?_ _
  | refine Fr.setCell ?_ (.inr (by simp)) _
set_option maxRecDepth 100000 in
set_option maxHeartbeats 2000000 in
theorem suite_115 (w : World) : Calls Tryd.prog 31 #[.int .i64 115] w fun e w' => e = .returned (suiteV (some ⟨115, 32, 0, 8, 6⟩)) ∧ Same w w' := by
 go_enter Tryd.func31, Tryd.ntmps31
 go_wp2
 refine bodyPost_ret (v := suiteV (some ⟨115, 32, 0, 8, 6⟩)) (by simp [results, Tryd.results31, go_sem, suiteV, rowV, rowE, *]) rfl ⟨rfl, ?_⟩
 repeat' first
  | exact Fr.refl _ _
  | refine Fr.alloc ?_ _
  | refine Fr.setCell ?_ (.inr (by simp)) _
set_option maxRecDepth 100000 in
set_option maxHeartbeats 2000000 in
theorem suite_125 (w : World) : Calls Tryd.prog 31 #[.int .i64 125] w fun e w' => e = .returned (suiteV (some ⟨125, 16, 0, 16, 6⟩)) ∧ Same w w' := by
 go_enter Tryd.func31, Tryd.ntmps31
 go_wp2
 refine bodyPost_ret (v := suiteV (some ⟨125, 16, 0, 16, 6⟩)) (by simp [results, Tryd.results31, go_sem, suiteV, rowV, rowE, *]) rfl ⟨rfl, ?_⟩
 repeat' first
  | exact Fr.refl _ _
  | refine Fr.alloc ?_ _
  | refine Fr.setCell ?_ (.inr (by simp)) _
set_option maxRecDepth 100000 in
set_option maxHeartbeats 2000000 in
theorem suite_126 (w : World) : Calls Tryd.prog 31 #[.int .i64 126] w fun e w' => e = .returned (suiteV (some ⟨126, 32, 0, 16, 6⟩)) ∧ Same w w' := by
 go_enter Tryd.func31, Tryd.ntmps31
 go_wp2
 refine bodyPost_ret (v := suiteV (some ⟨126, 32, 0, 16, 6⟩)) (by simp [results, Tryd.results31, go_sem, suiteV, rowV, rowE, *]) rfl ⟨rfl, ?_⟩
 repeat' first
  | exact Fr.refl _ _
  | refine Fr.alloc ?_ _
  | refine Fr.setCell ?_ (.inr (by simp)) _
set_option maxRecDepth 100000 in
set_option maxHeartbeats 2000000 in
theorem suite_none (n : Int) (w : World) (h1 : ¬ n = 1) (h2 : ¬ n = 2) (h3 : ¬ n = 3) (h4 : ¬ n = 4) (h5 : ¬ n = 5) (h6 : ¬ n = 6) (h10 : ¬ n = 10) (h11 : ¬ n = 11) (h12 : ¬ n = 12) (h13 : ¬ n = 13) (h30 : ¬ n = 30) (h31 : ¬ n = 31) (h32 : ¬ n = 32) (h33 : ¬ n = 33) (h104 : ¬ n = 104) (h105 : ¬ n = 105) (h106 : ¬ n = 106) (h107 : ¬ n = 107) (h114 : ¬ n = 114) (h115 : ¬ n = 115) (h125 : ¬ n = 125) (h126 : ¬ n = 126) : Calls Tryd.prog 31 #[.int .i64 n] w fun e w' => e = .returned (suiteV none) ∧ Same w w' := by
 go_enter Tryd.func31, Tryd.ntmps31
 go_wp2
 refine bodyPost_ret (v := suiteV (none)) (by simp [results, Tryd.results31, go_sem, suiteV, rowV, rowE, *]) rfl ⟨rfl, ?_⟩
 repeat' first
  | exact Fr.refl _ _
  | refine Fr.alloc ?_ _
  | refine Fr.setCell ?_ (.inr (by simp)) _
theorem suite_any (n : Int) (w : World) : Calls Tryd.prog 31 #[.int .i64 n] w fun e w' => e = .returned (suiteV (rowOf n)) ∧ Same w w' := by
 by_cases h1 : n = 1
 ·subst h1
  exact suite_1 w
 by_cases h2 : n = 2
 ·subst h2
  exact suite_2 w
 by_cases h3 : n = 3
 ·subst h3
  exact suite_3 w
 by_cases h4 : n = 4
 ·subst h4
  exact suite_4 w
 by_cases h5 : n = 5
 ·subst h5
  exact suite_5 w
 by_cases h6 : n = 6
 ·subst h6
  exact suite_6 w
 by_cases h10 : n = 10
 ·subst h10
  exact suite_10 w
 by_cases h11 : n = 11
 ·subst h11
  exact suite_11 w
 by_cases h12 : n = 12
 ·subst h12
  exact suite_12 w
 by_cases h13 : n = 13
 ·subst h13
  exact suite_13 w
 by_cases h30 : n = 30
 ·subst h30
  exact suite_30 w
 by_cases h31 : n = 31
 ·subst h31
  exact suite_31 w
 by_cases h32 : n = 32
 ·subst h32
  exact suite_32 w
 by_cases h33 : n = 33
 ·subst h33
  exact suite_33 w
 by_cases h104 : n = 104
 ·subst h104
  exact suite_104 w
 by_cases h105 : n = 105
 ·subst h105
  exact suite_105 w
 by_cases h106 : n = 106
 ·subst h106
  exact suite_106 w
 by_cases h107 : n = 107
 ·subst h107
  exact suite_107 w
 by_cases h114 : n = 114
 ·subst h114
  exact suite_114 w
 by_cases h115 : n = 115
 ·subst h115
  exact suite_115 w
 by_cases h125 : n = 125
 ·subst h125
  exact suite_125 w
 by_cases h126 : n = 126
 ·subst h126
  exact suite_126 w
 have e : rowOf n = none := by
  unfold rowOf table
  rw [List.find?_eq_none]
  intro r hr
  simp only [List.mem_cons, List.not_mem_nil, or_false] at hr
  simp only [beq_iff_eq]
  rcases hr with rfl | rfl | rfl | rfl | rfl | rfl | rfl | rfl | rfl | rfl | rfl | rfl | rfl | rfl | rfl | rfl | rfl | rfl | rfl | rfl | rfl | rfl <;> (intro e; simp only at e; omega)
 rw [e]
 exact suite_none n w h1 h2 h3 h4 h5 h6 h10 h11 h12 h13 h30 h31 h32 h33 h104 h105 h106 h107 h114 h115 h125 h126
end Go.Proofs.YtddiabaagpmkgaaDoor

/-! The walks over cose.alg and the reference's table of suites. -/
namespace Go.Px.Co
theorem rowOf_mem {n : Int} {r : Row} (h : rowOf n = some r) : r ∈ table ∧ r.alg = n := by
 unfold rowOf at h
 refine ⟨List.mem_of_find?_eq_some h, ?_⟩
 have := List.find?_some h
 simpa using this
theorem rowOf_gap {n : Int} (h : (50 < n ∧ n ≤ 100) ∨ (150 < n ∧ n ≤ 200)) : rowOf n = none := by
 cases ho : rowOf n with
 | none => rfl
 | some r =>
  exfalso
  obtain ⟨hm, he⟩ := rowOf_mem ho
  have : ∀ r ∈ table, ¬ ((50 < r.alg ∧ r.alg ≤ 100) ∨ (150 < r.alg ∧ r.alg ≤ 200)) := by decide
  exact this r hm (by rw [he]; exact h)
def algN (mac : Bool) (n : Nat) : Int := if mac then (n : Int) + 100 else n
def pickR (mac : Bool) : Option Row → Option Row
 | none => none
 | some r => if r.iv = 16 then none else if (r.iv = 0) = (mac = true) then some r else none
/-- The row of a number, as the program finds it. -/
theorem row_alg (mac : Bool) (n : Nat) (h : n ≤ 100) : row mac n = pickR mac (rowOf (algN mac n)) := by
 unfold row algN
 by_cases h5 : 50 < n
 ·rw [if_pos h5]
  cases mac
  ·rw [if_neg (by decide), rowOf_gap (.inl (by omega))]
   rfl
  ·rw [if_pos rfl, rowOf_gap (.inr (by omega))]
   rfl
 ·rw [if_neg h5]
  cases rowOf (if mac = true then (n : Int) + 100 else n) <;> rfl
end Go.Px.Co
namespace Go.Proofs.YtddiabaagpmkgaaDoor
open Go.RowKit Go.Px Go.Px.E7 Go.Px.Co
theorem cell_set {w : World} {a p : Addr} {u v : Value} (h : w.cell? a = some v) (hne : ¬ a.block = p.block) : (w.setCell p u).cell? a = some v :=
 (World.cell?_of_block (w := w) (heap_setCell_other w p a.block u hne)).trans h
def AlgP (mac : Bool) (n : Nat) (e : Ending) (w w' : World) : Prop :=
 ∃ k a b c : Int, e = .returned (.tuple #[.int .i64 k, .agg #[.int .i64 a, .int .i64 b, .int .i64 c], .bool (row mac n).isSome]) ∧ (∀ r, row mac n = some r → k = r.alg ∧ a = (r.key : Int) ∧ b = (r.iv : Int) ∧ c = (r.tag : Int)) ∧ Same w w'
theorem algP_mk {mac : Bool} {n : Nat} {w w' : World} {k a b c : Int} {o : Option Row} {v : Bool} (h : row mac n = o) (hv : v = o.isSome) (hs : Same w w') (hr : ∀ r, o = some r → k = r.alg ∧ a = (r.key : Int) ∧ b = (r.iv : Int) ∧ c = (r.tag : Int)) :
  AlgP mac n (.returned (.tuple #[.int .i64 k, .agg #[.int .i64 a, .int .i64 b, .int .i64 c], .bool v])) w w' := by
 subst hv
 rw [← h] at hr ⊢
 exact ⟨k, a, b, c, rfl, hr, hs⟩
set_option maxRecDepth 100000 in
set_option maxHeartbeats 2000000 in
theorem alg_any (mac : Bool) (n : Nat) (w : World) (hn : n < 18446744073709551616) : Calls Tryd.prog 59 #[.int .i64 (fmtOf mac), .int .u64 n] w fun e w' => AlgP mac n e w w' := by
 by_cases h1 : 100 < n
 ·have hz : (100 : Int) < (n : Int) := by omega
  have HR := Px.hid (show row mac n = none by unfold row; rw [if_pos (by omega)])
  go_enter Tryd.func59, Tryd.ntmps59
  go_wp2
  refine bodyPost_ret (v := .tuple #[.int .i64 0, .agg #[.int .i64 0, .int .i64 0, .int .i64 0], .bool false]) (by simp [results, Tryd.results59, go_sem, *]) rfl (algP_mk HR.out rfl ?_ nofun)
  repeat' first
   | exact Fr.refl _ _
   | refine Fr.alloc ?_ _
   | refine Fr.setCell ?_ (.inr (by simp)) _
 ·have hz : ¬ (100 : Int) < (n : Int) := by omega
  have HR := Px.hid (row_alg mac n (by omega))
  have hz2 : (n : Int) ≤ 100 := by omega
  clear h1 hn
  go_enter Tryd.func59, Tryd.ntmps59
  cases mac
  all_goals
   go_wp2_with fail
   refine (suite_any _ _).mono ?_
   rintro e w1 ⟨rfl, hs⟩
   have hb : w1.heap[w.heap.size]? = some (.cells #[.int .i64 0, .int .i64 0, .int .i64 0] 67 (0, 0)) := (hs.block _ (by simp) (fun x => x)).trans (heap_alloc_new w _)
   have c0 : w1.cell? ⟨w.heap.size, 0, none⟩ = some (.int .i64 0) := cellOf hb 0 rfl
   have c1 : w1.cell? ⟨w.heap.size, 1, none⟩ = some (.int .i64 0) := cellOf hb 1 rfl
   have c2 : w1.cell? ⟨w.heap.size, 2, none⟩ = some (.int .i64 0) := cellOf hb 2 rfl
   have f0 := freeOf hb 0
   have f1 := freeOf hb 1
   have f2 := freeOf hb 2
   have hb4 : w.heap.size < w1.heap.size := ltOf hb
   have HS : Hid (Same w w1) := Px.hid (Fr.trans (Fr.alloc (Fr.refl _ w) _) hs (fun _ _ x => x))
   clear hs hb
  ·obtain ⟨o, ho⟩ : ∃ o, o = rowOf (n : Int) := ⟨_, rfl⟩
   have HR2 := Px.hid (show row false n = pickR false o by rw [HR.out, ho]; rfl)
   have HM := Px.hid (show ∀ r, o = some r → r.alg = (n : Int) from fun r h => (rowOf_mem (by rw [← ho, h])).2)
   rw [← ho]
   clear ho HR
   cases o with
   | none =>
    have HR3 := Px.hid (show row false n = none from HR2.out)
    rw [show suiteV none = .tuple #[.agg #[.int .i64 0, .int .i64 0, .int .i64 0], .int .i64 11] from rfl]
    clear HM HR2
    go_upto_region 7 with fail
    obtain ⟨w2, hw2⟩ : ∃ w2 : World, w2 = w1.alloc (.cells #[.int .i64 0, .int .i64 0, .int .i64 0] 67) := ⟨_, rfl⟩
    rw [← hw2]
    have d0 : w2.cell? ⟨w1.heap.size, 0, none⟩ = some (.int .i64 0) := by rw [hw2]; exact cellOf (heap_alloc_new w1 _) 0 rfl
    have d1 : w2.cell? ⟨w1.heap.size, 1, none⟩ = some (.int .i64 0) := by rw [hw2]; exact cellOf (heap_alloc_new w1 _) 1 rfl
    have d2 : w2.cell? ⟨w1.heap.size, 2, none⟩ = some (.int .i64 0) := by rw [hw2]; exact cellOf (heap_alloc_new w1 _) 2 rfl
    have e0 : w2.cell? ⟨w.heap.size, 0, none⟩ = some (.int .i64 0) := by rw [hw2]; exact cell_alloc c0
    have e1 : w2.cell? ⟨w.heap.size, 1, none⟩ = some (.int .i64 0) := by rw [hw2]; exact cell_alloc c1
    have e2 : w2.cell? ⟨w.heap.size, 2, none⟩ = some (.int .i64 0) := by rw [hw2]; exact cell_alloc c2
    have g0 : w2.frozen? ⟨w.heap.size, 0, none⟩ = false := by rw [hw2]; exact (frozen_alloc_some (by simp [c0])).trans f0
    have g1 : w2.frozen? ⟨w.heap.size, 1, none⟩ = false := by rw [hw2]; exact (frozen_alloc_some (by simp [c1])).trans f1
    have g2 : w2.frozen? ⟨w.heap.size, 2, none⟩ = false := by rw [hw2]; exact (frozen_alloc_some (by simp [c2])).trans f2
    have hne : ¬ w1.heap.size = w.heap.size := by omega
    have HS : Hid (Same w w2) := Px.hid (by rw [hw2]; exact Fr.alloc HS.out _)
    clear c0 c1 c2 f0 f1 f2 hw2
    obtain ⟨SS, hSS⟩ : ∃ SS : World → Prop, SS = (fun W : World => W.cell? ⟨w1.heap.size, 0, none⟩ = some (.int .i64 0) ∧ W.cell? ⟨w1.heap.size, 1, none⟩ = some (.int .i64 0) ∧ W.cell? ⟨w1.heap.size, 2, none⟩ = some (.int .i64 0)) := ⟨_, rfl⟩
    have hS0 : SS w2.drew := by rw [hSS]; exact ⟨d0, d1, d2⟩
    refine wp_region_held_drew (S := SS) (by kernel_rfl) hS0 (fun hHeld => ?_)
    refine wpAnyH_take (i := 0) (v := ?_) rfl (by kernel_rfl) (by kernel_rfl) (by kernel_rfl) (fun _ _ _ h => h) (Or.inl ⟨by rfl, ?_⟩) (by assumption) ?_
    rotate_left
    ·intro w hw
     rw [hSS] at hw
     obtain ⟨d0, d1, d2⟩ := hw
     go_simp
     try (with_reducible rfl)
    change wpAnyH _ _ _ _ _ _ _ (Act.put _ (some 24) _) _
    simp only [Act.put, List.setIfInBounds_toArray, List.set_cons_zero, List.set_cons_succ]
    refine wpAnyH_take (i := 1) (v := ?_) rfl (by kernel_rfl) (by kernel_rfl) (by kernel_rfl) (fun _ _ _ h => h) (Or.inl ⟨by rfl, ?_⟩) (by assumption) ?_
    rotate_left
    ·intro w hw
     rw [hSS] at hw
     obtain ⟨d0, d1, d2⟩ := hw
     go_simp
     try (with_reducible rfl)
    change wpAnyH _ _ _ _ _ _ _ (Act.put _ (some 25) _) _
    simp only [Act.put, List.setIfInBounds_toArray, List.set_cons_zero, List.set_cons_succ]
    refine wpAnyH_take (i := 2) (v := ?_) rfl (by kernel_rfl) (by kernel_rfl) (by kernel_rfl) (fun _ _ _ h => h) (Or.inl ⟨by rfl, ?_⟩) (by assumption) ?_
    rotate_left
    ·intro w hw
     rw [hSS] at hw
     obtain ⟨d0, d1, d2⟩ := hw
     go_simp
     try (with_reducible rfl)
    change wpAnyH _ _ _ _ _ _ _ (Act.put _ (some 26) _) _
    simp only [Act.put, List.setIfInBounds_toArray, List.set_cons_zero, List.set_cons_succ]
    refine wpAnyH_take (i := 3) (v := ?_) rfl (by kernel_rfl) (by kernel_rfl) (by kernel_rfl) (fun _ _ _ h => h) (Or.inl ⟨by rfl, ?_⟩) (by assumption) ?_
    rotate_left
    ·intro w hw
     rw [hSS] at hw
     obtain ⟨d0, d1, d2⟩ := hw
     go_simp
     try (with_reducible rfl)
    change wpAnyH _ _ _ _ _ _ _ (Act.put _ (some 27) _) _
    simp only [Act.put, List.setIfInBounds_toArray, List.set_cons_zero, List.set_cons_succ]
    refine wpAnyH_take (i := 4) (v := ?_) rfl (by kernel_rfl) (by kernel_rfl) (by kernel_rfl) (fun _ _ _ h => h) (Or.inl ⟨by rfl, ?_⟩) (by assumption) ?_
    rotate_left
    ·intro w hw
     rw [hSS] at hw
     obtain ⟨d0, d1, d2⟩ := hw
     go_simp
     try (with_reducible rfl)
    change wpAnyH _ _ _ _ _ _ _ (Act.put _ (some 28) _) _
    simp only [Act.put, List.setIfInBounds_toArray, List.set_cons_zero, List.set_cons_succ]
    refine wpAnyH_take (i := 5) (v := undef) rfl (by kernel_rfl) (by kernel_rfl) (by kernel_rfl) (fun _ _ _ h => h) (Or.inr ⟨by rfl, rfl⟩) (by assumption) ?_
    change wpAnyH _ _ _ _ _ _ _ (Act.put _ (some 29) _) _
    simp only [Act.put, List.setIfInBounds_toArray, List.set_cons_zero, List.set_cons_succ]
    refine wpAnyH_take (i := 6) (v := undef) rfl (by kernel_rfl) (by kernel_rfl) (by kernel_rfl) (fun _ _ _ h => h) (Or.inr ⟨by rfl, rfl⟩) (by assumption) ?_
    change wpAnyH _ _ _ _ _ _ _ (Act.put _ (some 30) _) _
    simp only [Act.put, List.setIfInBounds_toArray, List.set_cons_zero, List.set_cons_succ]
    refine wpAnyH_take (i := 7) (v := undef) rfl (by kernel_rfl) (by kernel_rfl) (by kernel_rfl) (fun _ _ _ h => h) (Or.inr ⟨by rfl, rfl⟩) (by assumption) ?_
    change wpAnyH _ _ _ _ _ _ _ (Act.put _ (some 31) _) _
    simp only [Act.put, List.setIfInBounds_toArray, List.set_cons_zero, List.set_cons_succ]
    refine wpAnyH_take (i := 8) (v := ?_) rfl (by kernel_rfl) (by kernel_rfl) (by kernel_rfl) (fun _ _ _ h => h) (Or.inl ⟨by rfl, ?_⟩) (by assumption) ?_
    rotate_left
    ·intro w hw
     rw [hSS] at hw
     obtain ⟨d0, d1, d2⟩ := hw
     go_simp
     try (with_reducible rfl)
    change wpAnyH _ _ _ _ _ _ _ (Act.put _ (some 32) _) _
    simp only [Act.put, List.setIfInBounds_toArray, List.set_cons_zero, List.set_cons_succ]
    refine wpAnyH_take (i := 9) (v := ?_) rfl (by kernel_rfl) (by kernel_rfl) (by kernel_rfl) (fun _ _ _ h => h) (Or.inl ⟨by rfl, ?_⟩) (by assumption) ?_
    rotate_left
    ·intro w hw
     rw [hSS] at hw
     obtain ⟨d0, d1, d2⟩ := hw
     go_simp
     try (with_reducible rfl)
    change wpAnyH _ _ _ _ _ _ _ (Act.put _ (some 33) _) _
    simp only [Act.put, List.setIfInBounds_toArray, List.set_cons_zero, List.set_cons_succ]
    refine wpAnyH_take (i := 10) (v := undef) rfl (by kernel_rfl) (by kernel_rfl) (by kernel_rfl) (fun _ _ _ h => h) (Or.inr ⟨by rfl, rfl⟩) (by assumption) ?_
    change wpAnyH _ _ _ _ _ _ _ (Act.put _ (some 34) _) _
    simp only [Act.put, List.setIfInBounds_toArray, List.set_cons_zero, List.set_cons_succ]
    refine wpAnyH_take (i := 11) (v := undef) rfl (by kernel_rfl) (by kernel_rfl) (by kernel_rfl) (fun _ _ _ h => h) (Or.inr ⟨by rfl, rfl⟩) (by assumption) ?_
    change wpAnyH _ _ _ _ _ _ _ (Act.put _ (some 35) _) _
    simp only [Act.put, List.setIfInBounds_toArray, List.set_cons_zero, List.set_cons_succ]
    refine wpAnyH_take (i := 12) (v := undef) rfl (by kernel_rfl) (by kernel_rfl) (by kernel_rfl) (fun _ _ _ h => h) (Or.inr ⟨by rfl, rfl⟩) (by assumption) ?_
    change wpAnyH _ _ _ _ _ _ _ (Act.put _ (some 36) _) _
    simp only [Act.put, List.setIfInBounds_toArray, List.set_cons_zero, List.set_cons_succ]
    refine wpAnyH_take (i := 13) (v := undef) rfl (by kernel_rfl) (by kernel_rfl) (by kernel_rfl) (fun _ _ _ h => h) (Or.inr ⟨by rfl, rfl⟩) (by assumption) ?_
    change wpAnyH _ _ _ _ _ _ _ (Act.put _ (some 37) _) _
    simp only [Act.put, List.setIfInBounds_toArray, List.set_cons_zero, List.set_cons_succ]
    refine wpAnyH_take (i := 14) (v := undef) rfl (by kernel_rfl) (by kernel_rfl) (by kernel_rfl) (fun _ _ _ h => h) (Or.inr ⟨by rfl, rfl⟩) (by assumption) ?_
    change wpAnyH _ _ _ _ _ _ _ (Act.put _ (some 38) _) _
    simp only [Act.put, List.setIfInBounds_toArray, List.set_cons_zero, List.set_cons_succ]
    refine wpAnyH_take (i := 15) (v := undef) rfl (by kernel_rfl) (by kernel_rfl) (by kernel_rfl) (fun _ _ _ h => h) (Or.inr ⟨by rfl, rfl⟩) (by assumption) ?_
    change wpAnyH _ _ _ _ _ _ _ (Act.put _ (some 39) _) _
    simp only [Act.put, List.setIfInBounds_toArray, List.set_cons_zero, List.set_cons_succ]
    refine wpAnyH_take (i := 16) (v := ?_) rfl (by kernel_rfl) (by kernel_rfl) (by kernel_rfl) (fun _ _ _ h => h) (Or.inl ⟨by rfl, ?_⟩) (by assumption) ?_
    rotate_left
    ·intro w hw
     rw [hSS] at hw
     obtain ⟨d0, d1, d2⟩ := hw
     go_simp
     try (with_reducible rfl)
    change wpAnyH _ _ _ _ _ _ _ (Act.put _ (some 40) _) _
    simp only [Act.put, List.setIfInBounds_toArray, List.set_cons_zero, List.set_cons_succ]
    refine wpAnyH_ready (rs := [17]) (by kernel_rfl) (by simp) ?_
    refine AllReadyH.cons rfl (fun K hK => ?_) AllReadyH.nil
    go_simp
    refine Shut.out hK _ _ ?_ (fun hHeld => ?_)
    ·rw [hSS]
     exact ⟨d0, d1, d2⟩
    clear hK K
    refine wpAnyH_ready (rs := [18]) (by kernel_rfl) (by simp) ?_
    refine AllReadyH.cons rfl (fun K hK => ?_) AllReadyH.nil
    go_simp
    refine Shut.out hK _ _ ?_ (fun hHeld => ?_)
    ·rw [hSS]
     refine ⟨?_, ?_, ?_⟩ <;> (refine cell_set (cell_set (cell_set ?_ hne) hne) hne; assumption)
    clear hK K
    refine wpAnyH_ready (rs := [19]) (by kernel_rfl) (by simp) ?_
    refine AllReadyH.cons rfl (fun K hK => ?_) AllReadyH.nil
    go_simp
    refine Shut.out hK _ _ ?_ (fun hHeld => ?_)
    ·rw [hSS]
     refine ⟨?_, ?_, ?_⟩ <;> (refine cell_set (cell_set (cell_set ?_ hne) hne) hne; assumption)
    clear hK K
    refine wpAnyH_done (by kernel_rfl) ?_ _
    go_wp2
    refine bodyPost_ret (v := .tuple #[.int .i64 (n : Int), .agg #[.int .i64 0, .int .i64 0, .int .i64 0], .bool false]) (by simp [results, Tryd.results59, go_sem, *]) rfl (algP_mk HR3.out rfl ?_ nofun)
    repeat' first
     | exact HS.out
     | refine Fr.drew ?_
     | refine Fr.alloc ?_ _
     | refine Fr.setCell ?_ (.inr (by simp)) _
   | some r =>
    obtain ⟨al, ky, iv, tg, ly⟩ := r
    have hal : al = (n : Int) := HM.out _ rfl
    subst hal
    rw [show suiteV (some ⟨(n : Int), ky, iv, tg, ly⟩) = .tuple #[.agg #[.int .i64 (ky : Nat), .int .i64 (iv : Nat), .int .i64 (tg : Nat)], .int .i64 0] from rfl]
    clear HM
    by_cases h16 : iv = 16
    ·subst h16
     have HR3 := Px.hid (show row false n = none from HR2.out)
     clear HR2
     go_upto_region 7 with fail
     obtain ⟨w2, hw2⟩ : ∃ w2 : World, w2 = w1.alloc (.cells #[.int .i64 (ky : Nat), .int .i64 16, .int .i64 (tg : Nat)] 67) := ⟨_, rfl⟩
     rw [← hw2]
     have d0 : w2.cell? ⟨w1.heap.size, 0, none⟩ = some (.int .i64 (ky : Nat)) := by rw [hw2]; exact cellOf (heap_alloc_new w1 _) 0 rfl
     have d1 : w2.cell? ⟨w1.heap.size, 1, none⟩ = some (.int .i64 16) := by rw [hw2]; exact cellOf (heap_alloc_new w1 _) 1 rfl
     have d2 : w2.cell? ⟨w1.heap.size, 2, none⟩ = some (.int .i64 (tg : Nat)) := by rw [hw2]; exact cellOf (heap_alloc_new w1 _) 2 rfl
     have e0 : w2.cell? ⟨w.heap.size, 0, none⟩ = some (.int .i64 0) := by rw [hw2]; exact cell_alloc c0
     have e1 : w2.cell? ⟨w.heap.size, 1, none⟩ = some (.int .i64 0) := by rw [hw2]; exact cell_alloc c1
     have e2 : w2.cell? ⟨w.heap.size, 2, none⟩ = some (.int .i64 0) := by rw [hw2]; exact cell_alloc c2
     have g0 : w2.frozen? ⟨w.heap.size, 0, none⟩ = false := by rw [hw2]; exact (frozen_alloc_some (by simp [c0])).trans f0
     have g1 : w2.frozen? ⟨w.heap.size, 1, none⟩ = false := by rw [hw2]; exact (frozen_alloc_some (by simp [c1])).trans f1
     have g2 : w2.frozen? ⟨w.heap.size, 2, none⟩ = false := by rw [hw2]; exact (frozen_alloc_some (by simp [c2])).trans f2
     have hne : ¬ w1.heap.size = w.heap.size := by omega
     have HS : Hid (Same w w2) := Px.hid (by rw [hw2]; exact Fr.alloc HS.out _)
     clear c0 c1 c2 f0 f1 f2 hw2
     obtain ⟨SS, hSS⟩ : ∃ SS : World → Prop, SS = (fun W : World => W.cell? ⟨w1.heap.size, 0, none⟩ = some (.int .i64 (ky : Nat)) ∧ W.cell? ⟨w1.heap.size, 1, none⟩ = some (.int .i64 16) ∧ W.cell? ⟨w1.heap.size, 2, none⟩ = some (.int .i64 (tg : Nat))) := ⟨_, rfl⟩
     have hS0 : SS w2.drew := by rw [hSS]; exact ⟨d0, d1, d2⟩
     refine wp_region_held_drew (S := SS) (by kernel_rfl) hS0 (fun hHeld => ?_)
     refine wpAnyH_take (i := 0) (v := ?_) rfl (by kernel_rfl) (by kernel_rfl) (by kernel_rfl) (fun _ _ _ h => h) (Or.inl ⟨by rfl, ?_⟩) (by assumption) ?_
     rotate_left
     ·intro w hw
      rw [hSS] at hw
      obtain ⟨d0, d1, d2⟩ := hw
      go_simp
      try (with_reducible rfl)
     change wpAnyH _ _ _ _ _ _ _ (Act.put _ (some 24) _) _
     simp only [Act.put, List.setIfInBounds_toArray, List.set_cons_zero, List.set_cons_succ]
     refine wpAnyH_take (i := 1) (v := ?_) rfl (by kernel_rfl) (by kernel_rfl) (by kernel_rfl) (fun _ _ _ h => h) (Or.inl ⟨by rfl, ?_⟩) (by assumption) ?_
     rotate_left
     ·intro w hw
      rw [hSS] at hw
      obtain ⟨d0, d1, d2⟩ := hw
      go_simp
      try (with_reducible rfl)
     change wpAnyH _ _ _ _ _ _ _ (Act.put _ (some 25) _) _
     simp only [Act.put, List.setIfInBounds_toArray, List.set_cons_zero, List.set_cons_succ]
     refine wpAnyH_take (i := 2) (v := ?_) rfl (by kernel_rfl) (by kernel_rfl) (by kernel_rfl) (fun _ _ _ h => h) (Or.inl ⟨by rfl, ?_⟩) (by assumption) ?_
     rotate_left
     ·intro w hw
      rw [hSS] at hw
      obtain ⟨d0, d1, d2⟩ := hw
      go_simp
      try (with_reducible rfl)
     change wpAnyH _ _ _ _ _ _ _ (Act.put _ (some 26) _) _
     simp only [Act.put, List.setIfInBounds_toArray, List.set_cons_zero, List.set_cons_succ]
     refine wpAnyH_take (i := 3) (v := ?_) rfl (by kernel_rfl) (by kernel_rfl) (by kernel_rfl) (fun _ _ _ h => h) (Or.inl ⟨by rfl, ?_⟩) (by assumption) ?_
     rotate_left
     ·intro w hw
      rw [hSS] at hw
      obtain ⟨d0, d1, d2⟩ := hw
      go_simp
      try (with_reducible rfl)
     change wpAnyH _ _ _ _ _ _ _ (Act.put _ (some 27) _) _
     simp only [Act.put, List.setIfInBounds_toArray, List.set_cons_zero, List.set_cons_succ]
     refine wpAnyH_take (i := 4) (v := ?_) rfl (by kernel_rfl) (by kernel_rfl) (by kernel_rfl) (fun _ _ _ h => h) (Or.inl ⟨by rfl, ?_⟩) (by assumption) ?_
     rotate_left
     ·intro w hw
      rw [hSS] at hw
      obtain ⟨d0, d1, d2⟩ := hw
      go_simp
      try (with_reducible rfl)
     change wpAnyH _ _ _ _ _ _ _ (Act.put _ (some 28) _) _
     simp only [Act.put, List.setIfInBounds_toArray, List.set_cons_zero, List.set_cons_succ]
     refine wpAnyH_take (i := 5) (v := ?_) rfl (by kernel_rfl) (by kernel_rfl) (by kernel_rfl) (fun _ _ _ h => h) (Or.inl ⟨by rfl, ?_⟩) (by assumption) ?_
     rotate_left
     ·intro w hw
      rw [hSS] at hw
      obtain ⟨d0, d1, d2⟩ := hw
      go_simp
      try (with_reducible rfl)
     change wpAnyH _ _ _ _ _ _ _ (Act.put _ (some 29) _) _
     simp only [Act.put, List.setIfInBounds_toArray, List.set_cons_zero, List.set_cons_succ]
     refine wpAnyH_take (i := 6) (v := ?_) rfl (by kernel_rfl) (by kernel_rfl) (by kernel_rfl) (fun _ _ _ h => h) (Or.inl ⟨by rfl, ?_⟩) (by assumption) ?_
     rotate_left
     ·intro w hw
      rw [hSS] at hw
      obtain ⟨d0, d1, d2⟩ := hw
      go_simp
      try (with_reducible rfl)
     change wpAnyH _ _ _ _ _ _ _ (Act.put _ (some 30) _) _
     simp only [Act.put, List.setIfInBounds_toArray, List.set_cons_zero, List.set_cons_succ]
     refine wpAnyH_take (i := 7) (v := ?_) rfl (by kernel_rfl) (by kernel_rfl) (by kernel_rfl) (fun _ _ _ h => h) (Or.inl ⟨by rfl, ?_⟩) (by assumption) ?_
     rotate_left
     ·intro w hw
      rw [hSS] at hw
      obtain ⟨d0, d1, d2⟩ := hw
      go_simp
      try (with_reducible rfl)
     change wpAnyH _ _ _ _ _ _ _ (Act.put _ (some 31) _) _
     simp only [Act.put, List.setIfInBounds_toArray, List.set_cons_zero, List.set_cons_succ]
     refine wpAnyH_take (i := 8) (v := ?_) rfl (by kernel_rfl) (by kernel_rfl) (by kernel_rfl) (fun _ _ _ h => h) (Or.inl ⟨by rfl, ?_⟩) (by assumption) ?_
     rotate_left
     ·intro w hw
      rw [hSS] at hw
      obtain ⟨d0, d1, d2⟩ := hw
      go_simp
      try (with_reducible rfl)
     change wpAnyH _ _ _ _ _ _ _ (Act.put _ (some 32) _) _
     simp only [Act.put, List.setIfInBounds_toArray, List.set_cons_zero, List.set_cons_succ]
     refine wpAnyH_take (i := 9) (v := ?_) rfl (by kernel_rfl) (by kernel_rfl) (by kernel_rfl) (fun _ _ _ h => h) (Or.inl ⟨by rfl, ?_⟩) (by assumption) ?_
     rotate_left
     ·intro w hw
      rw [hSS] at hw
      obtain ⟨d0, d1, d2⟩ := hw
      go_simp
      try (with_reducible rfl)
     change wpAnyH _ _ _ _ _ _ _ (Act.put _ (some 33) _) _
     simp only [Act.put, List.setIfInBounds_toArray, List.set_cons_zero, List.set_cons_succ]
     refine wpAnyH_take (i := 10) (v := undef) rfl (by kernel_rfl) (by kernel_rfl) (by kernel_rfl) (fun _ _ _ h => h) (Or.inr ⟨by rfl, rfl⟩) (by assumption) ?_
     change wpAnyH _ _ _ _ _ _ _ (Act.put _ (some 34) _) _
     simp only [Act.put, List.setIfInBounds_toArray, List.set_cons_zero, List.set_cons_succ]
     refine wpAnyH_take (i := 11) (v := undef) rfl (by kernel_rfl) (by kernel_rfl) (by kernel_rfl) (fun _ _ _ h => h) (Or.inr ⟨by rfl, rfl⟩) (by assumption) ?_
     change wpAnyH _ _ _ _ _ _ _ (Act.put _ (some 35) _) _
     simp only [Act.put, List.setIfInBounds_toArray, List.set_cons_zero, List.set_cons_succ]
     refine wpAnyH_take (i := 12) (v := undef) rfl (by kernel_rfl) (by kernel_rfl) (by kernel_rfl) (fun _ _ _ h => h) (Or.inr ⟨by rfl, rfl⟩) (by assumption) ?_
     change wpAnyH _ _ _ _ _ _ _ (Act.put _ (some 36) _) _
     simp only [Act.put, List.setIfInBounds_toArray, List.set_cons_zero, List.set_cons_succ]
     refine wpAnyH_take (i := 13) (v := undef) rfl (by kernel_rfl) (by kernel_rfl) (by kernel_rfl) (fun _ _ _ h => h) (Or.inr ⟨by rfl, rfl⟩) (by assumption) ?_
     change wpAnyH _ _ _ _ _ _ _ (Act.put _ (some 37) _) _
     simp only [Act.put, List.setIfInBounds_toArray, List.set_cons_zero, List.set_cons_succ]
     refine wpAnyH_take (i := 14) (v := undef) rfl (by kernel_rfl) (by kernel_rfl) (by kernel_rfl) (fun _ _ _ h => h) (Or.inr ⟨by rfl, rfl⟩) (by assumption) ?_
     change wpAnyH _ _ _ _ _ _ _ (Act.put _ (some 38) _) _
     simp only [Act.put, List.setIfInBounds_toArray, List.set_cons_zero, List.set_cons_succ]
     refine wpAnyH_take (i := 15) (v := undef) rfl (by kernel_rfl) (by kernel_rfl) (by kernel_rfl) (fun _ _ _ h => h) (Or.inr ⟨by rfl, rfl⟩) (by assumption) ?_
     change wpAnyH _ _ _ _ _ _ _ (Act.put _ (some 39) _) _
     simp only [Act.put, List.setIfInBounds_toArray, List.set_cons_zero, List.set_cons_succ]
     refine wpAnyH_take (i := 16) (v := ?_) rfl (by kernel_rfl) (by kernel_rfl) (by kernel_rfl) (fun _ _ _ h => h) (Or.inl ⟨by rfl, ?_⟩) (by assumption) ?_
     rotate_left
     ·intro w hw
      rw [hSS] at hw
      obtain ⟨d0, d1, d2⟩ := hw
      go_simp
      try (with_reducible rfl)
     change wpAnyH _ _ _ _ _ _ _ (Act.put _ (some 40) _) _
     simp only [Act.put, List.setIfInBounds_toArray, List.set_cons_zero, List.set_cons_succ]
     refine wpAnyH_ready (rs := [17]) (by kernel_rfl) (by simp) ?_
     refine AllReadyH.cons rfl (fun K hK => ?_) AllReadyH.nil
     go_simp
     refine Shut.out hK _ _ ?_ (fun hHeld => ?_)
     ·rw [hSS]
      exact ⟨d0, d1, d2⟩
     clear hK K
     refine wpAnyH_ready (rs := [18]) (by kernel_rfl) (by simp) ?_
     refine AllReadyH.cons rfl (fun K hK => ?_) AllReadyH.nil
     go_simp
     refine Shut.out hK _ _ ?_ (fun hHeld => ?_)
     ·rw [hSS]
      refine ⟨?_, ?_, ?_⟩ <;> (refine cell_set (cell_set (cell_set ?_ hne) hne) hne; assumption)
     clear hK K
     refine wpAnyH_ready (rs := [19]) (by kernel_rfl) (by simp) ?_
     refine AllReadyH.cons rfl (fun K hK => ?_) AllReadyH.nil
     go_simp
     refine Shut.out hK _ _ ?_ (fun hHeld => ?_)
     ·rw [hSS]
      refine ⟨?_, ?_, ?_⟩ <;> (refine cell_set (cell_set (cell_set ?_ hne) hne) hne; assumption)
     clear hK K
     refine wpAnyH_done (by kernel_rfl) ?_ _
     go_wp2
     refine bodyPost_ret (v := .tuple #[.int .i64 (n : Int), .agg #[.int .i64 (ky : Nat), .int .i64 16, .int .i64 (tg : Nat)], .bool false]) (by simp [results, Tryd.results59, go_sem, *]) rfl (algP_mk HR3.out rfl ?_ nofun)
     repeat' first
      | exact HS.out
      | refine Fr.drew ?_
      | refine Fr.alloc ?_ _
      | refine Fr.setCell ?_ (.inr (by simp)) _
    ·by_cases h0 : iv = 0
     ·subst h0
      have HR3 := Px.hid (show row false n = none from HR2.out.trans (by unfold pickR; rfl))
      clear HR2 h16
      go_upto_region 7 with fail
      obtain ⟨w2, hw2⟩ : ∃ w2 : World, w2 = w1.alloc (.cells #[.int .i64 (ky : Nat), .int .i64 0, .int .i64 (tg : Nat)] 67) := ⟨_, rfl⟩
      rw [← hw2]
      have d0 : w2.cell? ⟨w1.heap.size, 0, none⟩ = some (.int .i64 (ky : Nat)) := by rw [hw2]; exact cellOf (heap_alloc_new w1 _) 0 rfl
      have d1 : w2.cell? ⟨w1.heap.size, 1, none⟩ = some (.int .i64 0) := by rw [hw2]; exact cellOf (heap_alloc_new w1 _) 1 rfl
      have d2 : w2.cell? ⟨w1.heap.size, 2, none⟩ = some (.int .i64 (tg : Nat)) := by rw [hw2]; exact cellOf (heap_alloc_new w1 _) 2 rfl
      have e0 : w2.cell? ⟨w.heap.size, 0, none⟩ = some (.int .i64 0) := by rw [hw2]; exact cell_alloc c0
      have e1 : w2.cell? ⟨w.heap.size, 1, none⟩ = some (.int .i64 0) := by rw [hw2]; exact cell_alloc c1
      have e2 : w2.cell? ⟨w.heap.size, 2, none⟩ = some (.int .i64 0) := by rw [hw2]; exact cell_alloc c2
      have g0 : w2.frozen? ⟨w.heap.size, 0, none⟩ = false := by rw [hw2]; exact (frozen_alloc_some (by simp [c0])).trans f0
      have g1 : w2.frozen? ⟨w.heap.size, 1, none⟩ = false := by rw [hw2]; exact (frozen_alloc_some (by simp [c1])).trans f1
      have g2 : w2.frozen? ⟨w.heap.size, 2, none⟩ = false := by rw [hw2]; exact (frozen_alloc_some (by simp [c2])).trans f2
      have hne : ¬ w1.heap.size = w.heap.size := by omega
      have HS : Hid (Same w w2) := Px.hid (by rw [hw2]; exact Fr.alloc HS.out _)
      clear c0 c1 c2 f0 f1 f2 hw2
      obtain ⟨SS, hSS⟩ : ∃ SS : World → Prop, SS = (fun W : World => W.cell? ⟨w1.heap.size, 0, none⟩ = some (.int .i64 (ky : Nat)) ∧ W.cell? ⟨w1.heap.size, 1, none⟩ = some (.int .i64 0) ∧ W.cell? ⟨w1.heap.size, 2, none⟩ = some (.int .i64 (tg : Nat))) := ⟨_, rfl⟩
      have hS0 : SS w2.drew := by rw [hSS]; exact ⟨d0, d1, d2⟩
      refine wp_region_held_drew (S := SS) (by kernel_rfl) hS0 (fun hHeld => ?_)
      refine wpAnyH_take (i := 0) (v := ?_) rfl (by kernel_rfl) (by kernel_rfl) (by kernel_rfl) (fun _ _ _ h => h) (Or.inl ⟨by rfl, ?_⟩) (by assumption) ?_
      rotate_left
      ·intro w hw
       rw [hSS] at hw
       obtain ⟨d0, d1, d2⟩ := hw
       go_simp
       try (with_reducible rfl)
      change wpAnyH _ _ _ _ _ _ _ (Act.put _ (some 24) _) _
      simp only [Act.put, List.setIfInBounds_toArray, List.set_cons_zero, List.set_cons_succ]
      refine wpAnyH_take (i := 1) (v := ?_) rfl (by kernel_rfl) (by kernel_rfl) (by kernel_rfl) (fun _ _ _ h => h) (Or.inl ⟨by rfl, ?_⟩) (by assumption) ?_
      rotate_left
      ·intro w hw
       rw [hSS] at hw
       obtain ⟨d0, d1, d2⟩ := hw
       go_simp
       try (with_reducible rfl)
      change wpAnyH _ _ _ _ _ _ _ (Act.put _ (some 25) _) _
      simp only [Act.put, List.setIfInBounds_toArray, List.set_cons_zero, List.set_cons_succ]
      refine wpAnyH_take (i := 2) (v := ?_) rfl (by kernel_rfl) (by kernel_rfl) (by kernel_rfl) (fun _ _ _ h => h) (Or.inl ⟨by rfl, ?_⟩) (by assumption) ?_
      rotate_left
      ·intro w hw
       rw [hSS] at hw
       obtain ⟨d0, d1, d2⟩ := hw
       go_simp
       try (with_reducible rfl)
      change wpAnyH _ _ _ _ _ _ _ (Act.put _ (some 26) _) _
      simp only [Act.put, List.setIfInBounds_toArray, List.set_cons_zero, List.set_cons_succ]
      refine wpAnyH_take (i := 3) (v := ?_) rfl (by kernel_rfl) (by kernel_rfl) (by kernel_rfl) (fun _ _ _ h => h) (Or.inl ⟨by rfl, ?_⟩) (by assumption) ?_
      rotate_left
      ·intro w hw
       rw [hSS] at hw
       obtain ⟨d0, d1, d2⟩ := hw
       go_simp
       try (with_reducible rfl)
      change wpAnyH _ _ _ _ _ _ _ (Act.put _ (some 27) _) _
      simp only [Act.put, List.setIfInBounds_toArray, List.set_cons_zero, List.set_cons_succ]
      refine wpAnyH_take (i := 4) (v := ?_) rfl (by kernel_rfl) (by kernel_rfl) (by kernel_rfl) (fun _ _ _ h => h) (Or.inl ⟨by rfl, ?_⟩) (by assumption) ?_
      rotate_left
      ·intro w hw
       rw [hSS] at hw
       obtain ⟨d0, d1, d2⟩ := hw
       go_simp
       try (with_reducible rfl)
      change wpAnyH _ _ _ _ _ _ _ (Act.put _ (some 28) _) _
      simp only [Act.put, List.setIfInBounds_toArray, List.set_cons_zero, List.set_cons_succ]
      refine wpAnyH_take (i := 5) (v := ?_) rfl (by kernel_rfl) (by kernel_rfl) (by kernel_rfl) (fun _ _ _ h => h) (Or.inl ⟨by rfl, ?_⟩) (by assumption) ?_
      rotate_left
      ·intro w hw
       rw [hSS] at hw
       obtain ⟨d0, d1, d2⟩ := hw
       go_simp
       try (with_reducible rfl)
      change wpAnyH _ _ _ _ _ _ _ (Act.put _ (some 29) _) _
      simp only [Act.put, List.setIfInBounds_toArray, List.set_cons_zero, List.set_cons_succ]
      refine wpAnyH_take (i := 6) (v := ?_) rfl (by kernel_rfl) (by kernel_rfl) (by kernel_rfl) (fun _ _ _ h => h) (Or.inl ⟨by rfl, ?_⟩) (by assumption) ?_
      rotate_left
      ·intro w hw
       rw [hSS] at hw
       obtain ⟨d0, d1, d2⟩ := hw
       go_simp
       try (with_reducible rfl)
      change wpAnyH _ _ _ _ _ _ _ (Act.put _ (some 30) _) _
      simp only [Act.put, List.setIfInBounds_toArray, List.set_cons_zero, List.set_cons_succ]
      refine wpAnyH_take (i := 7) (v := ?_) rfl (by kernel_rfl) (by kernel_rfl) (by kernel_rfl) (fun _ _ _ h => h) (Or.inl ⟨by rfl, ?_⟩) (by assumption) ?_
      rotate_left
      ·intro w hw
       rw [hSS] at hw
       obtain ⟨d0, d1, d2⟩ := hw
       go_simp
       try (with_reducible rfl)
      change wpAnyH _ _ _ _ _ _ _ (Act.put _ (some 31) _) _
      simp only [Act.put, List.setIfInBounds_toArray, List.set_cons_zero, List.set_cons_succ]
      refine wpAnyH_take (i := 8) (v := ?_) rfl (by kernel_rfl) (by kernel_rfl) (by kernel_rfl) (fun _ _ _ h => h) (Or.inl ⟨by rfl, ?_⟩) (by assumption) ?_
      rotate_left
      ·intro w hw
       rw [hSS] at hw
       obtain ⟨d0, d1, d2⟩ := hw
       go_simp
       try (with_reducible rfl)
      change wpAnyH _ _ _ _ _ _ _ (Act.put _ (some 32) _) _
      simp only [Act.put, List.setIfInBounds_toArray, List.set_cons_zero, List.set_cons_succ]
      refine wpAnyH_take (i := 9) (v := ?_) rfl (by kernel_rfl) (by kernel_rfl) (by kernel_rfl) (fun _ _ _ h => h) (Or.inl ⟨by rfl, ?_⟩) (by assumption) ?_
      rotate_left
      ·intro w hw
       rw [hSS] at hw
       obtain ⟨d0, d1, d2⟩ := hw
       go_simp
       try (with_reducible rfl)
      change wpAnyH _ _ _ _ _ _ _ (Act.put _ (some 33) _) _
      simp only [Act.put, List.setIfInBounds_toArray, List.set_cons_zero, List.set_cons_succ]
      refine wpAnyH_take (i := 10) (v := ?_) rfl (by kernel_rfl) (by kernel_rfl) (by kernel_rfl) (fun _ _ _ h => h) (Or.inl ⟨by rfl, ?_⟩) (by assumption) ?_
      rotate_left
      ·intro w hw
       rw [hSS] at hw
       obtain ⟨d0, d1, d2⟩ := hw
       go_simp
       try (with_reducible rfl)
      change wpAnyH _ _ _ _ _ _ _ (Act.put _ (some 34) _) _
      simp only [Act.put, List.setIfInBounds_toArray, List.set_cons_zero, List.set_cons_succ]
      refine wpAnyH_take (i := 11) (v := ?_) rfl (by kernel_rfl) (by kernel_rfl) (by kernel_rfl) (fun _ _ _ h => h) (Or.inl ⟨by rfl, ?_⟩) (by assumption) ?_
      rotate_left
      ·intro w hw
       rw [hSS] at hw
       obtain ⟨d0, d1, d2⟩ := hw
       go_simp
       try (with_reducible rfl)
      change wpAnyH _ _ _ _ _ _ _ (Act.put _ (some 35) _) _
      simp only [Act.put, List.setIfInBounds_toArray, List.set_cons_zero, List.set_cons_succ]
      refine wpAnyH_take (i := 12) (v := ?_) rfl (by kernel_rfl) (by kernel_rfl) (by kernel_rfl) (fun _ _ _ h => h) (Or.inl ⟨by rfl, ?_⟩) (by assumption) ?_
      rotate_left
      ·intro w hw
       rw [hSS] at hw
       obtain ⟨d0, d1, d2⟩ := hw
       go_simp
       try (with_reducible rfl)
      change wpAnyH _ _ _ _ _ _ _ (Act.put _ (some 36) _) _
      simp only [Act.put, List.setIfInBounds_toArray, List.set_cons_zero, List.set_cons_succ]
      refine wpAnyH_take (i := 13) (v := ?_) rfl (by kernel_rfl) (by kernel_rfl) (by kernel_rfl) (fun _ _ _ h => h) (Or.inl ⟨by rfl, ?_⟩) (by assumption) ?_
      rotate_left
      ·intro w hw
       rw [hSS] at hw
       obtain ⟨d0, d1, d2⟩ := hw
       go_simp
       try (with_reducible rfl)
      change wpAnyH _ _ _ _ _ _ _ (Act.put _ (some 37) _) _
      simp only [Act.put, List.setIfInBounds_toArray, List.set_cons_zero, List.set_cons_succ]
      refine wpAnyH_take (i := 14) (v := ?_) rfl (by kernel_rfl) (by kernel_rfl) (by kernel_rfl) (fun _ _ _ h => h) (Or.inl ⟨by rfl, ?_⟩) (by assumption) ?_
      rotate_left
      ·intro w hw
       rw [hSS] at hw
       obtain ⟨d0, d1, d2⟩ := hw
       go_simp
       try (with_reducible rfl)
      change wpAnyH _ _ _ _ _ _ _ (Act.put _ (some 38) _) _
      simp only [Act.put, List.setIfInBounds_toArray, List.set_cons_zero, List.set_cons_succ]
      refine wpAnyH_take (i := 15) (v := ?_) rfl (by kernel_rfl) (by kernel_rfl) (by kernel_rfl) (fun _ _ _ h => h) (Or.inl ⟨by rfl, ?_⟩) (by assumption) ?_
      rotate_left
      ·intro w hw
       rw [hSS] at hw
       obtain ⟨d0, d1, d2⟩ := hw
       go_simp
       try (with_reducible rfl)
      change wpAnyH _ _ _ _ _ _ _ (Act.put _ (some 39) _) _
      simp only [Act.put, List.setIfInBounds_toArray, List.set_cons_zero, List.set_cons_succ]
      refine wpAnyH_take (i := 16) (v := ?_) rfl (by kernel_rfl) (by kernel_rfl) (by kernel_rfl) (fun _ _ _ h => h) (Or.inl ⟨by rfl, ?_⟩) (by assumption) ?_
      rotate_left
      ·intro w hw
       rw [hSS] at hw
       obtain ⟨d0, d1, d2⟩ := hw
       go_simp
       try (with_reducible rfl)
      change wpAnyH _ _ _ _ _ _ _ (Act.put _ (some 40) _) _
      simp only [Act.put, List.setIfInBounds_toArray, List.set_cons_zero, List.set_cons_succ]
      refine wpAnyH_ready (rs := [17]) (by kernel_rfl) (by simp) ?_
      refine AllReadyH.cons rfl (fun K hK => ?_) AllReadyH.nil
      go_simp
      refine Shut.out hK _ _ ?_ (fun hHeld => ?_)
      ·rw [hSS]
       exact ⟨d0, d1, d2⟩
      clear hK K
      refine wpAnyH_ready (rs := [18]) (by kernel_rfl) (by simp) ?_
      refine AllReadyH.cons rfl (fun K hK => ?_) AllReadyH.nil
      go_simp
      refine Shut.out hK _ _ ?_ (fun hHeld => ?_)
      ·rw [hSS]
       refine ⟨?_, ?_, ?_⟩ <;> (refine cell_set (cell_set (cell_set ?_ hne) hne) hne; assumption)
      clear hK K
      refine wpAnyH_ready (rs := [19]) (by kernel_rfl) (by simp) ?_
      refine AllReadyH.cons rfl (fun K hK => ?_) AllReadyH.nil
      go_simp
      refine Shut.out hK _ _ ?_ (fun hHeld => ?_)
      ·rw [hSS]
       refine ⟨?_, ?_, ?_⟩ <;> (refine cell_set (cell_set (cell_set ?_ hne) hne) hne; assumption)
      clear hK K
      refine wpAnyH_done (by kernel_rfl) ?_ _
      go_wp2
      refine bodyPost_ret (v := .tuple #[.int .i64 (n : Int), .agg #[.int .i64 (ky : Nat), .int .i64 0, .int .i64 (tg : Nat)], .bool false]) (by simp [results, Tryd.results59, go_sem, *]) rfl (algP_mk HR3.out rfl ?_ nofun)
      repeat' first
       | exact HS.out
       | refine Fr.drew ?_
       | refine Fr.alloc ?_ _
       | refine Fr.setCell ?_ (.inr (by simp)) _
     ·have b16 : ((iv : Int) != 16) = true := by simp; omega
      have b0 : ((iv : Int) == 0) = false := by simp; omega
      have HR3 := Px.hid (show row false n = some ⟨(n : Int), ky, iv, tg, ly⟩ from HR2.out.trans (by unfold pickR; simp [h16, h0]))
      clear HR2 h16 h0
      go_upto_region 7 with fail
      obtain ⟨w2, hw2⟩ : ∃ w2 : World, w2 = w1.alloc (.cells #[.int .i64 (ky : Nat), .int .i64 (iv : Nat), .int .i64 (tg : Nat)] 67) := ⟨_, rfl⟩
      rw [← hw2]
      have d0 : w2.cell? ⟨w1.heap.size, 0, none⟩ = some (.int .i64 (ky : Nat)) := by rw [hw2]; exact cellOf (heap_alloc_new w1 _) 0 rfl
      have d1 : w2.cell? ⟨w1.heap.size, 1, none⟩ = some (.int .i64 (iv : Nat)) := by rw [hw2]; exact cellOf (heap_alloc_new w1 _) 1 rfl
      have d2 : w2.cell? ⟨w1.heap.size, 2, none⟩ = some (.int .i64 (tg : Nat)) := by rw [hw2]; exact cellOf (heap_alloc_new w1 _) 2 rfl
      have e0 : w2.cell? ⟨w.heap.size, 0, none⟩ = some (.int .i64 0) := by rw [hw2]; exact cell_alloc c0
      have e1 : w2.cell? ⟨w.heap.size, 1, none⟩ = some (.int .i64 0) := by rw [hw2]; exact cell_alloc c1
      have e2 : w2.cell? ⟨w.heap.size, 2, none⟩ = some (.int .i64 0) := by rw [hw2]; exact cell_alloc c2
      have g0 : w2.frozen? ⟨w.heap.size, 0, none⟩ = false := by rw [hw2]; exact (frozen_alloc_some (by simp [c0])).trans f0
      have g1 : w2.frozen? ⟨w.heap.size, 1, none⟩ = false := by rw [hw2]; exact (frozen_alloc_some (by simp [c1])).trans f1
      have g2 : w2.frozen? ⟨w.heap.size, 2, none⟩ = false := by rw [hw2]; exact (frozen_alloc_some (by simp [c2])).trans f2
      have hne : ¬ w1.heap.size = w.heap.size := by omega
      have HS : Hid (Same w w2) := Px.hid (by rw [hw2]; exact Fr.alloc HS.out _)
      clear c0 c1 c2 f0 f1 f2 hw2
      obtain ⟨SS, hSS⟩ : ∃ SS : World → Prop, SS = (fun W : World => W.cell? ⟨w1.heap.size, 0, none⟩ = some (.int .i64 (ky : Nat)) ∧ W.cell? ⟨w1.heap.size, 1, none⟩ = some (.int .i64 (iv : Nat)) ∧ W.cell? ⟨w1.heap.size, 2, none⟩ = some (.int .i64 (tg : Nat))) := ⟨_, rfl⟩
      have hS0 : SS w2.drew := by rw [hSS]; exact ⟨d0, d1, d2⟩
      refine wp_region_held_drew (S := SS) (by kernel_rfl) hS0 (fun hHeld => ?_)
      refine wpAnyH_take (i := 0) (v := ?_) rfl (by kernel_rfl) (by kernel_rfl) (by kernel_rfl) (fun _ _ _ h => h) (Or.inl ⟨by rfl, ?_⟩) (by assumption) ?_
      rotate_left
      ·intro w hw
       rw [hSS] at hw
       obtain ⟨d0, d1, d2⟩ := hw
       go_simp
       try (with_reducible rfl)
      change wpAnyH _ _ _ _ _ _ _ (Act.put _ (some 24) _) _
      simp only [Act.put, List.setIfInBounds_toArray, List.set_cons_zero, List.set_cons_succ]
      refine wpAnyH_take (i := 1) (v := ?_) rfl (by kernel_rfl) (by kernel_rfl) (by kernel_rfl) (fun _ _ _ h => h) (Or.inl ⟨by rfl, ?_⟩) (by assumption) ?_
      rotate_left
      ·intro w hw
       rw [hSS] at hw
       obtain ⟨d0, d1, d2⟩ := hw
       go_simp
       try (with_reducible rfl)
      change wpAnyH _ _ _ _ _ _ _ (Act.put _ (some 25) _) _
      simp only [Act.put, List.setIfInBounds_toArray, List.set_cons_zero, List.set_cons_succ]
      refine wpAnyH_take (i := 2) (v := ?_) rfl (by kernel_rfl) (by kernel_rfl) (by kernel_rfl) (fun _ _ _ h => h) (Or.inl ⟨by rfl, ?_⟩) (by assumption) ?_
      rotate_left
      ·intro w hw
       rw [hSS] at hw
       obtain ⟨d0, d1, d2⟩ := hw
       go_simp
       try (with_reducible rfl)
      change wpAnyH _ _ _ _ _ _ _ (Act.put _ (some 26) _) _
      simp only [Act.put, List.setIfInBounds_toArray, List.set_cons_zero, List.set_cons_succ]
      refine wpAnyH_take (i := 3) (v := ?_) rfl (by kernel_rfl) (by kernel_rfl) (by kernel_rfl) (fun _ _ _ h => h) (Or.inl ⟨by rfl, ?_⟩) (by assumption) ?_
      rotate_left
      ·intro w hw
       rw [hSS] at hw
       obtain ⟨d0, d1, d2⟩ := hw
       go_simp
       try (with_reducible rfl)
      change wpAnyH _ _ _ _ _ _ _ (Act.put _ (some 27) _) _
      simp only [Act.put, List.setIfInBounds_toArray, List.set_cons_zero, List.set_cons_succ]
      refine wpAnyH_take (i := 4) (v := ?_) rfl (by kernel_rfl) (by kernel_rfl) (by kernel_rfl) (fun _ _ _ h => h) (Or.inl ⟨by rfl, ?_⟩) (by assumption) ?_
      rotate_left
      ·intro w hw
       rw [hSS] at hw
       obtain ⟨d0, d1, d2⟩ := hw
       go_simp
       try (with_reducible rfl)
      change wpAnyH _ _ _ _ _ _ _ (Act.put _ (some 28) _) _
      simp only [Act.put, List.setIfInBounds_toArray, List.set_cons_zero, List.set_cons_succ]
      refine wpAnyH_take (i := 5) (v := ?_) rfl (by kernel_rfl) (by kernel_rfl) (by kernel_rfl) (fun _ _ _ h => h) (Or.inl ⟨by rfl, ?_⟩) (by assumption) ?_
      rotate_left
      ·intro w hw
       rw [hSS] at hw
       obtain ⟨d0, d1, d2⟩ := hw
       go_simp
       try (with_reducible rfl)
      change wpAnyH _ _ _ _ _ _ _ (Act.put _ (some 29) _) _
      simp only [Act.put, List.setIfInBounds_toArray, List.set_cons_zero, List.set_cons_succ]
      refine wpAnyH_take (i := 6) (v := ?_) rfl (by kernel_rfl) (by kernel_rfl) (by kernel_rfl) (fun _ _ _ h => h) (Or.inl ⟨by rfl, ?_⟩) (by assumption) ?_
      rotate_left
      ·intro w hw
       rw [hSS] at hw
       obtain ⟨d0, d1, d2⟩ := hw
       go_simp
       try (with_reducible rfl)
      change wpAnyH _ _ _ _ _ _ _ (Act.put _ (some 30) _) _
      simp only [Act.put, List.setIfInBounds_toArray, List.set_cons_zero, List.set_cons_succ]
      refine wpAnyH_take (i := 7) (v := ?_) rfl (by kernel_rfl) (by kernel_rfl) (by kernel_rfl) (fun _ _ _ h => h) (Or.inl ⟨by rfl, ?_⟩) (by assumption) ?_
      rotate_left
      ·intro w hw
       rw [hSS] at hw
       obtain ⟨d0, d1, d2⟩ := hw
       go_simp
       try (with_reducible rfl)
      change wpAnyH _ _ _ _ _ _ _ (Act.put _ (some 31) _) _
      simp only [Act.put, List.setIfInBounds_toArray, List.set_cons_zero, List.set_cons_succ]
      refine wpAnyH_take (i := 8) (v := ?_) rfl (by kernel_rfl) (by kernel_rfl) (by kernel_rfl) (fun _ _ _ h => h) (Or.inl ⟨by rfl, ?_⟩) (by assumption) ?_
      rotate_left
      ·intro w hw
       rw [hSS] at hw
       obtain ⟨d0, d1, d2⟩ := hw
       go_simp
       try (with_reducible rfl)
      change wpAnyH _ _ _ _ _ _ _ (Act.put _ (some 32) _) _
      simp only [Act.put, List.setIfInBounds_toArray, List.set_cons_zero, List.set_cons_succ]
      refine wpAnyH_take (i := 9) (v := ?_) rfl (by kernel_rfl) (by kernel_rfl) (by kernel_rfl) (fun _ _ _ h => h) (Or.inl ⟨by rfl, ?_⟩) (by assumption) ?_
      rotate_left
      ·intro w hw
       rw [hSS] at hw
       obtain ⟨d0, d1, d2⟩ := hw
       go_simp
       try (with_reducible rfl)
      change wpAnyH _ _ _ _ _ _ _ (Act.put _ (some 33) _) _
      simp only [Act.put, List.setIfInBounds_toArray, List.set_cons_zero, List.set_cons_succ]
      refine wpAnyH_take (i := 10) (v := ?_) rfl (by kernel_rfl) (by kernel_rfl) (by kernel_rfl) (fun _ _ _ h => h) (Or.inl ⟨by rfl, ?_⟩) (by assumption) ?_
      rotate_left
      ·intro w hw
       rw [hSS] at hw
       obtain ⟨d0, d1, d2⟩ := hw
       go_simp
       try (with_reducible rfl)
      change wpAnyH _ _ _ _ _ _ _ (Act.put _ (some 34) _) _
      simp only [Act.put, List.setIfInBounds_toArray, List.set_cons_zero, List.set_cons_succ]
      refine wpAnyH_take (i := 11) (v := ?_) rfl (by kernel_rfl) (by kernel_rfl) (by kernel_rfl) (fun _ _ _ h => h) (Or.inl ⟨by rfl, ?_⟩) (by assumption) ?_
      rotate_left
      ·intro w hw
       rw [hSS] at hw
       obtain ⟨d0, d1, d2⟩ := hw
       go_simp
       try (with_reducible rfl)
      change wpAnyH _ _ _ _ _ _ _ (Act.put _ (some 35) _) _
      simp only [Act.put, List.setIfInBounds_toArray, List.set_cons_zero, List.set_cons_succ]
      refine wpAnyH_take (i := 12) (v := ?_) rfl (by kernel_rfl) (by kernel_rfl) (by kernel_rfl) (fun _ _ _ h => h) (Or.inl ⟨by rfl, ?_⟩) (by assumption) ?_
      rotate_left
      ·intro w hw
       rw [hSS] at hw
       obtain ⟨d0, d1, d2⟩ := hw
       go_simp
       try (with_reducible rfl)
      change wpAnyH _ _ _ _ _ _ _ (Act.put _ (some 36) _) _
      simp only [Act.put, List.setIfInBounds_toArray, List.set_cons_zero, List.set_cons_succ]
      refine wpAnyH_take (i := 13) (v := ?_) rfl (by kernel_rfl) (by kernel_rfl) (by kernel_rfl) (fun _ _ _ h => h) (Or.inl ⟨by rfl, ?_⟩) (by assumption) ?_
      rotate_left
      ·intro w hw
       rw [hSS] at hw
       obtain ⟨d0, d1, d2⟩ := hw
       go_simp
       try (with_reducible rfl)
      change wpAnyH _ _ _ _ _ _ _ (Act.put _ (some 37) _) _
      simp only [Act.put, List.setIfInBounds_toArray, List.set_cons_zero, List.set_cons_succ]
      refine wpAnyH_take (i := 14) (v := ?_) rfl (by kernel_rfl) (by kernel_rfl) (by kernel_rfl) (fun _ _ _ h => h) (Or.inl ⟨by rfl, ?_⟩) (by assumption) ?_
      rotate_left
      ·intro w hw
       rw [hSS] at hw
       obtain ⟨d0, d1, d2⟩ := hw
       go_simp
       try (with_reducible rfl)
      change wpAnyH _ _ _ _ _ _ _ (Act.put _ (some 38) _) _
      simp only [Act.put, List.setIfInBounds_toArray, List.set_cons_zero, List.set_cons_succ]
      refine wpAnyH_take (i := 15) (v := ?_) rfl (by kernel_rfl) (by kernel_rfl) (by kernel_rfl) (fun _ _ _ h => h) (Or.inl ⟨by rfl, ?_⟩) (by assumption) ?_
      rotate_left
      ·intro w hw
       rw [hSS] at hw
       obtain ⟨d0, d1, d2⟩ := hw
       go_simp
       try (with_reducible rfl)
      change wpAnyH _ _ _ _ _ _ _ (Act.put _ (some 39) _) _
      simp only [Act.put, List.setIfInBounds_toArray, List.set_cons_zero, List.set_cons_succ]
      refine wpAnyH_take (i := 16) (v := ?_) rfl (by kernel_rfl) (by kernel_rfl) (by kernel_rfl) (fun _ _ _ h => h) (Or.inl ⟨by rfl, ?_⟩) (by assumption) ?_
      rotate_left
      ·intro w hw
       rw [hSS] at hw
       obtain ⟨d0, d1, d2⟩ := hw
       go_simp
       try (with_reducible rfl)
      change wpAnyH _ _ _ _ _ _ _ (Act.put _ (some 40) _) _
      simp only [Act.put, List.setIfInBounds_toArray, List.set_cons_zero, List.set_cons_succ]
      refine wpAnyH_ready (rs := [17]) (by kernel_rfl) (by simp) ?_
      refine AllReadyH.cons rfl (fun K hK => ?_) AllReadyH.nil
      go_simp
      refine Shut.out hK _ _ ?_ (fun hHeld => ?_)
      ·rw [hSS]
       exact ⟨d0, d1, d2⟩
      clear hK K
      refine wpAnyH_ready (rs := [18]) (by kernel_rfl) (by simp) ?_
      refine AllReadyH.cons rfl (fun K hK => ?_) AllReadyH.nil
      go_simp
      refine Shut.out hK _ _ ?_ (fun hHeld => ?_)
      ·rw [hSS]
       refine ⟨?_, ?_, ?_⟩ <;> (refine cell_set (cell_set (cell_set ?_ hne) hne) hne; assumption)
      clear hK K
      refine wpAnyH_ready (rs := [19]) (by kernel_rfl) (by simp) ?_
      refine AllReadyH.cons rfl (fun K hK => ?_) AllReadyH.nil
      go_simp
      refine Shut.out hK _ _ ?_ (fun hHeld => ?_)
      ·rw [hSS]
       refine ⟨?_, ?_, ?_⟩ <;> (refine cell_set (cell_set (cell_set ?_ hne) hne) hne; assumption)
      clear hK K
      refine wpAnyH_done (by kernel_rfl) ?_ _
      go_wp2
      refine bodyPost_ret (v := .tuple #[.int .i64 (n : Int), .agg #[.int .i64 (ky : Nat), .int .i64 (iv : Nat), .int .i64 (tg : Nat)], .bool true]) (by simp [results, Tryd.results59, go_sem, *]) rfl (algP_mk HR3.out rfl ?_ (fun r e => by cases e; exact ⟨rfl, rfl, rfl, rfl⟩))
      repeat' first
       | exact HS.out
       | refine Fr.drew ?_
       | refine Fr.alloc ?_ _
       | refine Fr.setCell ?_ (.inr (by simp)) _
  ·obtain ⟨o, ho⟩ : ∃ o, o = rowOf ((n : Int) + 100) := ⟨_, rfl⟩
   have HR2 := Px.hid (show row true n = pickR true o by rw [HR.out, ho]; rfl)
   have HM := Px.hid (show ∀ r, o = some r → r.alg = ((n : Int) + 100) from fun r h => (rowOf_mem (by rw [← ho, h])).2)
   rw [← ho]
   clear ho HR
   cases o with
   | none =>
    have HR3 := Px.hid (show row true n = none from HR2.out)
    rw [show suiteV none = .tuple #[.agg #[.int .i64 0, .int .i64 0, .int .i64 0], .int .i64 11] from rfl]
    clear HM HR2
    go_upto_region 7 with fail
    obtain ⟨w2, hw2⟩ : ∃ w2 : World, w2 = w1.alloc (.cells #[.int .i64 0, .int .i64 0, .int .i64 0] 67) := ⟨_, rfl⟩
    rw [← hw2]
    have d0 : w2.cell? ⟨w1.heap.size, 0, none⟩ = some (.int .i64 0) := by rw [hw2]; exact cellOf (heap_alloc_new w1 _) 0 rfl
    have d1 : w2.cell? ⟨w1.heap.size, 1, none⟩ = some (.int .i64 0) := by rw [hw2]; exact cellOf (heap_alloc_new w1 _) 1 rfl
    have d2 : w2.cell? ⟨w1.heap.size, 2, none⟩ = some (.int .i64 0) := by rw [hw2]; exact cellOf (heap_alloc_new w1 _) 2 rfl
    have e0 : w2.cell? ⟨w.heap.size, 0, none⟩ = some (.int .i64 0) := by rw [hw2]; exact cell_alloc c0
    have e1 : w2.cell? ⟨w.heap.size, 1, none⟩ = some (.int .i64 0) := by rw [hw2]; exact cell_alloc c1
    have e2 : w2.cell? ⟨w.heap.size, 2, none⟩ = some (.int .i64 0) := by rw [hw2]; exact cell_alloc c2
    have g0 : w2.frozen? ⟨w.heap.size, 0, none⟩ = false := by rw [hw2]; exact (frozen_alloc_some (by simp [c0])).trans f0
    have g1 : w2.frozen? ⟨w.heap.size, 1, none⟩ = false := by rw [hw2]; exact (frozen_alloc_some (by simp [c1])).trans f1
    have g2 : w2.frozen? ⟨w.heap.size, 2, none⟩ = false := by rw [hw2]; exact (frozen_alloc_some (by simp [c2])).trans f2
    have hne : ¬ w1.heap.size = w.heap.size := by omega
    have HS : Hid (Same w w2) := Px.hid (by rw [hw2]; exact Fr.alloc HS.out _)
    clear c0 c1 c2 f0 f1 f2 hw2
    obtain ⟨SS, hSS⟩ : ∃ SS : World → Prop, SS = (fun W : World => W.cell? ⟨w1.heap.size, 0, none⟩ = some (.int .i64 0) ∧ W.cell? ⟨w1.heap.size, 1, none⟩ = some (.int .i64 0) ∧ W.cell? ⟨w1.heap.size, 2, none⟩ = some (.int .i64 0)) := ⟨_, rfl⟩
    have hS0 : SS w2.drew := by rw [hSS]; exact ⟨d0, d1, d2⟩
    refine wp_region_held_drew (S := SS) (by kernel_rfl) hS0 (fun hHeld => ?_)
    refine wpAnyH_take (i := 0) (v := ?_) rfl (by kernel_rfl) (by kernel_rfl) (by kernel_rfl) (fun _ _ _ h => h) (Or.inl ⟨by rfl, ?_⟩) (by assumption) ?_
    rotate_left
    ·intro w hw
     rw [hSS] at hw
     obtain ⟨d0, d1, d2⟩ := hw
     go_simp
     try (with_reducible rfl)
    change wpAnyH _ _ _ _ _ _ _ (Act.put _ (some 24) _) _
    simp only [Act.put, List.setIfInBounds_toArray, List.set_cons_zero, List.set_cons_succ]
    refine wpAnyH_take (i := 1) (v := ?_) rfl (by kernel_rfl) (by kernel_rfl) (by kernel_rfl) (fun _ _ _ h => h) (Or.inl ⟨by rfl, ?_⟩) (by assumption) ?_
    rotate_left
    ·intro w hw
     rw [hSS] at hw
     obtain ⟨d0, d1, d2⟩ := hw
     go_simp
     try (with_reducible rfl)
    change wpAnyH _ _ _ _ _ _ _ (Act.put _ (some 25) _) _
    simp only [Act.put, List.setIfInBounds_toArray, List.set_cons_zero, List.set_cons_succ]
    refine wpAnyH_take (i := 2) (v := ?_) rfl (by kernel_rfl) (by kernel_rfl) (by kernel_rfl) (fun _ _ _ h => h) (Or.inl ⟨by rfl, ?_⟩) (by assumption) ?_
    rotate_left
    ·intro w hw
     rw [hSS] at hw
     obtain ⟨d0, d1, d2⟩ := hw
     go_simp
     try (with_reducible rfl)
    change wpAnyH _ _ _ _ _ _ _ (Act.put _ (some 26) _) _
    simp only [Act.put, List.setIfInBounds_toArray, List.set_cons_zero, List.set_cons_succ]
    refine wpAnyH_take (i := 3) (v := ?_) rfl (by kernel_rfl) (by kernel_rfl) (by kernel_rfl) (fun _ _ _ h => h) (Or.inl ⟨by rfl, ?_⟩) (by assumption) ?_
    rotate_left
    ·intro w hw
     rw [hSS] at hw
     obtain ⟨d0, d1, d2⟩ := hw
     go_simp
     try (with_reducible rfl)
    change wpAnyH _ _ _ _ _ _ _ (Act.put _ (some 27) _) _
    simp only [Act.put, List.setIfInBounds_toArray, List.set_cons_zero, List.set_cons_succ]
    refine wpAnyH_take (i := 4) (v := ?_) rfl (by kernel_rfl) (by kernel_rfl) (by kernel_rfl) (fun _ _ _ h => h) (Or.inl ⟨by rfl, ?_⟩) (by assumption) ?_
    rotate_left
    ·intro w hw
     rw [hSS] at hw
     obtain ⟨d0, d1, d2⟩ := hw
     go_simp
     try (with_reducible rfl)
    change wpAnyH _ _ _ _ _ _ _ (Act.put _ (some 28) _) _
    simp only [Act.put, List.setIfInBounds_toArray, List.set_cons_zero, List.set_cons_succ]
    refine wpAnyH_take (i := 5) (v := undef) rfl (by kernel_rfl) (by kernel_rfl) (by kernel_rfl) (fun _ _ _ h => h) (Or.inr ⟨by rfl, rfl⟩) (by assumption) ?_
    change wpAnyH _ _ _ _ _ _ _ (Act.put _ (some 29) _) _
    simp only [Act.put, List.setIfInBounds_toArray, List.set_cons_zero, List.set_cons_succ]
    refine wpAnyH_take (i := 6) (v := undef) rfl (by kernel_rfl) (by kernel_rfl) (by kernel_rfl) (fun _ _ _ h => h) (Or.inr ⟨by rfl, rfl⟩) (by assumption) ?_
    change wpAnyH _ _ _ _ _ _ _ (Act.put _ (some 30) _) _
    simp only [Act.put, List.setIfInBounds_toArray, List.set_cons_zero, List.set_cons_succ]
    refine wpAnyH_take (i := 7) (v := undef) rfl (by kernel_rfl) (by kernel_rfl) (by kernel_rfl) (fun _ _ _ h => h) (Or.inr ⟨by rfl, rfl⟩) (by assumption) ?_
    change wpAnyH _ _ _ _ _ _ _ (Act.put _ (some 31) _) _
    simp only [Act.put, List.setIfInBounds_toArray, List.set_cons_zero, List.set_cons_succ]
    refine wpAnyH_take (i := 8) (v := ?_) rfl (by kernel_rfl) (by kernel_rfl) (by kernel_rfl) (fun _ _ _ h => h) (Or.inl ⟨by rfl, ?_⟩) (by assumption) ?_
    rotate_left
    ·intro w hw
     rw [hSS] at hw
     obtain ⟨d0, d1, d2⟩ := hw
     go_simp
     try (with_reducible rfl)
    change wpAnyH _ _ _ _ _ _ _ (Act.put _ (some 32) _) _
    simp only [Act.put, List.setIfInBounds_toArray, List.set_cons_zero, List.set_cons_succ]
    refine wpAnyH_take (i := 9) (v := ?_) rfl (by kernel_rfl) (by kernel_rfl) (by kernel_rfl) (fun _ _ _ h => h) (Or.inl ⟨by rfl, ?_⟩) (by assumption) ?_
    rotate_left
    ·intro w hw
     rw [hSS] at hw
     obtain ⟨d0, d1, d2⟩ := hw
     go_simp
     try (with_reducible rfl)
    change wpAnyH _ _ _ _ _ _ _ (Act.put _ (some 33) _) _
    simp only [Act.put, List.setIfInBounds_toArray, List.set_cons_zero, List.set_cons_succ]
    refine wpAnyH_take (i := 10) (v := undef) rfl (by kernel_rfl) (by kernel_rfl) (by kernel_rfl) (fun _ _ _ h => h) (Or.inr ⟨by rfl, rfl⟩) (by assumption) ?_
    change wpAnyH _ _ _ _ _ _ _ (Act.put _ (some 34) _) _
    simp only [Act.put, List.setIfInBounds_toArray, List.set_cons_zero, List.set_cons_succ]
    refine wpAnyH_take (i := 11) (v := undef) rfl (by kernel_rfl) (by kernel_rfl) (by kernel_rfl) (fun _ _ _ h => h) (Or.inr ⟨by rfl, rfl⟩) (by assumption) ?_
    change wpAnyH _ _ _ _ _ _ _ (Act.put _ (some 35) _) _
    simp only [Act.put, List.setIfInBounds_toArray, List.set_cons_zero, List.set_cons_succ]
    refine wpAnyH_take (i := 12) (v := undef) rfl (by kernel_rfl) (by kernel_rfl) (by kernel_rfl) (fun _ _ _ h => h) (Or.inr ⟨by rfl, rfl⟩) (by assumption) ?_
    change wpAnyH _ _ _ _ _ _ _ (Act.put _ (some 36) _) _
    simp only [Act.put, List.setIfInBounds_toArray, List.set_cons_zero, List.set_cons_succ]
    refine wpAnyH_take (i := 13) (v := undef) rfl (by kernel_rfl) (by kernel_rfl) (by kernel_rfl) (fun _ _ _ h => h) (Or.inr ⟨by rfl, rfl⟩) (by assumption) ?_
    change wpAnyH _ _ _ _ _ _ _ (Act.put _ (some 37) _) _
    simp only [Act.put, List.setIfInBounds_toArray, List.set_cons_zero, List.set_cons_succ]
    refine wpAnyH_take (i := 14) (v := undef) rfl (by kernel_rfl) (by kernel_rfl) (by kernel_rfl) (fun _ _ _ h => h) (Or.inr ⟨by rfl, rfl⟩) (by assumption) ?_
    change wpAnyH _ _ _ _ _ _ _ (Act.put _ (some 38) _) _
    simp only [Act.put, List.setIfInBounds_toArray, List.set_cons_zero, List.set_cons_succ]
    refine wpAnyH_take (i := 15) (v := undef) rfl (by kernel_rfl) (by kernel_rfl) (by kernel_rfl) (fun _ _ _ h => h) (Or.inr ⟨by rfl, rfl⟩) (by assumption) ?_
    change wpAnyH _ _ _ _ _ _ _ (Act.put _ (some 39) _) _
    simp only [Act.put, List.setIfInBounds_toArray, List.set_cons_zero, List.set_cons_succ]
    refine wpAnyH_take (i := 16) (v := ?_) rfl (by kernel_rfl) (by kernel_rfl) (by kernel_rfl) (fun _ _ _ h => h) (Or.inl ⟨by rfl, ?_⟩) (by assumption) ?_
    rotate_left
    ·intro w hw
     rw [hSS] at hw
     obtain ⟨d0, d1, d2⟩ := hw
     go_simp
     try (with_reducible rfl)
    change wpAnyH _ _ _ _ _ _ _ (Act.put _ (some 40) _) _
    simp only [Act.put, List.setIfInBounds_toArray, List.set_cons_zero, List.set_cons_succ]
    refine wpAnyH_ready (rs := [17]) (by kernel_rfl) (by simp) ?_
    refine AllReadyH.cons rfl (fun K hK => ?_) AllReadyH.nil
    go_simp
    refine Shut.out hK _ _ ?_ (fun hHeld => ?_)
    ·rw [hSS]
     exact ⟨d0, d1, d2⟩
    clear hK K
    refine wpAnyH_ready (rs := [18]) (by kernel_rfl) (by simp) ?_
    refine AllReadyH.cons rfl (fun K hK => ?_) AllReadyH.nil
    go_simp
    refine Shut.out hK _ _ ?_ (fun hHeld => ?_)
    ·rw [hSS]
     refine ⟨?_, ?_, ?_⟩ <;> (refine cell_set (cell_set (cell_set ?_ hne) hne) hne; assumption)
    clear hK K
    refine wpAnyH_ready (rs := [19]) (by kernel_rfl) (by simp) ?_
    refine AllReadyH.cons rfl (fun K hK => ?_) AllReadyH.nil
    go_simp
    refine Shut.out hK _ _ ?_ (fun hHeld => ?_)
    ·rw [hSS]
     refine ⟨?_, ?_, ?_⟩ <;> (refine cell_set (cell_set (cell_set ?_ hne) hne) hne; assumption)
    clear hK K
    refine wpAnyH_done (by kernel_rfl) ?_ _
    go_wp2
    refine bodyPost_ret (v := .tuple #[.int .i64 ((n : Int) + 100), .agg #[.int .i64 0, .int .i64 0, .int .i64 0], .bool false]) (by simp [results, Tryd.results59, go_sem, *]) rfl (algP_mk HR3.out rfl ?_ nofun)
    repeat' first
     | exact HS.out
     | refine Fr.drew ?_
     | refine Fr.alloc ?_ _
     | refine Fr.setCell ?_ (.inr (by simp)) _
   | some r =>
    obtain ⟨al, ky, iv, tg, ly⟩ := r
    have hal : al = ((n : Int) + 100) := HM.out _ rfl
    subst hal
    rw [show suiteV (some ⟨((n : Int) + 100), ky, iv, tg, ly⟩) = .tuple #[.agg #[.int .i64 (ky : Nat), .int .i64 (iv : Nat), .int .i64 (tg : Nat)], .int .i64 0] from rfl]
    clear HM
    by_cases h16 : iv = 16
    ·subst h16
     have HR3 := Px.hid (show row true n = none from HR2.out)
     clear HR2
     go_upto_region 7 with fail
     obtain ⟨w2, hw2⟩ : ∃ w2 : World, w2 = w1.alloc (.cells #[.int .i64 (ky : Nat), .int .i64 16, .int .i64 (tg : Nat)] 67) := ⟨_, rfl⟩
     rw [← hw2]
     have d0 : w2.cell? ⟨w1.heap.size, 0, none⟩ = some (.int .i64 (ky : Nat)) := by rw [hw2]; exact cellOf (heap_alloc_new w1 _) 0 rfl
     have d1 : w2.cell? ⟨w1.heap.size, 1, none⟩ = some (.int .i64 16) := by rw [hw2]; exact cellOf (heap_alloc_new w1 _) 1 rfl
     have d2 : w2.cell? ⟨w1.heap.size, 2, none⟩ = some (.int .i64 (tg : Nat)) := by rw [hw2]; exact cellOf (heap_alloc_new w1 _) 2 rfl
     have e0 : w2.cell? ⟨w.heap.size, 0, none⟩ = some (.int .i64 0) := by rw [hw2]; exact cell_alloc c0
     have e1 : w2.cell? ⟨w.heap.size, 1, none⟩ = some (.int .i64 0) := by rw [hw2]; exact cell_alloc c1
     have e2 : w2.cell? ⟨w.heap.size, 2, none⟩ = some (.int .i64 0) := by rw [hw2]; exact cell_alloc c2
     have g0 : w2.frozen? ⟨w.heap.size, 0, none⟩ = false := by rw [hw2]; exact (frozen_alloc_some (by simp [c0])).trans f0
     have g1 : w2.frozen? ⟨w.heap.size, 1, none⟩ = false := by rw [hw2]; exact (frozen_alloc_some (by simp [c1])).trans f1
     have g2 : w2.frozen? ⟨w.heap.size, 2, none⟩ = false := by rw [hw2]; exact (frozen_alloc_some (by simp [c2])).trans f2
     have hne : ¬ w1.heap.size = w.heap.size := by omega
     have HS : Hid (Same w w2) := Px.hid (by rw [hw2]; exact Fr.alloc HS.out _)
     clear c0 c1 c2 f0 f1 f2 hw2
     obtain ⟨SS, hSS⟩ : ∃ SS : World → Prop, SS = (fun W : World => W.cell? ⟨w1.heap.size, 0, none⟩ = some (.int .i64 (ky : Nat)) ∧ W.cell? ⟨w1.heap.size, 1, none⟩ = some (.int .i64 16) ∧ W.cell? ⟨w1.heap.size, 2, none⟩ = some (.int .i64 (tg : Nat))) := ⟨_, rfl⟩
     have hS0 : SS w2.drew := by rw [hSS]; exact ⟨d0, d1, d2⟩
     refine wp_region_held_drew (S := SS) (by kernel_rfl) hS0 (fun hHeld => ?_)
     refine wpAnyH_take (i := 0) (v := ?_) rfl (by kernel_rfl) (by kernel_rfl) (by kernel_rfl) (fun _ _ _ h => h) (Or.inl ⟨by rfl, ?_⟩) (by assumption) ?_
     rotate_left
     ·intro w hw
      rw [hSS] at hw
      obtain ⟨d0, d1, d2⟩ := hw
      go_simp
      try (with_reducible rfl)
     change wpAnyH _ _ _ _ _ _ _ (Act.put _ (some 24) _) _
     simp only [Act.put, List.setIfInBounds_toArray, List.set_cons_zero, List.set_cons_succ]
     refine wpAnyH_take (i := 1) (v := ?_) rfl (by kernel_rfl) (by kernel_rfl) (by kernel_rfl) (fun _ _ _ h => h) (Or.inl ⟨by rfl, ?_⟩) (by assumption) ?_
     rotate_left
     ·intro w hw
      rw [hSS] at hw
      obtain ⟨d0, d1, d2⟩ := hw
      go_simp
      try (with_reducible rfl)
     change wpAnyH _ _ _ _ _ _ _ (Act.put _ (some 25) _) _
     simp only [Act.put, List.setIfInBounds_toArray, List.set_cons_zero, List.set_cons_succ]
     refine wpAnyH_take (i := 2) (v := ?_) rfl (by kernel_rfl) (by kernel_rfl) (by kernel_rfl) (fun _ _ _ h => h) (Or.inl ⟨by rfl, ?_⟩) (by assumption) ?_
     rotate_left
     ·intro w hw
      rw [hSS] at hw
      obtain ⟨d0, d1, d2⟩ := hw
      go_simp
      try (with_reducible rfl)
     change wpAnyH _ _ _ _ _ _ _ (Act.put _ (some 26) _) _
     simp only [Act.put, List.setIfInBounds_toArray, List.set_cons_zero, List.set_cons_succ]
     refine wpAnyH_take (i := 3) (v := ?_) rfl (by kernel_rfl) (by kernel_rfl) (by kernel_rfl) (fun _ _ _ h => h) (Or.inl ⟨by rfl, ?_⟩) (by assumption) ?_
     rotate_left
     ·intro w hw
      rw [hSS] at hw
      obtain ⟨d0, d1, d2⟩ := hw
      go_simp
      try (with_reducible rfl)
     change wpAnyH _ _ _ _ _ _ _ (Act.put _ (some 27) _) _
     simp only [Act.put, List.setIfInBounds_toArray, List.set_cons_zero, List.set_cons_succ]
     refine wpAnyH_take (i := 4) (v := ?_) rfl (by kernel_rfl) (by kernel_rfl) (by kernel_rfl) (fun _ _ _ h => h) (Or.inl ⟨by rfl, ?_⟩) (by assumption) ?_
     rotate_left
     ·intro w hw
      rw [hSS] at hw
      obtain ⟨d0, d1, d2⟩ := hw
      go_simp
      try (with_reducible rfl)
     change wpAnyH _ _ _ _ _ _ _ (Act.put _ (some 28) _) _
     simp only [Act.put, List.setIfInBounds_toArray, List.set_cons_zero, List.set_cons_succ]
     refine wpAnyH_take (i := 5) (v := ?_) rfl (by kernel_rfl) (by kernel_rfl) (by kernel_rfl) (fun _ _ _ h => h) (Or.inl ⟨by rfl, ?_⟩) (by assumption) ?_
     rotate_left
     ·intro w hw
      rw [hSS] at hw
      obtain ⟨d0, d1, d2⟩ := hw
      go_simp
      try (with_reducible rfl)
     change wpAnyH _ _ _ _ _ _ _ (Act.put _ (some 29) _) _
     simp only [Act.put, List.setIfInBounds_toArray, List.set_cons_zero, List.set_cons_succ]
     refine wpAnyH_take (i := 6) (v := ?_) rfl (by kernel_rfl) (by kernel_rfl) (by kernel_rfl) (fun _ _ _ h => h) (Or.inl ⟨by rfl, ?_⟩) (by assumption) ?_
     rotate_left
     ·intro w hw
      rw [hSS] at hw
      obtain ⟨d0, d1, d2⟩ := hw
      go_simp
      try (with_reducible rfl)
     change wpAnyH _ _ _ _ _ _ _ (Act.put _ (some 30) _) _
     simp only [Act.put, List.setIfInBounds_toArray, List.set_cons_zero, List.set_cons_succ]
     refine wpAnyH_take (i := 7) (v := ?_) rfl (by kernel_rfl) (by kernel_rfl) (by kernel_rfl) (fun _ _ _ h => h) (Or.inl ⟨by rfl, ?_⟩) (by assumption) ?_
     rotate_left
     ·intro w hw
      rw [hSS] at hw
      obtain ⟨d0, d1, d2⟩ := hw
      go_simp
      try (with_reducible rfl)
     change wpAnyH _ _ _ _ _ _ _ (Act.put _ (some 31) _) _
     simp only [Act.put, List.setIfInBounds_toArray, List.set_cons_zero, List.set_cons_succ]
     refine wpAnyH_take (i := 8) (v := ?_) rfl (by kernel_rfl) (by kernel_rfl) (by kernel_rfl) (fun _ _ _ h => h) (Or.inl ⟨by rfl, ?_⟩) (by assumption) ?_
     rotate_left
     ·intro w hw
      rw [hSS] at hw
      obtain ⟨d0, d1, d2⟩ := hw
      go_simp
      try (with_reducible rfl)
     change wpAnyH _ _ _ _ _ _ _ (Act.put _ (some 32) _) _
     simp only [Act.put, List.setIfInBounds_toArray, List.set_cons_zero, List.set_cons_succ]
     refine wpAnyH_take (i := 9) (v := ?_) rfl (by kernel_rfl) (by kernel_rfl) (by kernel_rfl) (fun _ _ _ h => h) (Or.inl ⟨by rfl, ?_⟩) (by assumption) ?_
     rotate_left
     ·intro w hw
      rw [hSS] at hw
      obtain ⟨d0, d1, d2⟩ := hw
      go_simp
      try (with_reducible rfl)
     change wpAnyH _ _ _ _ _ _ _ (Act.put _ (some 33) _) _
     simp only [Act.put, List.setIfInBounds_toArray, List.set_cons_zero, List.set_cons_succ]
     refine wpAnyH_take (i := 10) (v := undef) rfl (by kernel_rfl) (by kernel_rfl) (by kernel_rfl) (fun _ _ _ h => h) (Or.inr ⟨by rfl, rfl⟩) (by assumption) ?_
     change wpAnyH _ _ _ _ _ _ _ (Act.put _ (some 34) _) _
     simp only [Act.put, List.setIfInBounds_toArray, List.set_cons_zero, List.set_cons_succ]
     refine wpAnyH_take (i := 11) (v := undef) rfl (by kernel_rfl) (by kernel_rfl) (by kernel_rfl) (fun _ _ _ h => h) (Or.inr ⟨by rfl, rfl⟩) (by assumption) ?_
     change wpAnyH _ _ _ _ _ _ _ (Act.put _ (some 35) _) _
     simp only [Act.put, List.setIfInBounds_toArray, List.set_cons_zero, List.set_cons_succ]
     refine wpAnyH_take (i := 12) (v := undef) rfl (by kernel_rfl) (by kernel_rfl) (by kernel_rfl) (fun _ _ _ h => h) (Or.inr ⟨by rfl, rfl⟩) (by assumption) ?_
     change wpAnyH _ _ _ _ _ _ _ (Act.put _ (some 36) _) _
     simp only [Act.put, List.setIfInBounds_toArray, List.set_cons_zero, List.set_cons_succ]
     refine wpAnyH_take (i := 13) (v := undef) rfl (by kernel_rfl) (by kernel_rfl) (by kernel_rfl) (fun _ _ _ h => h) (Or.inr ⟨by rfl, rfl⟩) (by assumption) ?_
     change wpAnyH _ _ _ _ _ _ _ (Act.put _ (some 37) _) _
     simp only [Act.put, List.setIfInBounds_toArray, List.set_cons_zero, List.set_cons_succ]
     refine wpAnyH_take (i := 14) (v := undef) rfl (by kernel_rfl) (by kernel_rfl) (by kernel_rfl) (fun _ _ _ h => h) (Or.inr ⟨by rfl, rfl⟩) (by assumption) ?_
     change wpAnyH _ _ _ _ _ _ _ (Act.put _ (some 38) _) _
     simp only [Act.put, List.setIfInBounds_toArray, List.set_cons_zero, List.set_cons_succ]
     refine wpAnyH_take (i := 15) (v := undef) rfl (by kernel_rfl) (by kernel_rfl) (by kernel_rfl) (fun _ _ _ h => h) (Or.inr ⟨by rfl, rfl⟩) (by assumption) ?_
     change wpAnyH _ _ _ _ _ _ _ (Act.put _ (some 39) _) _
     simp only [Act.put, List.setIfInBounds_toArray, List.set_cons_zero, List.set_cons_succ]
     refine wpAnyH_take (i := 16) (v := ?_) rfl (by kernel_rfl) (by kernel_rfl) (by kernel_rfl) (fun _ _ _ h => h) (Or.inl ⟨by rfl, ?_⟩) (by assumption) ?_
     rotate_left
     ·intro w hw
      rw [hSS] at hw
      obtain ⟨d0, d1, d2⟩ := hw
      go_simp
      try (with_reducible rfl)
     change wpAnyH _ _ _ _ _ _ _ (Act.put _ (some 40) _) _
     simp only [Act.put, List.setIfInBounds_toArray, List.set_cons_zero, List.set_cons_succ]
     refine wpAnyH_ready (rs := [17]) (by kernel_rfl) (by simp) ?_
     refine AllReadyH.cons rfl (fun K hK => ?_) AllReadyH.nil
     go_simp
     refine Shut.out hK _ _ ?_ (fun hHeld => ?_)
     ·rw [hSS]
      exact ⟨d0, d1, d2⟩
     clear hK K
     refine wpAnyH_ready (rs := [18]) (by kernel_rfl) (by simp) ?_
     refine AllReadyH.cons rfl (fun K hK => ?_) AllReadyH.nil
     go_simp
     refine Shut.out hK _ _ ?_ (fun hHeld => ?_)
     ·rw [hSS]
      refine ⟨?_, ?_, ?_⟩ <;> (refine cell_set (cell_set (cell_set ?_ hne) hne) hne; assumption)
     clear hK K
     refine wpAnyH_ready (rs := [19]) (by kernel_rfl) (by simp) ?_
     refine AllReadyH.cons rfl (fun K hK => ?_) AllReadyH.nil
     go_simp
     refine Shut.out hK _ _ ?_ (fun hHeld => ?_)
     ·rw [hSS]
      refine ⟨?_, ?_, ?_⟩ <;> (refine cell_set (cell_set (cell_set ?_ hne) hne) hne; assumption)
     clear hK K
     refine wpAnyH_done (by kernel_rfl) ?_ _
     go_wp2
     refine bodyPost_ret (v := .tuple #[.int .i64 ((n : Int) + 100), .agg #[.int .i64 (ky : Nat), .int .i64 16, .int .i64 (tg : Nat)], .bool false]) (by simp [results, Tryd.results59, go_sem, *]) rfl (algP_mk HR3.out rfl ?_ nofun)
     repeat' first
      | exact HS.out
      | refine Fr.drew ?_
      | refine Fr.alloc ?_ _
      | refine Fr.setCell ?_ (.inr (by simp)) _
    ·by_cases h0 : iv = 0
     ·subst h0
      have HR3 := Px.hid (show row true n = some ⟨((n : Int) + 100), ky, 0, tg, ly⟩ from HR2.out.trans (by unfold pickR; rfl))
      clear HR2 h16
      go_upto_region 7 with fail
      obtain ⟨w2, hw2⟩ : ∃ w2 : World, w2 = w1.alloc (.cells #[.int .i64 (ky : Nat), .int .i64 0, .int .i64 (tg : Nat)] 67) := ⟨_, rfl⟩
      rw [← hw2]
      have d0 : w2.cell? ⟨w1.heap.size, 0, none⟩ = some (.int .i64 (ky : Nat)) := by rw [hw2]; exact cellOf (heap_alloc_new w1 _) 0 rfl
      have d1 : w2.cell? ⟨w1.heap.size, 1, none⟩ = some (.int .i64 0) := by rw [hw2]; exact cellOf (heap_alloc_new w1 _) 1 rfl
      have d2 : w2.cell? ⟨w1.heap.size, 2, none⟩ = some (.int .i64 (tg : Nat)) := by rw [hw2]; exact cellOf (heap_alloc_new w1 _) 2 rfl
      have e0 : w2.cell? ⟨w.heap.size, 0, none⟩ = some (.int .i64 0) := by rw [hw2]; exact cell_alloc c0
      have e1 : w2.cell? ⟨w.heap.size, 1, none⟩ = some (.int .i64 0) := by rw [hw2]; exact cell_alloc c1
      have e2 : w2.cell? ⟨w.heap.size, 2, none⟩ = some (.int .i64 0) := by rw [hw2]; exact cell_alloc c2
      have g0 : w2.frozen? ⟨w.heap.size, 0, none⟩ = false := by rw [hw2]; exact (frozen_alloc_some (by simp [c0])).trans f0
      have g1 : w2.frozen? ⟨w.heap.size, 1, none⟩ = false := by rw [hw2]; exact (frozen_alloc_some (by simp [c1])).trans f1
      have g2 : w2.frozen? ⟨w.heap.size, 2, none⟩ = false := by rw [hw2]; exact (frozen_alloc_some (by simp [c2])).trans f2
      have hne : ¬ w1.heap.size = w.heap.size := by omega
      have HS : Hid (Same w w2) := Px.hid (by rw [hw2]; exact Fr.alloc HS.out _)
      clear c0 c1 c2 f0 f1 f2 hw2
      obtain ⟨SS, hSS⟩ : ∃ SS : World → Prop, SS = (fun W : World => W.cell? ⟨w1.heap.size, 0, none⟩ = some (.int .i64 (ky : Nat)) ∧ W.cell? ⟨w1.heap.size, 1, none⟩ = some (.int .i64 0) ∧ W.cell? ⟨w1.heap.size, 2, none⟩ = some (.int .i64 (tg : Nat))) := ⟨_, rfl⟩
      have hS0 : SS w2.drew := by rw [hSS]; exact ⟨d0, d1, d2⟩
      refine wp_region_held_drew (S := SS) (by kernel_rfl) hS0 (fun hHeld => ?_)
      refine wpAnyH_take (i := 0) (v := ?_) rfl (by kernel_rfl) (by kernel_rfl) (by kernel_rfl) (fun _ _ _ h => h) (Or.inl ⟨by rfl, ?_⟩) (by assumption) ?_
      rotate_left
      ·intro w hw
       rw [hSS] at hw
       obtain ⟨d0, d1, d2⟩ := hw
       go_simp
       try (with_reducible rfl)
      change wpAnyH _ _ _ _ _ _ _ (Act.put _ (some 24) _) _
      simp only [Act.put, List.setIfInBounds_toArray, List.set_cons_zero, List.set_cons_succ]
      refine wpAnyH_take (i := 1) (v := ?_) rfl (by kernel_rfl) (by kernel_rfl) (by kernel_rfl) (fun _ _ _ h => h) (Or.inl ⟨by rfl, ?_⟩) (by assumption) ?_
      rotate_left
      ·intro w hw
       rw [hSS] at hw
       obtain ⟨d0, d1, d2⟩ := hw
       go_simp
       try (with_reducible rfl)
      change wpAnyH _ _ _ _ _ _ _ (Act.put _ (some 25) _) _
      simp only [Act.put, List.setIfInBounds_toArray, List.set_cons_zero, List.set_cons_succ]
      refine wpAnyH_take (i := 2) (v := ?_) rfl (by kernel_rfl) (by kernel_rfl) (by kernel_rfl) (fun _ _ _ h => h) (Or.inl ⟨by rfl, ?_⟩) (by assumption) ?_
      rotate_left
      ·intro w hw
       rw [hSS] at hw
       obtain ⟨d0, d1, d2⟩ := hw
       go_simp
       try (with_reducible rfl)
      change wpAnyH _ _ _ _ _ _ _ (Act.put _ (some 26) _) _
      simp only [Act.put, List.setIfInBounds_toArray, List.set_cons_zero, List.set_cons_succ]
      refine wpAnyH_take (i := 3) (v := ?_) rfl (by kernel_rfl) (by kernel_rfl) (by kernel_rfl) (fun _ _ _ h => h) (Or.inl ⟨by rfl, ?_⟩) (by assumption) ?_
      rotate_left
      ·intro w hw
       rw [hSS] at hw
       obtain ⟨d0, d1, d2⟩ := hw
       go_simp
       try (with_reducible rfl)
      change wpAnyH _ _ _ _ _ _ _ (Act.put _ (some 27) _) _
      simp only [Act.put, List.setIfInBounds_toArray, List.set_cons_zero, List.set_cons_succ]
      refine wpAnyH_take (i := 4) (v := ?_) rfl (by kernel_rfl) (by kernel_rfl) (by kernel_rfl) (fun _ _ _ h => h) (Or.inl ⟨by rfl, ?_⟩) (by assumption) ?_
      rotate_left
      ·intro w hw
       rw [hSS] at hw
       obtain ⟨d0, d1, d2⟩ := hw
       go_simp
       try (with_reducible rfl)
      change wpAnyH _ _ _ _ _ _ _ (Act.put _ (some 28) _) _
      simp only [Act.put, List.setIfInBounds_toArray, List.set_cons_zero, List.set_cons_succ]
      refine wpAnyH_take (i := 5) (v := ?_) rfl (by kernel_rfl) (by kernel_rfl) (by kernel_rfl) (fun _ _ _ h => h) (Or.inl ⟨by rfl, ?_⟩) (by assumption) ?_
      rotate_left
      ·intro w hw
       rw [hSS] at hw
       obtain ⟨d0, d1, d2⟩ := hw
       go_simp
       try (with_reducible rfl)
      change wpAnyH _ _ _ _ _ _ _ (Act.put _ (some 29) _) _
      simp only [Act.put, List.setIfInBounds_toArray, List.set_cons_zero, List.set_cons_succ]
      refine wpAnyH_take (i := 6) (v := ?_) rfl (by kernel_rfl) (by kernel_rfl) (by kernel_rfl) (fun _ _ _ h => h) (Or.inl ⟨by rfl, ?_⟩) (by assumption) ?_
      rotate_left
      ·intro w hw
       rw [hSS] at hw
       obtain ⟨d0, d1, d2⟩ := hw
       go_simp
       try (with_reducible rfl)
      change wpAnyH _ _ _ _ _ _ _ (Act.put _ (some 30) _) _
      simp only [Act.put, List.setIfInBounds_toArray, List.set_cons_zero, List.set_cons_succ]
      refine wpAnyH_take (i := 7) (v := ?_) rfl (by kernel_rfl) (by kernel_rfl) (by kernel_rfl) (fun _ _ _ h => h) (Or.inl ⟨by rfl, ?_⟩) (by assumption) ?_
      rotate_left
      ·intro w hw
       rw [hSS] at hw
       obtain ⟨d0, d1, d2⟩ := hw
       go_simp
       try (with_reducible rfl)
      change wpAnyH _ _ _ _ _ _ _ (Act.put _ (some 31) _) _
      simp only [Act.put, List.setIfInBounds_toArray, List.set_cons_zero, List.set_cons_succ]
      refine wpAnyH_take (i := 8) (v := ?_) rfl (by kernel_rfl) (by kernel_rfl) (by kernel_rfl) (fun _ _ _ h => h) (Or.inl ⟨by rfl, ?_⟩) (by assumption) ?_
      rotate_left
      ·intro w hw
       rw [hSS] at hw
       obtain ⟨d0, d1, d2⟩ := hw
       go_simp
       try (with_reducible rfl)
      change wpAnyH _ _ _ _ _ _ _ (Act.put _ (some 32) _) _
      simp only [Act.put, List.setIfInBounds_toArray, List.set_cons_zero, List.set_cons_succ]
      refine wpAnyH_take (i := 9) (v := ?_) rfl (by kernel_rfl) (by kernel_rfl) (by kernel_rfl) (fun _ _ _ h => h) (Or.inl ⟨by rfl, ?_⟩) (by assumption) ?_
      rotate_left
      ·intro w hw
       rw [hSS] at hw
       obtain ⟨d0, d1, d2⟩ := hw
       go_simp
       try (with_reducible rfl)
      change wpAnyH _ _ _ _ _ _ _ (Act.put _ (some 33) _) _
      simp only [Act.put, List.setIfInBounds_toArray, List.set_cons_zero, List.set_cons_succ]
      refine wpAnyH_take (i := 10) (v := ?_) rfl (by kernel_rfl) (by kernel_rfl) (by kernel_rfl) (fun _ _ _ h => h) (Or.inl ⟨by rfl, ?_⟩) (by assumption) ?_
      rotate_left
      ·intro w hw
       rw [hSS] at hw
       obtain ⟨d0, d1, d2⟩ := hw
       go_simp
       try (with_reducible rfl)
      change wpAnyH _ _ _ _ _ _ _ (Act.put _ (some 34) _) _
      simp only [Act.put, List.setIfInBounds_toArray, List.set_cons_zero, List.set_cons_succ]
      refine wpAnyH_take (i := 11) (v := ?_) rfl (by kernel_rfl) (by kernel_rfl) (by kernel_rfl) (fun _ _ _ h => h) (Or.inl ⟨by rfl, ?_⟩) (by assumption) ?_
      rotate_left
      ·intro w hw
       rw [hSS] at hw
       obtain ⟨d0, d1, d2⟩ := hw
       go_simp
       try (with_reducible rfl)
      change wpAnyH _ _ _ _ _ _ _ (Act.put _ (some 35) _) _
      simp only [Act.put, List.setIfInBounds_toArray, List.set_cons_zero, List.set_cons_succ]
      refine wpAnyH_take (i := 12) (v := ?_) rfl (by kernel_rfl) (by kernel_rfl) (by kernel_rfl) (fun _ _ _ h => h) (Or.inl ⟨by rfl, ?_⟩) (by assumption) ?_
      rotate_left
      ·intro w hw
       rw [hSS] at hw
       obtain ⟨d0, d1, d2⟩ := hw
       go_simp
       try (with_reducible rfl)
      change wpAnyH _ _ _ _ _ _ _ (Act.put _ (some 36) _) _
      simp only [Act.put, List.setIfInBounds_toArray, List.set_cons_zero, List.set_cons_succ]
      refine wpAnyH_take (i := 13) (v := ?_) rfl (by kernel_rfl) (by kernel_rfl) (by kernel_rfl) (fun _ _ _ h => h) (Or.inl ⟨by rfl, ?_⟩) (by assumption) ?_
      rotate_left
      ·intro w hw
       rw [hSS] at hw
       obtain ⟨d0, d1, d2⟩ := hw
       go_simp
       try (with_reducible rfl)
      change wpAnyH _ _ _ _ _ _ _ (Act.put _ (some 37) _) _
      simp only [Act.put, List.setIfInBounds_toArray, List.set_cons_zero, List.set_cons_succ]
      refine wpAnyH_take (i := 14) (v := ?_) rfl (by kernel_rfl) (by kernel_rfl) (by kernel_rfl) (fun _ _ _ h => h) (Or.inl ⟨by rfl, ?_⟩) (by assumption) ?_
      rotate_left
      ·intro w hw
       rw [hSS] at hw
       obtain ⟨d0, d1, d2⟩ := hw
       go_simp
       try (with_reducible rfl)
      change wpAnyH _ _ _ _ _ _ _ (Act.put _ (some 38) _) _
      simp only [Act.put, List.setIfInBounds_toArray, List.set_cons_zero, List.set_cons_succ]
      refine wpAnyH_take (i := 15) (v := ?_) rfl (by kernel_rfl) (by kernel_rfl) (by kernel_rfl) (fun _ _ _ h => h) (Or.inl ⟨by rfl, ?_⟩) (by assumption) ?_
      rotate_left
      ·intro w hw
       rw [hSS] at hw
       obtain ⟨d0, d1, d2⟩ := hw
       go_simp
       try (with_reducible rfl)
      change wpAnyH _ _ _ _ _ _ _ (Act.put _ (some 39) _) _
      simp only [Act.put, List.setIfInBounds_toArray, List.set_cons_zero, List.set_cons_succ]
      refine wpAnyH_take (i := 16) (v := ?_) rfl (by kernel_rfl) (by kernel_rfl) (by kernel_rfl) (fun _ _ _ h => h) (Or.inl ⟨by rfl, ?_⟩) (by assumption) ?_
      rotate_left
      ·intro w hw
       rw [hSS] at hw
       obtain ⟨d0, d1, d2⟩ := hw
       go_simp
       try (with_reducible rfl)
      change wpAnyH _ _ _ _ _ _ _ (Act.put _ (some 40) _) _
      simp only [Act.put, List.setIfInBounds_toArray, List.set_cons_zero, List.set_cons_succ]
      refine wpAnyH_ready (rs := [17]) (by kernel_rfl) (by simp) ?_
      refine AllReadyH.cons rfl (fun K hK => ?_) AllReadyH.nil
      go_simp
      refine Shut.out hK _ _ ?_ (fun hHeld => ?_)
      ·rw [hSS]
       exact ⟨d0, d1, d2⟩
      clear hK K
      refine wpAnyH_ready (rs := [18]) (by kernel_rfl) (by simp) ?_
      refine AllReadyH.cons rfl (fun K hK => ?_) AllReadyH.nil
      go_simp
      refine Shut.out hK _ _ ?_ (fun hHeld => ?_)
      ·rw [hSS]
       refine ⟨?_, ?_, ?_⟩ <;> (refine cell_set (cell_set (cell_set ?_ hne) hne) hne; assumption)
      clear hK K
      refine wpAnyH_ready (rs := [19]) (by kernel_rfl) (by simp) ?_
      refine AllReadyH.cons rfl (fun K hK => ?_) AllReadyH.nil
      go_simp
      refine Shut.out hK _ _ ?_ (fun hHeld => ?_)
      ·rw [hSS]
       refine ⟨?_, ?_, ?_⟩ <;> (refine cell_set (cell_set (cell_set ?_ hne) hne) hne; assumption)
      clear hK K
      refine wpAnyH_done (by kernel_rfl) ?_ _
      go_wp2
      refine bodyPost_ret (v := .tuple #[.int .i64 ((n : Int) + 100), .agg #[.int .i64 (ky : Nat), .int .i64 0, .int .i64 (tg : Nat)], .bool true]) (by simp [results, Tryd.results59, go_sem, *]) rfl (algP_mk HR3.out rfl ?_ (fun r e => by cases e; exact ⟨rfl, rfl, rfl, rfl⟩))
      repeat' first
       | exact HS.out
       | refine Fr.drew ?_
       | refine Fr.alloc ?_ _
       | refine Fr.setCell ?_ (.inr (by simp)) _
     ·have b16 : ((iv : Int) != 16) = true := by simp; omega
      have b0 : ((iv : Int) == 0) = false := by simp; omega
      have HR3 := Px.hid (show row true n = none from HR2.out.trans (by unfold pickR; simp [h16, h0]))
      clear HR2 h16 h0
      go_upto_region 7 with fail
      obtain ⟨w2, hw2⟩ : ∃ w2 : World, w2 = w1.alloc (.cells #[.int .i64 (ky : Nat), .int .i64 (iv : Nat), .int .i64 (tg : Nat)] 67) := ⟨_, rfl⟩
      rw [← hw2]
      have d0 : w2.cell? ⟨w1.heap.size, 0, none⟩ = some (.int .i64 (ky : Nat)) := by rw [hw2]; exact cellOf (heap_alloc_new w1 _) 0 rfl
      have d1 : w2.cell? ⟨w1.heap.size, 1, none⟩ = some (.int .i64 (iv : Nat)) := by rw [hw2]; exact cellOf (heap_alloc_new w1 _) 1 rfl
      have d2 : w2.cell? ⟨w1.heap.size, 2, none⟩ = some (.int .i64 (tg : Nat)) := by rw [hw2]; exact cellOf (heap_alloc_new w1 _) 2 rfl
      have e0 : w2.cell? ⟨w.heap.size, 0, none⟩ = some (.int .i64 0) := by rw [hw2]; exact cell_alloc c0
      have e1 : w2.cell? ⟨w.heap.size, 1, none⟩ = some (.int .i64 0) := by rw [hw2]; exact cell_alloc c1
      have e2 : w2.cell? ⟨w.heap.size, 2, none⟩ = some (.int .i64 0) := by rw [hw2]; exact cell_alloc c2
      have g0 : w2.frozen? ⟨w.heap.size, 0, none⟩ = false := by rw [hw2]; exact (frozen_alloc_some (by simp [c0])).trans f0
      have g1 : w2.frozen? ⟨w.heap.size, 1, none⟩ = false := by rw [hw2]; exact (frozen_alloc_some (by simp [c1])).trans f1
      have g2 : w2.frozen? ⟨w.heap.size, 2, none⟩ = false := by rw [hw2]; exact (frozen_alloc_some (by simp [c2])).trans f2
      have hne : ¬ w1.heap.size = w.heap.size := by omega
      have HS : Hid (Same w w2) := Px.hid (by rw [hw2]; exact Fr.alloc HS.out _)
      clear c0 c1 c2 f0 f1 f2 hw2
      obtain ⟨SS, hSS⟩ : ∃ SS : World → Prop, SS = (fun W : World => W.cell? ⟨w1.heap.size, 0, none⟩ = some (.int .i64 (ky : Nat)) ∧ W.cell? ⟨w1.heap.size, 1, none⟩ = some (.int .i64 (iv : Nat)) ∧ W.cell? ⟨w1.heap.size, 2, none⟩ = some (.int .i64 (tg : Nat))) := ⟨_, rfl⟩
      have hS0 : SS w2.drew := by rw [hSS]; exact ⟨d0, d1, d2⟩
      refine wp_region_held_drew (S := SS) (by kernel_rfl) hS0 (fun hHeld => ?_)
      refine wpAnyH_take (i := 0) (v := ?_) rfl (by kernel_rfl) (by kernel_rfl) (by kernel_rfl) (fun _ _ _ h => h) (Or.inl ⟨by rfl, ?_⟩) (by assumption) ?_
      rotate_left
      ·intro w hw
       rw [hSS] at hw
       obtain ⟨d0, d1, d2⟩ := hw
       go_simp
       try (with_reducible rfl)
      change wpAnyH _ _ _ _ _ _ _ (Act.put _ (some 24) _) _
      simp only [Act.put, List.setIfInBounds_toArray, List.set_cons_zero, List.set_cons_succ]
      refine wpAnyH_take (i := 1) (v := ?_) rfl (by kernel_rfl) (by kernel_rfl) (by kernel_rfl) (fun _ _ _ h => h) (Or.inl ⟨by rfl, ?_⟩) (by assumption) ?_
      rotate_left
      ·intro w hw
       rw [hSS] at hw
       obtain ⟨d0, d1, d2⟩ := hw
       go_simp
       try (with_reducible rfl)
      change wpAnyH _ _ _ _ _ _ _ (Act.put _ (some 25) _) _
      simp only [Act.put, List.setIfInBounds_toArray, List.set_cons_zero, List.set_cons_succ]
      refine wpAnyH_take (i := 2) (v := ?_) rfl (by kernel_rfl) (by kernel_rfl) (by kernel_rfl) (fun _ _ _ h => h) (Or.inl ⟨by rfl, ?_⟩) (by assumption) ?_
      rotate_left
      ·intro w hw
       rw [hSS] at hw
       obtain ⟨d0, d1, d2⟩ := hw
       go_simp
       try (with_reducible rfl)
      change wpAnyH _ _ _ _ _ _ _ (Act.put _ (some 26) _) _
      simp only [Act.put, List.setIfInBounds_toArray, List.set_cons_zero, List.set_cons_succ]
      refine wpAnyH_take (i := 3) (v := ?_) rfl (by kernel_rfl) (by kernel_rfl) (by kernel_rfl) (fun _ _ _ h => h) (Or.inl ⟨by rfl, ?_⟩) (by assumption) ?_
      rotate_left
      ·intro w hw
       rw [hSS] at hw
       obtain ⟨d0, d1, d2⟩ := hw
       go_simp
       try (with_reducible rfl)
      change wpAnyH _ _ _ _ _ _ _ (Act.put _ (some 27) _) _
      simp only [Act.put, List.setIfInBounds_toArray, List.set_cons_zero, List.set_cons_succ]
      refine wpAnyH_take (i := 4) (v := ?_) rfl (by kernel_rfl) (by kernel_rfl) (by kernel_rfl) (fun _ _ _ h => h) (Or.inl ⟨by rfl, ?_⟩) (by assumption) ?_
      rotate_left
      ·intro w hw
       rw [hSS] at hw
       obtain ⟨d0, d1, d2⟩ := hw
       go_simp
       try (with_reducible rfl)
      change wpAnyH _ _ _ _ _ _ _ (Act.put _ (some 28) _) _
      simp only [Act.put, List.setIfInBounds_toArray, List.set_cons_zero, List.set_cons_succ]
      refine wpAnyH_take (i := 5) (v := ?_) rfl (by kernel_rfl) (by kernel_rfl) (by kernel_rfl) (fun _ _ _ h => h) (Or.inl ⟨by rfl, ?_⟩) (by assumption) ?_
      rotate_left
      ·intro w hw
       rw [hSS] at hw
       obtain ⟨d0, d1, d2⟩ := hw
       go_simp
       try (with_reducible rfl)
      change wpAnyH _ _ _ _ _ _ _ (Act.put _ (some 29) _) _
      simp only [Act.put, List.setIfInBounds_toArray, List.set_cons_zero, List.set_cons_succ]
      refine wpAnyH_take (i := 6) (v := ?_) rfl (by kernel_rfl) (by kernel_rfl) (by kernel_rfl) (fun _ _ _ h => h) (Or.inl ⟨by rfl, ?_⟩) (by assumption) ?_
      rotate_left
      ·intro w hw
       rw [hSS] at hw
       obtain ⟨d0, d1, d2⟩ := hw
       go_simp
       try (with_reducible rfl)
      change wpAnyH _ _ _ _ _ _ _ (Act.put _ (some 30) _) _
      simp only [Act.put, List.setIfInBounds_toArray, List.set_cons_zero, List.set_cons_succ]
      refine wpAnyH_take (i := 7) (v := ?_) rfl (by kernel_rfl) (by kernel_rfl) (by kernel_rfl) (fun _ _ _ h => h) (Or.inl ⟨by rfl, ?_⟩) (by assumption) ?_
      rotate_left
      ·intro w hw
       rw [hSS] at hw
       obtain ⟨d0, d1, d2⟩ := hw
       go_simp
       try (with_reducible rfl)
      change wpAnyH _ _ _ _ _ _ _ (Act.put _ (some 31) _) _
      simp only [Act.put, List.setIfInBounds_toArray, List.set_cons_zero, List.set_cons_succ]
      refine wpAnyH_take (i := 8) (v := ?_) rfl (by kernel_rfl) (by kernel_rfl) (by kernel_rfl) (fun _ _ _ h => h) (Or.inl ⟨by rfl, ?_⟩) (by assumption) ?_
      rotate_left
      ·intro w hw
       rw [hSS] at hw
       obtain ⟨d0, d1, d2⟩ := hw
       go_simp
       try (with_reducible rfl)
      change wpAnyH _ _ _ _ _ _ _ (Act.put _ (some 32) _) _
      simp only [Act.put, List.setIfInBounds_toArray, List.set_cons_zero, List.set_cons_succ]
      refine wpAnyH_take (i := 9) (v := ?_) rfl (by kernel_rfl) (by kernel_rfl) (by kernel_rfl) (fun _ _ _ h => h) (Or.inl ⟨by rfl, ?_⟩) (by assumption) ?_
      rotate_left
      ·intro w hw
       rw [hSS] at hw
       obtain ⟨d0, d1, d2⟩ := hw
       go_simp
       try (with_reducible rfl)
      change wpAnyH _ _ _ _ _ _ _ (Act.put _ (some 33) _) _
      simp only [Act.put, List.setIfInBounds_toArray, List.set_cons_zero, List.set_cons_succ]
      refine wpAnyH_take (i := 10) (v := ?_) rfl (by kernel_rfl) (by kernel_rfl) (by kernel_rfl) (fun _ _ _ h => h) (Or.inl ⟨by rfl, ?_⟩) (by assumption) ?_
      rotate_left
      ·intro w hw
       rw [hSS] at hw
       obtain ⟨d0, d1, d2⟩ := hw
       go_simp
       try (with_reducible rfl)
      change wpAnyH _ _ _ _ _ _ _ (Act.put _ (some 34) _) _
      simp only [Act.put, List.setIfInBounds_toArray, List.set_cons_zero, List.set_cons_succ]
      refine wpAnyH_take (i := 11) (v := ?_) rfl (by kernel_rfl) (by kernel_rfl) (by kernel_rfl) (fun _ _ _ h => h) (Or.inl ⟨by rfl, ?_⟩) (by assumption) ?_
      rotate_left
      ·intro w hw
       rw [hSS] at hw
       obtain ⟨d0, d1, d2⟩ := hw
       go_simp
       try (with_reducible rfl)
      change wpAnyH _ _ _ _ _ _ _ (Act.put _ (some 35) _) _
      simp only [Act.put, List.setIfInBounds_toArray, List.set_cons_zero, List.set_cons_succ]
      refine wpAnyH_take (i := 12) (v := ?_) rfl (by kernel_rfl) (by kernel_rfl) (by kernel_rfl) (fun _ _ _ h => h) (Or.inl ⟨by rfl, ?_⟩) (by assumption) ?_
      rotate_left
      ·intro w hw
       rw [hSS] at hw
       obtain ⟨d0, d1, d2⟩ := hw
       go_simp
       try (with_reducible rfl)
      change wpAnyH _ _ _ _ _ _ _ (Act.put _ (some 36) _) _
      simp only [Act.put, List.setIfInBounds_toArray, List.set_cons_zero, List.set_cons_succ]
      refine wpAnyH_take (i := 13) (v := ?_) rfl (by kernel_rfl) (by kernel_rfl) (by kernel_rfl) (fun _ _ _ h => h) (Or.inl ⟨by rfl, ?_⟩) (by assumption) ?_
      rotate_left
      ·intro w hw
       rw [hSS] at hw
       obtain ⟨d0, d1, d2⟩ := hw
       go_simp
       try (with_reducible rfl)
      change wpAnyH _ _ _ _ _ _ _ (Act.put _ (some 37) _) _
      simp only [Act.put, List.setIfInBounds_toArray, List.set_cons_zero, List.set_cons_succ]
      refine wpAnyH_take (i := 14) (v := ?_) rfl (by kernel_rfl) (by kernel_rfl) (by kernel_rfl) (fun _ _ _ h => h) (Or.inl ⟨by rfl, ?_⟩) (by assumption) ?_
      rotate_left
      ·intro w hw
       rw [hSS] at hw
       obtain ⟨d0, d1, d2⟩ := hw
       go_simp
       try (with_reducible rfl)
      change wpAnyH _ _ _ _ _ _ _ (Act.put _ (some 38) _) _
      simp only [Act.put, List.setIfInBounds_toArray, List.set_cons_zero, List.set_cons_succ]
      refine wpAnyH_take (i := 15) (v := ?_) rfl (by kernel_rfl) (by kernel_rfl) (by kernel_rfl) (fun _ _ _ h => h) (Or.inl ⟨by rfl, ?_⟩) (by assumption) ?_
      rotate_left
      ·intro w hw
       rw [hSS] at hw
       obtain ⟨d0, d1, d2⟩ := hw
       go_simp
       try (with_reducible rfl)
      change wpAnyH _ _ _ _ _ _ _ (Act.put _ (some 39) _) _
      simp only [Act.put, List.setIfInBounds_toArray, List.set_cons_zero, List.set_cons_succ]
      refine wpAnyH_take (i := 16) (v := ?_) rfl (by kernel_rfl) (by kernel_rfl) (by kernel_rfl) (fun _ _ _ h => h) (Or.inl ⟨by rfl, ?_⟩) (by assumption) ?_
      rotate_left
      ·intro w hw
       rw [hSS] at hw
       obtain ⟨d0, d1, d2⟩ := hw
       go_simp
       try (with_reducible rfl)
      change wpAnyH _ _ _ _ _ _ _ (Act.put _ (some 40) _) _
      simp only [Act.put, List.setIfInBounds_toArray, List.set_cons_zero, List.set_cons_succ]
      refine wpAnyH_ready (rs := [17]) (by kernel_rfl) (by simp) ?_
      refine AllReadyH.cons rfl (fun K hK => ?_) AllReadyH.nil
      go_simp
      refine Shut.out hK _ _ ?_ (fun hHeld => ?_)
      ·rw [hSS]
       exact ⟨d0, d1, d2⟩
      clear hK K
      refine wpAnyH_ready (rs := [18]) (by kernel_rfl) (by simp) ?_
      refine AllReadyH.cons rfl (fun K hK => ?_) AllReadyH.nil
      go_simp
      refine Shut.out hK _ _ ?_ (fun hHeld => ?_)
      ·rw [hSS]
       refine ⟨?_, ?_, ?_⟩ <;> (refine cell_set (cell_set (cell_set ?_ hne) hne) hne; assumption)
      clear hK K
      refine wpAnyH_ready (rs := [19]) (by kernel_rfl) (by simp) ?_
      refine AllReadyH.cons rfl (fun K hK => ?_) AllReadyH.nil
      go_simp
      refine Shut.out hK _ _ ?_ (fun hHeld => ?_)
      ·rw [hSS]
       refine ⟨?_, ?_, ?_⟩ <;> (refine cell_set (cell_set (cell_set ?_ hne) hne) hne; assumption)
      clear hK K
      refine wpAnyH_done (by kernel_rfl) ?_ _
      go_wp2
      refine bodyPost_ret (v := .tuple #[.int .i64 ((n : Int) + 100), .agg #[.int .i64 (ky : Nat), .int .i64 (iv : Nat), .int .i64 (tg : Nat)], .bool false]) (by simp [results, Tryd.results59, go_sem, *]) rfl (algP_mk HR3.out rfl ?_ nofun)
      repeat' first
       | exact HS.out
       | refine Fr.drew ?_
       | refine Fr.alloc ?_ _
       | refine Fr.setCell ?_ (.inr (by simp)) _
end Go.Proofs.YtddiabaagpmkgaaDoor
