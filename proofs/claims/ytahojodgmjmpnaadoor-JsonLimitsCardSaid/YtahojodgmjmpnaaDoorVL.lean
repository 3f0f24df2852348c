/-
  Several texts in one: What is read is right: leaves, as the reference reads them (plain law, towards JsonNormal). No program is named here. What is read is right: arrays (plain law, towards JsonNormal). No program is named here. What is read is right: objects (plain law, towards JsonNormal). No program is named here. What is read is right: values (plain law, towards JsonNormal). No program is named here. One value: all in it are right; how deep Behind goes (plain law, towards JsonNormal). No program is named here. One value is told by its text, unless that is too long (plain law, towards JsonNormal). No program is named here. The program's reader over two texts alike: what it tells of one is what it tells of the other, moved (plain law). No program is named here. The program's reader over two texts alike: steps and the whole reading; greater and lesser limits (plain law). No program is named here. What is read whole: how it was read; limits, blanks (plain law). No program is named here. What is read is told by one text, which is read alike (plain law of JsonNormal). No program is named here. The values of a list that is read are small (plain law). No program is named here.
-/
import Derived.Test.YtahojodgmjmpnaaDoorVK
/-! What is read is right: leaves, as the reference reads them (plain law, towards JsonNormal). No program is named here. -/
namespace Go.Px.E6
open R6 (at_ plainV St)
variable {s : Bytes} {lim : Lim} {x y : St} {p q : Nat}
/-- A leaf that is read. -/
structure Leaf (u : List Val) (p q : Nat) (y : St) : Prop where
  got : ∃ a, y.out = u ++ [a] ∧ right a = true ∧ a.kind ≤ 4 ∧ (body a).length ≤ 6 * (q - p)
  lt : p < q
theorem word_lt {c : UInt8} {t : Bytes} (hp : p ≤ s.length) (h : R6.wordN s lim (c :: t) x p = (some q, y)) : R6.Kept x y ∧ p < q := by
  rw [R6.wordN] at h
  obtain ⟨⟨b, z⟩, h1⟩ : ∃ r, R6.is s lim x p c.toNat = r := ⟨_, rfl⟩
  rw [h1] at h
  cases b with
  | false => cases h
  | true =>
    have hw : R6.wordN s lim (c :: t) x p = (some q, y) := by rw [R6.wordN, h1]; exact h
    obtain ⟨k1, _, _⟩ := R6.wordN_ok _ _ _ hp hw
    have hps : p + 1 ≤ s.length := by
      have := (D6.must_yes h1).2.2.1
      omega
    obtain ⟨_, k2, _⟩ := R6.wordN_ok _ _ _ hps h
    exact ⟨k1, by omega⟩
theorem plain_right {u : List Val} {c : Nat} (hx : x.out = u ++ [⟨0, 0, []⟩]) (h1 : p < s.length) (h2 : (p : Int) < lim.b) (h : plainV s lim x c p u.length = (some q, y)) : Leaf u p q y := by
  unfold plainV at h
  have hk : ∀ k, R6.setKind x.out u.length k = u ++ [⟨k, 0, []⟩] := fun k => by rw [hx]; exact R6.setKind_mid u [] ⟨0, 0, []⟩ k
  split at h
  · obtain ⟨⟨c, t⟩, h3⟩ : ∃ r, R6.text s lim { x with out := R6.setKind x.out u.length 4 } p = r := ⟨_, rfl⟩
    rw [h3] at h
    cases c with
    | none => cases h
    | some v =>
      obtain ⟨b, q'⟩ := v
      obtain ⟨k1, _, _, _, k5⟩ := D6.text_yes h2 h1 h3
      obtain ⟨v1, v2⟩ := text_valid k1
      have h6 := told_six b
      cases h
      refine ⟨⟨⟨4, 0, b⟩, ?_, ?_, Int.le_refl 4, ?_⟩, by omega⟩
      · show R6.setText t.out _ _ = _
        rw [k5.1]
        show R6.setText (R6.setKind x.out u.length 4) _ _ = _
        rw [hk 4]
        exact R6.setText_mid u [] ⟨4, 0, []⟩ b
      · show ((0 : Int) == 0 && Lib.validD b) = true
        rw [v1]
        rfl
      · show (told b).length ≤ 6 * (q - p)
        omega
  · split at h
    · obtain ⟨k1, k2⟩ := word_lt (Nat.le_of_lt h1) h
      exact ⟨⟨⟨2, 0, []⟩, by rw [k1.1]; exact hk 2, rfl, by decide, by show 4 ≤ _; omega⟩, k2⟩
    · split at h
      · obtain ⟨k1, k2⟩ := word_lt (Nat.le_of_lt h1) h
        exact ⟨⟨⟨1, 0, []⟩, by rw [k1.1]; exact hk 1, rfl, by decide, by show 5 ≤ _; omega⟩, k2⟩
      · split at h
        · obtain ⟨k1, k2⟩ := word_lt (Nat.le_of_lt h1) h
          exact ⟨⟨⟨0, 0, []⟩, by rw [k1.1]; exact hx, rfl, by decide, by show 4 ≤ _; omega⟩, k2⟩
        · unfold R6.numVal at h
          simp only at h
          obtain ⟨⟨n, ok⟩, hd⟩ : ∃ d, R6.number ((s.take (min s.length lim.b.toNat)).drop p) = d := ⟨_, rfl⟩
          rw [hd] at h
          simp only at h
          cases ok with
          | false =>
            rw [if_neg (by decide)] at h
            split at h <;> cases h
          | true =>
            rw [if_pos rfl] at h
            obtain ⟨v1, v2⟩ := num_right hd (by omega) (Nat.min_le_left _ _)
            cases h
            have hn : 0 < n := by
              cases n with
              | zero =>
                rw [Nat.add_zero, E5.drop_take_self] at v1
                cases v1
              | succ n => exact Nat.succ_pos _
            refine ⟨⟨⟨3, 0, (s.take (p + n)).drop p⟩, ?_, ?_, (show (3 : Int) ≤ 4 by decide), ?_⟩, by omega⟩
            · show R6.setText (R6.setKind x.out u.length 3) _ _ = _
              rw [hk 3]
              exact R6.setText_mid u [] ⟨3, 0, []⟩ _
            · show ((0 : Int) == 0 && numeral _) = true
              rw [v1]
              rfl
            · show ((s.take (p + n)).drop p).length ≤ _
              rw [v2]
              omega
end Go.Px.E6

/-! What is read is right: arrays (plain law, towards JsonNormal). No program is named here. -/
namespace Go.Px.E6
open R6 (at_ St sep)
variable {s : Bytes} {lim : Lim}
/-- A value that is read, within so many. -/
def RcR (d : Nat) (rc : St → Nat → Option Nat × St) : Prop := ∀ x p q y, rc x p = (some q, y) → ∃ v t, y.out = x.out ++ v ∧ ItF d v t false ∧ t.length ≤ 6 * (q - p) ∧ p < q
theorem arrayN_right {d : Nat} {rc : St → Nat → Option Nat × St} (hrc : RcR d rc) {u : List Val} {q : Nat} {y : St} : ∀ (m : Nat) (x : St) (p k : Nat) (nm : List Bytes) (j : Int) (l : List Val), x.out = u ++ ⟨5, j, []⟩ :: l → R6.arrayN s lim rc u.length m x p = (some q, y) →
    ∃ n v t, y.out = u ++ ⟨5, j + ((n + 1 : Nat) : Int), []⟩ :: (l ++ v) ∧ Kids (ItF d) false (n + 1) k nm v t false ∧ t.length + 1 ≤ 6 * (q - p) + 1 ∧ p < q
  | 0, _, _, _, _, _, _, _, h => by cases h
  | m + 1, x, p, k, nm, j, l, hx, h => by
    unfold R6.arrayN at h
    obtain ⟨⟨c, t⟩, h1⟩ : ∃ r, rc x p = r := ⟨_, rfl⟩
    rw [h1] at h
    cases c with
    | none => cases h
    | some q1 =>
      obtain ⟨v1, t1, o1, i1, l1, p1⟩ := hrc _ _ _ _ h1
      have hb : R6.bump t.out u.length 1 = u ++ ⟨5, j + 1, []⟩ :: (l ++ v1) := by rw [o1, hx, List.append_assoc, List.cons_append]; exact R6.bump_mid u (l ++ v1) ⟨5, j, []⟩ 1
      simp only at h
      obtain ⟨⟨c, z⟩, h2⟩ : ∃ r, R6.pass s lim { t with out := R6.bump t.out u.length 1 } q1 = r := ⟨_, rfl⟩
      rw [h2] at h
      cases c with
      | none => cases h
      | some q2 =>
        obtain ⟨k1, k2, k3⟩ := R6.pass_ok h2
        have hz : z.out = u ++ ⟨5, j + 1, []⟩ :: (l ++ v1) := k1.1.trans hb
        have hsp : (sep false k).length ≤ 1 := by unfold sep; rw [if_neg (by simp)]; split <;> simp
        simp only at h
        split at h
        · cases h
          refine ⟨0, v1, sep false k ++ t1 ++ [], hz, ⟨v1, [], t1, [], false, false, by simp, rfl, i1, (fun e => by cases e), ⟨rfl, rfl, rfl⟩, by simp⟩, ?_, by omega⟩
          simp only [List.length_append, List.length_nil]
          omega
        · split at h
          · cases h
          · obtain ⟨⟨c, w⟩, h3⟩ : ∃ r, R6.pass s lim z (q2 + 1) = r := ⟨_, rfl⟩
            rw [h3] at h
            cases c with
            | none => cases h
            | some q3 =>
              obtain ⟨k4, k5, k6⟩ := R6.pass_ok h3
              obtain ⟨n, v, t2, o2, i2, l2, p2⟩ := arrayN_right hrc m w q3 (k + 1) nm (j + 1) (l ++ v1) (k4.1.trans hz) h
              refine ⟨n + 1, v1 ++ v, sep false k ++ t1 ++ t2, ?_, ⟨v1, v, t1, t2, false, false, rfl, rfl, i1, (fun e => by cases e), by simpa using i2, by simp⟩, ?_, by omega⟩
              · rw [o2, List.append_assoc, show j + 1 + ((n + 1 : Nat) : Int) = j + ((n + 1 + 1 : Nat) : Int) by omega]
              · simp only [List.length_append]
                omega
end Go.Px.E6

/-! What is read is right: objects (plain law, towards JsonNormal). No program is named here. -/
namespace Go.Px.E6
open R6 (at_ St sep)
variable {s : Bytes} {lim : Lim}
theorem sep_one (ob : Bool) (k : Nat) : (sep ob k).length ≤ 1 := by
  unfold sep
  split
  · simp
  · split
    · simp
    · simp
theorem member_right {d : Nat} {rc : St → Nat → Option Nat × St} (hrc : RcR d rc) {x y : St} {p q : Nat} {names : List Bytes} {b : Bytes} (h : R6.member s lim rc x p names = (some (b, q), y)) :
    names.contains b = false ∧ Lib.validD b = true ∧ p < q ∧ ∃ v t, y.out = x.out ++ (⟨4, 0, b⟩ :: v) ∧ ItF d v t false ∧ (told b).length + 1 + t.length ≤ 6 * (q - p) := by
  unfold R6.member at h
  obtain ⟨⟨c, y1⟩, h1⟩ : ∃ r, R6.is s lim x p 34 = r := ⟨_, rfl⟩
  rw [h1] at h
  cases c with
  | false => cases h
  | true =>
    obtain ⟨_, a1, a2, a3⟩ := D6.must_yes h1
    simp only at h
    by_cases hi : lim.i ≤ y1.out.length
    · rw [if_pos hi] at h; cases h
    · rw [if_neg hi] at h
      obtain ⟨⟨c, z⟩, h2⟩ : ∃ r, R6.text s lim y1 p = r := ⟨_, rfl⟩
      rw [h2] at h
      cases c with
      | none => cases h
      | some bq =>
        obtain ⟨b', q1⟩ := bq
        obtain ⟨t1, _, _, _, t5⟩ := D6.text_yes a1 a2 h2
        obtain ⟨v1, v2⟩ := text_valid t1
        have h6 := told_six b'
        simp only at h
        by_cases hc : names.contains b' = true
        · rw [if_pos hc] at h; cases h
        · rw [if_neg hc] at h
          obtain ⟨⟨c, w⟩, h3⟩ : ∃ r, R6.pass s lim { z with out := z.out ++ [⟨4, 0, b'⟩] } q1 = r := ⟨_, rfl⟩
          rw [h3] at h
          cases c with
          | none => cases h
          | some q2 =>
            obtain ⟨k1, k2, k3⟩ := R6.pass_ok h3
            simp only at h
            obtain ⟨⟨c, w2⟩, h4⟩ : ∃ r, R6.is s lim w q2 58 = r := ⟨_, rfl⟩
            rw [h4] at h
            cases c with
            | false => cases h
            | true =>
              obtain ⟨_, _, _, b3⟩ := D6.must_yes h4
              simp only at h
              obtain ⟨⟨c, w3⟩, h5⟩ : ∃ r, R6.pass s lim w2 (q2 + 1) = r := ⟨_, rfl⟩
              rw [h5] at h
              cases c with
              | none => cases h
              | some q3 =>
                obtain ⟨k4, k5, k6⟩ := R6.pass_ok h5
                simp only at h
                obtain ⟨⟨c, w4⟩, h7⟩ : ∃ r, rc w3 q3 = r := ⟨_, rfl⟩
                rw [h7] at h
                cases c with
                | none => cases h
                | some q4 =>
                  obtain ⟨v, t, o1, i1, l1, p1⟩ := hrc _ _ _ _ h7
                  cases h
                  refine ⟨Bool.eq_false_iff.2 hc, v1, by omega, v, t, ?_, i1, by omega⟩
                  rw [o1, k4.1, b3.1, k1.1]
                  show z.out ++ [⟨4, 0, b⟩] ++ v = _
                  rw [t5.1, a3.1, List.append_assoc]
                  rfl
theorem objectN_right {d : Nat} {rc : St → Nat → Option Nat × St} (hrc : RcR d rc) {u : List Val} {q : Nat} {y : St} : ∀ (m : Nat) (x : St) (p k : Nat) (nm : List Bytes) (j : Int) (l : List Val), k % 2 = 0 → x.out = u ++ ⟨6, j, []⟩ :: l → R6.objectN s lim rc u.length m x p nm = (some q, y) →
    ∃ n v t, y.out = u ++ ⟨6, j + ((2 * n + 2 : Nat) : Int), []⟩ :: (l ++ v) ∧ Kids (ItF d) true (2 * n + 2) k nm v t false ∧ t.length + 1 ≤ 6 * (q - p) + 1 ∧ p < q
  | 0, _, _, _, _, _, _, _, _, h => by cases h
  | m + 1, x, p, k, nm, j, l, hk, hx, h => by
    unfold R6.objectN at h
    obtain ⟨⟨c, t⟩, h1⟩ : ∃ r, R6.member s lim rc x p nm = r := ⟨_, rfl⟩
    rw [h1] at h
    cases c with
    | none => cases h
    | some bq =>
      obtain ⟨b, q1⟩ := bq
      obtain ⟨hc, hv, p1, v1, t1, o1, i1, l1⟩ := member_right hrc h1
      have hb : R6.bump t.out u.length 2 = u ++ ⟨6, j + 2, []⟩ :: (l ++ (⟨4, 0, b⟩ :: v1)) := by rw [o1, hx, List.append_assoc, List.cons_append]; exact R6.bump_mid u (l ++ (⟨4, 0, b⟩ :: v1)) ⟨6, j, []⟩ 2
      simp only at h
      obtain ⟨⟨c, z⟩, h2⟩ : ∃ r, R6.pass s lim { t with out := R6.bump t.out u.length 2 } q1 = r := ⟨_, rfl⟩
      rw [h2] at h
      have hkt : (true && k % 2 == 0) = true := by simp [hk]
      have hkf : (true && (k + 1) % 2 == 0) = false := by simp; omega
      have hname : ItF d [(⟨4, 0, b⟩ : Val)] (told b) false := ItF.one (a := ⟨4, 0, b⟩) (by show ((0 : Int) == 0 && Lib.validD b) = true; rw [hv]; rfl) (Int.le_refl 4)
      have pair : ∀ (n : Nat) (v : List Val) (t2 : Bytes), Kids (ItF d) true n (k + 1 + 1) (nm ++ [b]) v t2 false → Kids (ItF d) true (n + 2) k nm (⟨4, 0, b⟩ :: (v1 ++ v)) (sep true k ++ told b ++ (sep true (k + 1) ++ t1 ++ t2)) false := by
        intro n v t2 kk
        refine ⟨[⟨4, 0, b⟩], v1 ++ v, told b, sep true (k + 1) ++ t1 ++ t2, false, false, rfl, rfl, hname, fun _ _ => ⟨_, rfl, rfl⟩, ⟨v1, v, t1, t2, false, false, rfl, rfl, i1, (fun _ e => by omega), ?_, ?_⟩, ?_⟩
        · rw [hkt, hkf, if_pos rfl, if_neg (by decide)]
          exact kk
        · rw [hkf]; rfl
        · rw [hkt]
          show false = ((true && nm.contains b) || false || false)
          rw [hc]
          rfl
      have hs1 := sep_one true k
      have hs2 := sep_one true (k + 1)
      cases c with
      | none => cases h
      | some q2 =>
        obtain ⟨k1, k2, k3⟩ := R6.pass_ok h2
        have hz : z.out = u ++ ⟨6, j + 2, []⟩ :: (l ++ (⟨4, 0, b⟩ :: v1)) := k1.1.trans hb
        simp only at h
        split at h
        · cases h
          refine ⟨0, _, _, ?_, pair 0 [] [] ⟨rfl, rfl, rfl⟩, ?_, by omega⟩
          · rw [List.append_nil]
            exact hz
          · simp only [List.length_append, List.length_nil]
            omega
        · split at h
          · cases h
          · obtain ⟨⟨c, w⟩, h3⟩ : ∃ r, R6.pass s lim z (q2 + 1) = r := ⟨_, rfl⟩
            rw [h3] at h
            cases c with
            | none => cases h
            | some q3 =>
              obtain ⟨k4, k5, k6⟩ := R6.pass_ok h3
              obtain ⟨n, v, t2, o2, i2, l2, p2⟩ := objectN_right hrc m w q3 (k + 1 + 1) (nm ++ [b]) (j + 2) (l ++ (⟨4, 0, b⟩ :: v1)) (by omega) (k4.1.trans hz) h
              refine ⟨n + 1, _, _, ?_, pair (2 * n + 2) v t2 i2, ?_, by omega⟩
              · rw [o2, List.append_assoc, List.cons_append, show j + 2 + ((2 * n + 2 : Nat) : Int) = j + ((2 * (n + 1) + 2 : Nat) : Int) by omega]
              · simp only [List.length_append]
                omega
end Go.Px.E6

/-! What is read is right: values (plain law, towards JsonNormal). No program is named here. -/
namespace Go.Px.E6
open R6 (at_ St sep)
variable {s : Bytes} {lim : Lim}
theorem plain_it {d : Nat} {x y : St} {p q : Nat} {c : Nat} (h1 : p < s.length) (h2 : (p : Int) < lim.b) (h : R6.plainV s lim { x with out := x.out ++ [⟨0, 0, []⟩] } c p x.out.length = (some q, y)) : ∃ v t, y.out = x.out ++ v ∧ ItF d v t false ∧ t.length ≤ 6 * (q - p) ∧ p < q := by
  obtain ⟨⟨a, o1, hr, h4, hl⟩, hlt⟩ := plain_right (u := x.out) rfl h1 h2 h
  exact ⟨[a], body a, o1, ItF.one hr h4, hl, hlt⟩
theorem right_arr (n : Nat) : right ⟨5, (n : Int), []⟩ = true := by
  show (decide ((0 : Int) ≤ (n : Int)) && ([] : Bytes) == []) = true
  simp
theorem right_obj (n : Nat) : right ⟨6, ((2 * n : Nat) : Int), []⟩ = true := by
  show (decide ((0 : Int) ≤ ((2 * n : Nat) : Int)) && ((2 * n : Nat) : Int).tmod 2 == 0 && ([] : Bytes) == []) = true
  have h : ((2 * n : Nat) : Int).tmod 2 = 0 := by
    rw [Int.tmod_eq_emod_of_nonneg (by omega)]
    omega
  rw [h, decide_eq_true (by omega)]
  rfl
theorem node_it {d : Nat} {k : Int} {n : Nat} {v : List Val} {t : Bytes} (hk : k = 5 ∨ k = 6) (hr : right ⟨k, (n : Int), []⟩ = true) (h : Kids (ItF d) (k == 6) n 0 [] v t false) : ∃ w, ItF (d + 1) (⟨k, (n : Int), []⟩ :: v) w false ∧ w.length = t.length + 2 := by
  refine ⟨_, ItF.node hr (by show 5 ≤ k; omega) (by show Kids (ItF d) (k == 6) ((n : Int)).toNat 0 [] v t false; rw [Int.toNat_natCast]; exact h), ?_⟩
  simp
theorem value_right : ∀ d, RcR d (R6.value s lim d)
  | 0 => by
    intro x p q y h
    unfold R6.value at h
    obtain ⟨⟨c, z⟩, h1⟩ : ∃ r, R6.want s lim x p = r := ⟨_, rfl⟩
    rw [h1] at h
    cases c with
    | false => cases h
    | true =>
      obtain ⟨_, a1, a2, a3⟩ := D6.want_yes h1
      simp only at h
      split at h
      · cases h
      · split at h
        · cases h
        · rw [← a1.1]
          exact plain_it a2 a3 h
  | d + 1 => by
    intro x p q y h
    unfold R6.value at h
    obtain ⟨⟨c, z⟩, h1⟩ : ∃ r, R6.want s lim x p = r := ⟨_, rfl⟩
    rw [h1] at h
    cases c with
    | false => cases h
    | true =>
      obtain ⟨_, a1, a2, a3⟩ := D6.want_yes h1
      simp only at h
      split at h
      · cases h
      · split at h
        · cases h
        · rw [← a1.1]
          have hk : ∀ k, R6.setKind (z.out ++ [⟨0, 0, []⟩]) z.out.length k = z.out ++ [⟨k, 0, []⟩] := fun k => R6.setKind_mid z.out [] ⟨0, 0, []⟩ k
          split at h
          · -- an object
            rw [hk 6] at h
            unfold R6.object at h
            obtain ⟨⟨c, w⟩, h2⟩ : ∃ r, R6.pass s lim (R6.frame { z with out := z.out ++ [⟨6, 0, []⟩] } 1) (p + 1) = r := ⟨_, rfl⟩
            rw [h2] at h
            cases c with
            | none => cases h
            | some q1 =>
              obtain ⟨k1, k2, k3⟩ := R6.pass_ok h2
              have hw : w.out = z.out ++ ⟨6, ((0 : Nat) : Int), []⟩ :: [] := k1.1
              simp only at h
              split at h
              · cases h
                obtain ⟨t, i1, i2⟩ := node_it (d := d) (k := 6) (n := 0) (v := []) (t := []) (.inr rfl) (right_obj 0) ⟨rfl, rfl, rfl⟩
                exact ⟨_, t, hw, i1, by rw [i2]; simp only [List.length_nil]; omega, by omega⟩
              · obtain ⟨n, v, t, o1, i1, l1, p1⟩ := objectN_right (value_right d) _ w q1 0 [] 0 [] rfl hw h
                obtain ⟨t2, i2, i3⟩ := node_it (d := d) (k := 6) (n := 2 * n + 2) (v := v) (t := t) (.inr rfl) (right_obj (n + 1)) i1
                refine ⟨_, t2, ?_, i2, by omega, by omega⟩
                rw [o1, Int.zero_add]
                rfl
          · split at h
            · -- an array
              rw [hk 5] at h
              unfold R6.array at h
              obtain ⟨⟨c, w⟩, h2⟩ : ∃ r, R6.pass s lim (R6.frame { z with out := z.out ++ [⟨5, 0, []⟩] } 1) (p + 1) = r := ⟨_, rfl⟩
              rw [h2] at h
              cases c with
              | none => cases h
              | some q1 =>
                obtain ⟨k1, k2, k3⟩ := R6.pass_ok h2
                have hw : w.out = z.out ++ ⟨5, ((0 : Nat) : Int), []⟩ :: [] := k1.1
                simp only at h
                split at h
                · cases h
                  obtain ⟨t, i1, i2⟩ := node_it (d := d) (k := 5) (n := 0) (v := []) (t := []) (.inl rfl) (right_arr 0) ⟨rfl, rfl, rfl⟩
                  exact ⟨_, t, hw, i1, by rw [i2]; simp only [List.length_nil]; omega, by omega⟩
                · obtain ⟨n, v, t, o1, i1, l1, p1⟩ := arrayN_right (value_right d) _ w q1 0 [] 0 [] hw h
                  obtain ⟨t2, i2, i3⟩ := node_it (d := d) (k := 5) (n := n + 1) (v := v) (t := t) (.inl rfl) (right_arr (n + 1)) i1
                  refine ⟨_, t2, ?_, i2, by omega, by omega⟩
                  rw [o1, Int.zero_add]
                  rfl
            · exact plain_it a2 a3 h
end Go.Px.E6

/-! One value: all in it are right; how deep Behind goes (plain law, towards JsonNormal). No program is named here. -/
namespace Go.Px.E6
open R6 (Bf bad less opened drop0 behN sep)
theorem kids_all {d : Nat} (ih : ∀ l t dp, ItF d l t dp → ∀ a ∈ l, right a = true) {ob : Bool} : ∀ (m k : Nat) (nm : List Bytes) (x : List Val) (u : Bytes) (dp : Bool), Kids (ItF d) ob m k nm x u dp → ∀ a ∈ x, right a = true
  | 0, _, _, _, _, _, h, a, ha => by obtain ⟨rfl, _⟩ := h; cases ha
  | m + 1, _, _, _, _, _, h, a, ha => by
    obtain ⟨x1, y, u1, v, d1, d2, rfl, _, h1, _, h3, _⟩ := h
    rcases List.mem_append.1 ha with e | e
    · exact ih _ _ _ h1 a e
    · exact kids_all ih m _ _ _ _ _ h3 a e
theorem it_all : ∀ (d : Nat) (l : List Val) (t : Bytes) (dp : Bool), ItF d l t dp → ∀ a ∈ l, right a = true
  | 0, _, _, _, h, a, ha => by
    obtain ⟨b, rfl, hr, _⟩ := h
    rw [List.mem_singleton.1 ha]
    exact hr
  | d + 1, _, _, _, h, a, ha => by
    rcases h with ⟨b, rfl, hr, _⟩ | ⟨b, r, u, rfl, hr, _, _, hk⟩
    · rw [List.mem_singleton.1 ha]; exact hr
    · rcases List.mem_cons.1 ha with rfl | e
      · exact hr
      · exact kids_all (it_all d) _ _ _ _ _ _ hk a e
def BehD (d : Nat) : Prop := ∀ x t dp, ItF d x t dp → ∀ (bs : List Bf) (r : List Val) (most i : Nat), (∀ a q, x = a :: q → bad a bs = false) → ∃ m1, behN (x ++ r) bs most i = afterB (less bs) r m1 (i + x.length) ∧ m1 ≤ max most (bs.length + d)
theorem beh_kids_d {d : Nat} (ih : BehD d) {ob : Bool} : ∀ (m k : Nat) (nm : List Bytes) (x : List Val) (u : Bytes) (dp : Bool), Kids (ItF d) ob m k nm x u dp → ∀ (st : List Bf) (r : List Val) (most i : Nat), ∃ m1, afterB (⟨m, k + m, ob⟩ :: st) (x ++ r) most i = afterB st r m1 (i + x.length) ∧ m1 ≤ max most (st.length + 1 + d)
  | 0, k, nm, x, u, dp, h, st, r, most, i => by
    obtain ⟨rfl, _, _⟩ := h
    exact ⟨most, by rw [afterB_zero]; rfl, Nat.le_max_left _ _⟩
  | m + 1, k, nm, x, u, dp, h, st, r, most, i => by
    obtain ⟨x1, y, u1, v, d1, d2, rfl, _, h1, h2, h3, _⟩ := h
    rw [afterB_live, List.append_assoc]
    obtain ⟨m1, e1, b1⟩ := ih x1 u1 d1 h1 (⟨m + 1, k + (m + 1), ob⟩ :: st) (y ++ r) most i (fun a q e => bad_kids fun e1 e2 => by
      obtain ⟨b, hb, hb4⟩ := h2 e1 e2
      rw [e] at hb
      cases hb
      exact hb4)
    rw [e1]
    have e2 : less (⟨m + 1, k + (m + 1), ob⟩ :: st) = ⟨m, (k + 1) + m, ob⟩ :: st := by
      unfold less
      simp only [Nat.add_sub_cancel]
      rw [show k + (m + 1) = k + 1 + m by omega]
    rw [e2]
    obtain ⟨m2, e3, b3⟩ := beh_kids_d ih m (k + 1) _ y v d2 h3 st r m1 (i + x1.length)
    rw [List.length_cons] at b1
    exact ⟨m2, by rw [e3, List.length_append, Nat.add_assoc], by omega⟩
theorem beh_d : ∀ d, BehD d
  | 0 => by
    intro x t dp h bs r most i hb
    obtain ⟨a, rfl, hr, h4, _⟩ := h
    rw [List.singleton_append, beh_step r most i hr (hb a [] rfl), opened_leaf h4]
    exact ⟨_, rfl, by rw [less_len]; exact Nat.le_refl _⟩
  | d + 1 => by
    intro x t dp h bs r most i hb
    rcases h with ⟨a, rfl, hr, h4, _⟩ | ⟨a, r', u, rfl, hr, h5, _, hk⟩
    · rw [List.singleton_append, beh_step r most i hr (hb a [] rfl), opened_leaf h4]
      exact ⟨_, rfl, by rw [less_len]; omega⟩
    · rw [List.cons_append, beh_step _ most i hr (hb a r' rfl), opened_node hr h5]
      obtain ⟨m1, e, b1⟩ := beh_kids_d (beh_d d) a.kids.toNat 0 [] r' u dp hk (less bs) r (max most (⟨a.kids.toNat, a.kids.toNat, a.kind == 6⟩ :: less bs).length) (i + 1)
      rw [Nat.zero_add] at e
      rw [List.length_cons, less_len] at b1
      exact ⟨m1, by rw [e, List.length_cons, Nat.add_assoc, Nat.add_comm 1], by omega⟩
/-- Behind goes over one value, and no deeper than it is. -/
theorem behind_d {d : Nat} {l : List Val} {t : Bytes} {dp : Bool} (h : ItF d l t dp) : (R6.behind l 0).1 = some l.length ∧ (R6.behind l 0).2 ≤ d := by
  unfold R6.behind
  obtain ⟨m1, e, b⟩ := beh_d d l t dp h [] [] 0 0 (fun a q _ => rfl)
  rw [List.append_nil] at e
  rw [List.drop_zero, e]
  simp only [List.length_nil] at b
  exact ⟨by show some (0 + l.length) = _; rw [Nat.zero_add], by show m1 ≤ d; omega⟩
end Go.Px.E6

/-! One value is told by its text, unless that is too long (plain law, towards JsonNormal). No program is named here. -/
namespace Go.Px.E6
theorem encode_it {d : Nat} {l : List Val} {t : Bytes} (h : ItF d l t false) (hd : d ≤ 32) (hl : l.length ≤ 4096) : (encode l = (t, 0) ∧ t.length ≤ 262144) ∨ (encode l = ([], 10) ∧ 262144 < t.length) := by
  have hall := it_all d l t false h
  obtain ⟨hb1, hb2⟩ := behind_d h
  have hdup := dup_it _ _ _ _ h l [] 0 (by simp)
  have hpos := h.pos
  have hit := it_of_beh (D := d) hall hb1 hb2
  obtain ⟨t1, q1, g1, e1, e2, e3⟩ := tell_it _ _ _ _ h l [] 0 (d + l.length + 1) (by simp) (by omega)
  obtain ⟨t2, q2, g2, f1, f2, f3⟩ := tell_it _ _ _ _ hit l [] 0 (d + l.length + 1) (by simp) (by omega)
  rw [e1] at f1
  simp only [Prod.mk.injEq, R6.Ts.mk.injEq] at f1
  obtain ⟨rfl, _, _, rfl⟩ := f1
  have hkey : t = txtN l [] ∨ (262144 < t.length ∧ 262144 < (txtN l []).length) := by
    cases g1 with
    | false => exact .inl ((e2 rfl).1.symm.trans (f2 rfl).1)
    | true => exact .inr ⟨e3 rfl, f3 rfl⟩
  have henc : encode l = match encN l [] [] with | none => ([], 10) | some s => (s, 0) := by
    have hsb := shape_beh l true [] [] 0 0 hall trivial trivial (by intro e; rw [e] at hpos; simp at hpos) (.inl rfl)
    have hbd : R6.behind l 0 = R6.behN l [] 0 0 := by unfold R6.behind; rw [List.drop_zero]
    rw [← hbd, Nat.zero_add] at hsb
    have hdn : dupN l [] = false := by
      have := dup_it _ _ _ _ hit l [] 0 (by simp)
      rw [this, ← hdup]
    have hok := hsb.1.2 ⟨hb1, hdn⟩
    have hm := hsb.2 hok
    unfold encode shape
    rw [if_neg (by omega)]
    cases hs : shapeN l true [] 0 with
    | mk most ok =>
      rw [hs] at hok hm
      simp only at hok hm
      subst hok
      simp only
      rw [if_neg (by decide), if_neg (by omega)]
      cases encN l [] [] <;> rfl
  rw [henc, encN_txt l [] [] [] trivial hall, List.nil_append]
  rcases hkey with rfl | ⟨h1, h2⟩
  · by_cases hz : 262144 < (txtN l []).length
    · rw [if_pos hz]
      exact .inr ⟨rfl, hz⟩
    · rw [if_neg hz]
      exact .inl ⟨rfl, by omega⟩
  · rw [if_pos h2]
    exact .inr ⟨rfl, h1⟩
end Go.Px.E6

/-! The program's reader over two texts alike: what it tells of one is what it tells of the other, moved (plain law). No program is named here. -/
namespace Go.Px.D6
open R6 (at_ setText bump digit hex letter)
/-- A byte that no number goes on with. -/
def neutral (c : Nat) : Bool := !(digit c) && c != 43 && c != 45 && c != 46 && c != 69 && c != 101
/-- The one text's bytes stand in the other, so far on. -/
structure W (ex : Bool) (k : Nat) (s : Bytes) (lim : Lim) (s' : Bytes) (lim' : Lim) : Prop where
  le : s.length + k ≤ s'.length
  bp : 0 ≤ lim.b
  ok : ∀ p : Nat, p < s.length → (p : Int) < lim.b → ((p + k : Nat) : Int) < lim'.b
  bt : ∀ p, p < s.length → s'.getD (p + k) 0 = s.getD p 0
  sl : ∀ p q, q ≤ s.length → (s'.take (q + k)).drop (p + k) = (s.take q).drop p
  er : ex = true → ∀ p e, want s lim p = .error e → want s' lim' (p + k) = .error (e.1 + k, e.2)
  bl : ∀ p, s.length + k ≤ p → p < s'.length → (p : Int) < lim'.b ∧ R6.blank (at_ s' p) = true
  nn : ∀ p : Nat, ¬ (p < s.length ∧ (p : Int) < lim.b) → neutral (peek s' lim' (p + k)) = true
/-- What may be told of an error: its kind, its place. -/
def Bad (s : Bytes) (lim : Lim) (e : Flt) : Prop := (e.2 = 9 ∨ e.2 = 10) ∧ 0 ≤ e.1 ∧ e.1 ≤ max (s.length : Int) lim.b
theorem bad9 {s : Bytes} {lim : Lim} {p : Nat} (h : p ≤ s.length) : Bad s lim ((p : Int), 9) := ⟨.inl rfl, by show (0 : Int) ≤ (p : Int); omega, by show (p : Int) ≤ _; omega⟩
theorem bad10 {s : Bytes} {lim : Lim} {p : Nat} (h : p ≤ s.length) : Bad s lim ((p : Int), 10) := ⟨.inr rfl, by show (0 : Int) ≤ (p : Int); omega, by show (p : Int) ≤ _; omega⟩
def Rel {α : Type} (s : Bytes) (lim : Lim) (ex : Bool) (k : Nat) (σ : α → α) (P : α → Prop) (r r' : Except Flt α) : Prop := match r with
  | .ok v => r' = .ok (σ v) ∧ P v
  | .error e => Bad s lim e ∧ (ex = true → r' = .error (e.1 + k, e.2))
theorem Rel.err {α : Type} {s : Bytes} {lim : Lim} {ex : Bool} {k : Nat} {σ : α → α} {P : α → Prop} {e : Flt} {r' : Except Flt α} (hc : Bad s lim e) (h : ex = true → r' = .error (e.1 + k, e.2)) : Rel s lim ex k σ P (.error e) r' := ⟨hc, h⟩
theorem Rel.fine {α : Type} {s : Bytes} {lim : Lim} {ex : Bool} {k : Nat} {σ : α → α} {P : α → Prop} {v : α} {r' : Except Flt α} (h : r' = .ok (σ v)) (hp : P v) : Rel s lim ex k σ P (.ok v) r' := ⟨h, hp⟩
theorem Rel.cases {α : Type} {s : Bytes} {lim : Lim} {ex : Bool} {k : Nat} {σ : α → α} {P : α → Prop} {r r' : Except Flt α} (h : Rel s lim ex k σ P r r') : (∃ v, r = .ok v ∧ r' = .ok (σ v) ∧ P v) ∨ (∃ e, r = .error e ∧ Bad s lim e ∧ (ex = true → r' = .error (e.1 + k, e.2))) := by
  cases r with
  | ok v => exact .inl ⟨v, rfl, h.1, h.2⟩
  | error e => exact .inr ⟨e, rfl, h.1, h.2⟩
theorem Rel.weak {α : Type} {s : Bytes} {lim : Lim} {ex : Bool} {k : Nat} {σ : α → α} {P Q : α → Prop} {r r' : Except Flt α} (h : Rel s lim ex k σ P r r') (f : ∀ v, P v → Q v) : Rel s lim ex k σ Q r r' := by
  rcases h.cases with ⟨v, rfl, e2, hp⟩ | ⟨e, rfl, hc, e2⟩
  · exact .fine e2 (f v hp)
  · exact .err hc e2
variable {ex : Bool} {k : Nat} {s s' : Bytes} {lim lim' : Lim}
theorem W.at (w : W ex k s lim s' lim') {p : Nat} (h : p < s.length) : at_ s' (p + k) = at_ s p := by unfold R6.at_; rw [w.bt p h]
theorem want_code {p : Nat} {e : Flt} (hb : 0 ≤ lim.b) (h : want s lim p = .error e) : Bad s lim e := by
  unfold want at h
  split at h
  · cases h; exact bad9 (Nat.le_refl _)
  · split at h
    · cases h; exact ⟨.inr rfl, hb, Int.le_max_right _ _⟩
    · cases h
theorem want_rel (w : W ex k s lim s' lim') (p : Nat) : Rel s lim ex k id (fun c => p < s.length ∧ (p : Int) < lim.b ∧ c = at_ s p) (want s lim p) (want s' lim' (p + k)) := by
  cases hw : want s lim p with
  | error e => exact .err (want_code w.bp hw) (fun hx => w.er hx p e hw)
  | ok c =>
    unfold want at hw
    split at hw
    · cases hw
    · split at hw
      · cases hw
      · cases hw
        rename_i h1 h2
        have h3 := w.le
        have h4 := w.ok p (by omega) (by omega)
        refine .fine ?_ ⟨by omega, by omega, rfl⟩
        unfold want
        rw [if_neg (by omega), if_neg (by omega), w.at (by omega)]
        rfl
theorem passN_rel (w : W ex k s lim s' lim') : ∀ m m' p, s.length + 1 ≤ m + p → s'.length + 1 ≤ m' + (p + k) → p ≤ s.length → Rel s lim ex k (· + k) (fun q => q < s.length ∧ (q : Int) < lim.b) (passN s lim m p) (passN s' lim' m' (p + k))
  | 0, m', p, h1, h2, h3 => by omega
  | m + 1, 0, p, h1, h2, h3 => by have := w.le; omega
  | m + 1, m' + 1, p, h1, h2, h3 => by
    unfold passN
    rcases (want_rel w p).cases with ⟨c, e1, e2, h4, h5, rfl⟩ | ⟨e, e1, hc, e2⟩
    · rw [e1, e2]
      simp only [id]
      by_cases hb : R6.blank (at_ s p) = true
      · rw [if_pos hb, if_pos hb, Nat.add_right_comm]
        exact passN_rel w m m' (p + 1) (by omega) (by omega) (by omega)
      · rw [if_neg hb, if_neg hb]
        exact .fine rfl ⟨h4, h5⟩
    · rw [e1]
      exact .err hc (fun hx => by rw [e2 hx])
theorem pass_rel (w : W ex k s lim s' lim') {p : Nat} (h : p ≤ s.length) : Rel s lim ex k (· + k) (fun q => q < s.length ∧ (q : Int) < lim.b) (pass s lim p) (pass s' lim' (p + k)) := by
  unfold pass
  have := w.le
  exact passN_rel w _ _ _ (by omega) (by omega) h
theorem must_rel (w : W ex k s lim s' lim') (p c : Nat) : Rel s lim ex k (· + k) (fun q => q = p + 1 ∧ q ≤ s.length) (must s lim p c) (must s' lim' (p + k) c) := by
  unfold must
  rcases (want_rel w p).cases with ⟨z, e1, e2, h4, h5, rfl⟩ | ⟨e, e1, hc, e2⟩
  · rw [e1, e2]
    simp only [id]
    split
    · exact .fine (by rw [Nat.add_right_comm]) ⟨rfl, h4⟩
    · exact .err (bad9 (by omega)) (fun _ => rfl)
  · rw [e1]
    exact .err hc (fun hx => by rw [e2 hx])
theorem wordN_rel (w : W ex k s lim s' lim') : ∀ (l : Bytes) (p : Nat), p ≤ s.length → Rel s lim ex k (· + k) (fun q => q ≤ s.length) (wordN s lim l p) (wordN s' lim' l (p + k))
  | [], p, h => .fine rfl h
  | c :: l, p, h => by
    unfold wordN
    rcases (must_rel w p c.toNat).cases with ⟨z, e1, e2, h4, h5⟩ | ⟨e, e1, hc, e2⟩
    · rw [e1, e2]
      exact wordN_rel w l z h5
    · rw [e1]
      exact .err hc (fun hx => by rw [e2 hx])
theorem tst (w : W ex k s lim s' lim') (f : Nat → Bool) (hf : ∀ c, neutral c = true → f c = false) (p : Nat) : f (peek s' lim' (p + k)) = f (peek s lim p) := by
  by_cases h : p < s.length ∧ (p : Int) < lim.b
  · have h1 := w.le
    have h2 := w.ok p h.1 h.2
    unfold peek
    rw [if_neg (by omega), if_neg (by omega), w.at h.1]
  · rw [hf _ (w.nn p h)]
    unfold peek
    rw [if_pos (by omega), hf 0 rfl]
theorem tst_on {f : Nat → Bool} (hf : ∀ c, neutral c = true → f c = false) {p : Nat} (h : f (peek s lim p) = true) : p < s.length := by
  unfold peek at h
  split at h
  · rw [hf 0 rfl] at h; cases h
  · omega
theorem n_digit : ∀ c, neutral c = true → digit c = false := by intro c h; unfold neutral at h; simp only [Bool.and_eq_true, Bool.not_eq_true'] at h; exact h.1.1.1.1.1
theorem n_48 : ∀ c, neutral c = true → (c == 48) = false := by
  intro c h
  have := n_digit c h
  unfold R6.digit at this
  simp only [Bool.and_eq_false_iff, decide_eq_false_iff_not] at this
  simp only [beq_eq_false_iff_ne, ne_eq]
  omega
theorem n_is (a : Nat) (ha : a = 43 ∨ a = 45 ∨ a = 46 ∨ a = 69 ∨ a = 101) : ∀ c, neutral c = true → (c == a) = false := by
  intro c h
  unfold neutral at h
  simp only [Bool.and_eq_true, bne_iff_ne, ne_eq] at h
  simp only [beq_eq_false_iff_ne, ne_eq]
  omega
theorem digN_rel (w : W ex k s lim s' lim') : ∀ m m' p, s.length + 1 ≤ m + p → s'.length + 1 ≤ m' + (p + k) → p ≤ s.length → digN s' lim' m' (p + k) = digN s lim m p + k ∧ digN s lim m p ≤ s.length
  | 0, m', p, h1, h2, h3 => by omega
  | m + 1, 0, p, h1, h2, h3 => by have := w.le; omega
  | m + 1, m' + 1, p, h1, h2, h3 => by
    unfold digN
    rw [tst w digit n_digit]
    by_cases hd : digit (peek s lim p) = true
    · have := tst_on n_digit hd
      rw [if_pos hd, if_pos hd, Nat.add_right_comm]
      exact digN_rel w m m' (p + 1) (by omega) (by omega) (by omega)
    · rw [if_neg hd, if_neg hd]
      exact ⟨rfl, h3⟩
theorem digits_rel (w : W ex k s lim s' lim') {p : Nat} (h : p ≤ s.length) : Rel s lim ex k (· + k) (fun q => q ≤ s.length) (digits s lim p) (digits s' lim' (p + k)) := by
  unfold digits
  rw [tst w digit n_digit]
  by_cases hd : digit (peek s lim p) = true
  · rw [if_pos hd, if_pos hd]
    have := w.le
    obtain ⟨e1, e2⟩ := digN_rel w (s.length + 1 - p) (s'.length + 1 - (p + k)) p (by omega) (by omega) h
    exact .fine (by rw [e1]) e2
  · rw [if_neg hd, if_neg hd]
    rcases (want_rel w p).cases with ⟨z, e1, e2, h4, h5, rfl⟩ | ⟨e, e1, hc, e2⟩
    · rw [e1, e2]
      exact .err (bad9 (by omega)) (fun _ => rfl)
    · rw [e1]
      exact .err hc (fun hx => by rw [e2 hx])
theorem numA_rel (w : W ex k s lim s' lim') {p : Nat} (h : p ≤ s.length) : Rel s lim ex k (· + k) (fun q => q ≤ s.length) (numA s lim p) (numA s' lim' (p + k)) := by
  unfold numA
  have e0 := tst w (· == 45) (n_is 45 (by simp)) p
  rw [e0]
  have hq : ∃ q, (if (peek s lim p == 45) = true then p + 1 else p) = q ∧ (if (peek s lim p == 45) = true then p + k + 1 else p + k) = q + k ∧ q ≤ s.length := by
    by_cases hd : (peek s lim p == 45) = true
    · have := tst_on (f := (· == 45)) (n_is 45 (by simp)) hd
      rw [if_pos hd, if_pos hd]
      exact ⟨p + 1, rfl, by omega, this⟩
    · rw [if_neg hd, if_neg hd]
      exact ⟨p, rfl, rfl, h⟩
  obtain ⟨q, e1, e2, h1⟩ := hq
  rw [e1, e2]
  simp only
  have e3 := tst w (· == 48) n_48 q
  rw [e3]
  by_cases hd : (peek s lim q == 48) = true
  · have := tst_on (f := (· == 48)) n_48 hd
    rw [if_pos hd, if_pos hd]
    exact .fine (by rw [Nat.add_right_comm]) this
  · rw [if_neg hd, if_neg hd]
    exact digits_rel w h1
theorem numB_rel (w : W ex k s lim s' lim') {p : Nat} (h : p ≤ s.length) : Rel s lim ex k (· + k) (fun q => q ≤ s.length) (numB s lim p) (numB s' lim' (p + k)) := by
  unfold numB
  have e0 := tst w (· == 46) (n_is 46 (by simp)) p
  skip -- e0
  rw [e0]
  by_cases hd : (peek s lim p == 46) = true
  · have := tst_on (f := (· == 46)) (n_is 46 (by simp)) hd
    rw [if_pos hd, if_pos hd, Nat.add_right_comm]
    exact digits_rel w this
  · rw [if_neg hd, if_neg hd]
    exact .fine rfl h
theorem numC_rel (w : W ex k s lim s' lim') {p : Nat} (h : p ≤ s.length) : Rel s lim ex k (· + k) (fun q => q ≤ s.length) (numC s lim p) (numC s' lim' (p + k)) := by
  unfold numC
  have n1 : ∀ c, neutral c = true → (c == 101 || c == 69) = false := fun c hc => by rw [n_is 101 (by simp) c hc, n_is 69 (by simp) c hc]; rfl
  have n2 : ∀ c, neutral c = true → (c == 43 || c == 45) = false := fun c hc => by rw [n_is 43 (by simp) c hc, n_is 45 (by simp) c hc]; rfl
  have e0 := tst w (fun c => c == 101 || c == 69) n1 p
  rw [e0]
  by_cases hd : (peek s lim p == 101 || peek s lim p == 69) = true
  · have h1 := tst_on (f := fun c => c == 101 || c == 69) n1 hd
    rw [if_pos hd, if_pos hd, Nat.add_right_comm]
    have e1 := tst w (fun c => c == 43 || c == 45) n2 (p + 1)
    rw [e1]
    by_cases hd2 : (peek s lim (p + 1) == 43 || peek s lim (p + 1) == 45) = true
    · have h2 := tst_on (f := fun c => c == 43 || c == 45) n2 hd2
      rw [if_pos hd2, if_pos hd2, Nat.add_right_comm]
      exact digits_rel w h2
    · rw [if_neg hd2, if_neg hd2]
      exact digits_rel w h1
  · rw [if_neg hd, if_neg hd]
    exact .fine rfl h
theorem number_rel (w : W ex k s lim s' lim') {p : Nat} (h : p ≤ s.length) : Rel s lim ex k (· + k) (fun q => q ≤ s.length) (number s lim p) (number s' lim' (p + k)) := by
  unfold number
  rcases (numA_rel w h).cases with ⟨q, e1, e2, h4⟩ | ⟨e, e1, hc, e2⟩
  · rw [e1, e2]
    simp only
    rcases (numB_rel w h4).cases with ⟨q2, e3, e4, h5⟩ | ⟨e, e3, hc, e4⟩
    · rw [e3, e4]
      exact numC_rel w h5
    · rw [e3]
      exact .err hc (fun hx => by rw [e4 hx])
  · rw [e1]
    exact .err hc (fun hx => by rw [e2 hx])
theorem fourN_rel (w : W ex k s lim s' lim') : ∀ (m p n : Nat), p ≤ s.length → Rel s lim ex k id (fun _ => p + m ≤ s.length) (fourN s lim m p n) (fourN s' lim' m (p + k) n)
  | 0, p, n, h => .fine rfl h
  | m + 1, p, n, h => by
    unfold fourN
    rcases (want_rel w p).cases with ⟨z, e1, e2, h4, h5, rfl⟩ | ⟨e, e1, hc, e2⟩
    · rw [e1, e2]
      simp only [id]
      cases hex (at_ s p) with
      | none => exact .err (bad9 (by omega)) (fun _ => rfl)
      | some v =>
        simp only
        rw [Nat.add_right_comm]
        exact (fourN_rel w m (p + 1) _ h4).weak (fun _ hv => by omega)
    · rw [e1]
      exact .err hc (fun hx => by rw [e2 hx])
theorem cast9 {α : Type} (a k : Nat) : (Except.error (((a + k : Nat) : Int), (9 : Int)) : Except Flt α) = .error ((a : Int) + k, 9) := rfl
/-- What was told, and the place behind, moved. -/
def mv (k : Nat) (v : Bytes × Nat) : Bytes × Nat := (v.1, v.2 + k)
theorem mv_ok (b : Bytes) (a k : Nat) : (Except.ok (b, a + k) : Except Flt (Bytes × Nat)) = .ok (mv k (b, a)) := rfl
theorem second_rel (w : W ex k s lim s' lim') (p n : Nat) : Rel s lim ex k (mv k) (fun v => v.2 ≤ s.length) (second s lim p n) (second s' lim' (p + k) n) := by
  unfold second
  rcases (must_rel w p 92).cases with ⟨q, e1, e2, rfl, h5⟩ | ⟨e, e1, hc, e2⟩
  · rw [e1, e2]
    simp only
    rcases (must_rel w (p + 1) 117).cases with ⟨q, e3, e4, rfl, h6⟩ | ⟨e, e3, hc, e4⟩
    · rw [e3, e4]
      simp only
      unfold four
      rcases (fourN_rel w 4 (p + 1 + 1) 0 h6).cases with ⟨m, e5, e6, h7⟩ | ⟨e, e5, hc, e6⟩
      · rw [e5, e6]
        simp only [id]
        split
        · exact .err (bad9 (by omega)) (fun _ => by rw [Nat.add_right_comm p k _]; exact cast9 _ _)
        · exact .fine (by rw [Nat.add_right_comm p k _]; exact mv_ok _ _ _) (by show p + 6 ≤ _; omega)
      · rw [e5]
        exact .err hc (fun hx => by rw [e6 hx])
    · rw [e3]
      exact .err hc (fun hx => by rw [e4 hx])
  · rw [e1]
    exact .err hc (fun hx => by rw [e2 hx])
theorem escape_rel (w : W ex k s lim s' lim') (p : Nat) : Rel s lim ex k (mv k) (fun v => v.2 ≤ s.length) (escape s lim p) (escape s' lim' (p + k)) := by
  unfold escape
  rcases (want_rel w p).cases with ⟨z, e1, e2, h4, h5, rfl⟩ | ⟨e, e1, hc, e2⟩
  · rw [e1, e2]
    simp only [id]
    cases letter (at_ s p) with
    | some b => exact .fine (by rw [Nat.add_right_comm p k _]; exact mv_ok _ _ _) h4
    | none =>
      simp only
      split
      · unfold four
        rw [Nat.add_right_comm p k 1]
        rcases (fourN_rel w 4 (p + 1) 0 h4).cases with ⟨m, e5, e6, h7⟩ | ⟨e, e5, hc, e6⟩
        · rw [e5, e6]
          simp only [id]
          split
          · exact .err (bad9 (by omega)) (fun _ => by rw [Nat.add_right_comm p k _]; exact cast9 _ _)
          · split
            · rw [Nat.add_right_comm p k 5]
              exact second_rel w (p + 5) m
            · exact .fine (by rw [Nat.add_right_comm p k _]; exact mv_ok _ _ _) (by show p + 5 ≤ _; omega)
        · rw [e5]
          exact .err hc (fun hx => by rw [e6 hx])
      · exact .err (bad9 (by omega)) (fun _ => rfl)
  · rw [e1]
    exact .err hc (fun hx => by rw [e2 hx])
theorem signN_rel (w : W ex k s lim s' lim') : ∀ (m p a b : Nat), p ≤ s.length → Rel s lim ex k (· + k) (fun q => q ≤ s.length) (signN s lim m p a b) (signN s' lim' m (p + k) a b)
  | 0, p, a, b, h => .fine rfl h
  | m + 1, p, a, b, h => by
    unfold signN
    rcases (want_rel w p).cases with ⟨z, e1, e2, h4, h5, rfl⟩ | ⟨e, e1, hc, e2⟩
    · rw [e1, e2]
      simp only [id]
      split
      · exact .err (bad9 (by omega)) (fun _ => rfl)
      · rw [Nat.add_right_comm]
        exact signN_rel w m (p + 1) _ _ h4
    · rw [e1]
      exact .err hc (fun hx => by rw [e2 hx])
theorem sign_rel (w : W ex k s lim s' lim') (p : Nat) : Rel s lim ex k (· + k) (fun q => q ≤ s.length) (sign s lim p) (sign s' lim' (p + k)) := by
  unfold sign
  rcases (want_rel w p).cases with ⟨z, e1, e2, h4, h5, rfl⟩ | ⟨e, e1, hc, e2⟩
  · rw [e1, e2]
    simp only [id]
    split
    · exact .err (bad9 (by omega)) (fun _ => rfl)
    · rw [Nat.add_right_comm]
      exact signN_rel w _ (p + 1) _ _ h4
  · rw [e1]
    exact .err hc (fun hx => by rw [e2 hx])
theorem textN_rel (w : W ex k s lim s' lim') : ∀ (m m' p : Nat) (out : Bytes), s.length + 1 ≤ m + p → s'.length + 1 ≤ m' + (p + k) → p ≤ s.length → Rel s lim ex k (mv k) (fun v => v.2 ≤ s.length) (textN s lim m p out) (textN s' lim' m' (p + k) out)
  | 0, m', p, out, h1, h2, h3 => by omega
  | m + 1, 0, p, out, h1, h2, h3 => by have := w.le; omega
  | m + 1, m' + 1, p, out, h1, h2, h3 => by
    unfold textN
    rcases (want_rel w p).cases with ⟨z, e1, e2, h4, h5, rfl⟩ | ⟨e, e1, hc, e2⟩
    · rw [e1, e2]
      simp only [id]
      split
      · exact .fine (by rw [Nat.add_right_comm]; exact mv_ok _ _ _) h4
      · split
        · exact .err (bad9 (by omega)) (fun _ => rfl)
        · split
          · rw [Nat.add_right_comm p k 1]
            rcases (escape_rel w (p + 1)).cases with ⟨v, e3, e4, h6⟩ | ⟨e, e3, hc, e4⟩
            · rw [e3, e4]
              obtain ⟨b, q⟩ := v
              have hq : p + 1 ≤ q := (by have := (E6.escape_valid e3).2; omega)
              exact textN_rel w m m' q _ (by omega) (by omega) h6
            · rw [e3]
              exact .err hc (fun hx => by rw [e4 hx])
          · split
            · rcases (sign_rel w p).cases with ⟨q, e3, e4, h6⟩ | ⟨e, e3, hc, e4⟩
              · rw [e3, e4]
                simp only
                have hq : p + 1 ≤ q := (by have := (E6.sign_valid e3).2.1; omega)
                rw [w.sl p q h6]
                exact textN_rel w m m' q _ (by omega) (by omega) h6
              · rw [e3]
                exact .err hc (fun hx => by rw [e4 hx])
            · rw [w.bt p h4, Nat.add_right_comm p k 1]
              exact textN_rel w m m' (p + 1) _ (by omega) (by omega) h4
    · rw [e1]
      exact .err hc (fun hx => by rw [e2 hx])
theorem text_rel (w : W ex k s lim s' lim') {p : Nat} (h : p < s.length) : Rel s lim ex k (mv k) (fun v => v.2 ≤ s.length) (text s lim p) (text s' lim' (p + k)) := by
  unfold text
  have := w.le
  rw [Nat.add_right_comm p k 1]
  exact textN_rel w _ _ (p + 1) [] (by omega) (by omega) h
end Go.Px.D6

/-! The program's reader over two texts alike: steps and the whole reading; greater and lesser limits (plain law). No program is named here. -/
namespace Go.Px.D6
open R6 (at_ setText bump digit hex letter)
variable {ex : Bool} {k : Nat} {s s' : Bytes} {lim lim' : Lim}
def mvx (k : Nat) (x : Dx) : Dx := ⟨x.at_ + k, x.stack, x.out⟩
def mvn (k : Nat) (y : Nx) : Nx := (y.1, mvx k y.2)
structure Lims (ex : Bool) (lim lim' : Lim) : Prop where
  d : lim.d ≤ lim'.d
  e : ex = true → lim'.d = lim.d ∧ lim'.i = lim.i
/-- What holds ahead of each step. -/
structure Inv (s : Bytes) (lim : Lim) (n : Nat) (x : Dx) : Prop where
  ps : x.at_ ≤ s.length
  oi : (x.out.length : Int) ≤ lim.i
  st : (x.stack.length : Int) ≤ lim.d
  nx : n ≠ 0 → n ≠ 1 → n ≠ 4 → n ≠ 5 → x.stack ≠ []
def SRel (ex : Bool) (k : Nat) (s : Bytes) (lim lim' : Lim) (x : Dx) (r r' : Except Flt Nx) : Prop := match r with
  | .ok y => x.out.length ≤ y.2.out.length ∧ Inv s lim y.1 y.2 ∧ ((y.2.out.length : Int) ≤ lim'.i → r' = .ok (mvn k y)) ∧ ((x.out.length : Int) ≤ lim'.i → lim'.i < y.2.out.length → ∃ e, r' = .error (e, 10))
  | .error e => Bad s lim e ∧ (ex = true → r' = .error (e.1 + k, e.2))
theorem SRel.err {x : Dx} {e : Flt} {r' : Except Flt Nx} (hc : Bad s lim e) (h : ex = true → r' = .error (e.1 + k, e.2)) : SRel ex k s lim lim' x (.error e) r' := ⟨hc, h⟩
theorem SRel.fine {x : Dx} {y : Nx} {r' : Except Flt Nx} (h1 : y.2.out = x.out) (h2 : Inv s lim y.1 y.2) (h3 : r' = .ok (mvn k y)) : SRel ex k s lim lim' x (.ok y) r' :=
  ⟨by rw [h1]; exact Nat.le_refl _, h2, fun _ => h3, by rw [h1]; intro h4 h5; omega⟩
theorem bump_len (l : List Val) (st : List Fm) : (bumpTop l st).length = l.length := by cases st <;> simp [bumpTop, R6.bump]
/-- A value that is counted, and what goes on behind it. -/
theorem count_rel (h : Lims ex lim lim') {x : Dx} (hx : (x.out.length : Int) ≤ lim.i) (hpp : x.at_ ≤ s.length) (v : Val) {f f' : Dx → Except Flt Nx}
    (hf : ∀ y, y.at_ = x.at_ → y.stack = x.stack → y.out.length = x.out.length + 1 → (y.out.length : Int) ≤ lim.i → Rel s lim ex k (mvn k) (fun z => z.2.out.length = x.out.length + 1 ∧ Inv s lim z.1 z.2) (f y) (f' (mvx k y))) :
    SRel ex k s lim lim' x (match one lim x v with | .error e => .error e | .ok y => f y) (match one lim' (mvx k x) v with | .error e => .error e | .ok y => f' y) := by
  by_cases hl : (x.out.length : Int) = lim.i
  · have e1 : one lim x v = .error (x.at_, 10) := by unfold one; rw [if_pos hl]
    rw [e1]
    refine .err (bad10 hpp) fun hx => ?_
    have e2 : one lim' (mvx k x) v = .error (((x.at_ + k : Nat) : Int), 10) := by unfold one; rw [if_pos (by rw [(h.e hx).2]; exact hl)]; rfl
    rw [e2]
    rfl
  · have e1 : one lim x v = .ok { x with out := bumpTop x.out x.stack ++ [v] } := by unfold one; rw [if_neg hl]
    rw [e1]
    have hlen : (bumpTop x.out x.stack ++ [v]).length = x.out.length + 1 := by simp [bump_len]
    simp only
    have hfy := hf { x with out := bumpTop x.out x.stack ++ [v] } rfl rfl hlen (by simp only [hlen]; omega)
    have e2 : ¬ (x.out.length : Int) = lim'.i → one lim' (mvx k x) v = .ok (mvx k { x with out := bumpTop x.out x.stack ++ [v] }) := fun hn => by unfold one; rw [if_neg (show ¬ ((mvx k x).out.length : Int) = lim'.i from hn)]; rfl
    have e3 : (x.out.length : Int) = lim'.i → one lim' (mvx k x) v = .error (((x.at_ + k : Nat) : Int), 10) := fun hn => by unfold one; rw [if_pos (show ((mvx k x).out.length : Int) = lim'.i from hn)]; rfl
    rcases hfy.cases with ⟨z, f1, f2, f3, f4⟩ | ⟨e, f1, hc, f2⟩
    · rw [f1]
      refine ⟨by omega, f4, fun hi => ?_, fun h1 h2 => ?_⟩
      · rw [e2 (by omega)]
        exact f2
      · rw [e3 (by omega)]
        exact ⟨_, rfl⟩
    · rw [f1]
      refine .err hc fun hx => ?_
      rw [e2 (by rw [(h.e hx).2]; exact hl)]
      exact f2 hx
theorem over_mv (x : Dx) : over (mvx k x) = over x := rfl
theorem over_n (x : Dx) : over x ≠ 4 → over x ≠ 5 → False := by unfold over; split <;> omega
theorem strV_rel (w : W ex k s lim s' lim') (h : Lims ex lim lim') {x : Dx} {n : Nat} (hx : Inv s lim n x) (hp : x.at_ < s.length) : SRel ex k s lim lim' x (strV s lim x) (strV s' lim' (mvx k x)) := by
  unfold strV
  refine count_rel h hx.oi hx.ps ⟨4, 0, []⟩ (f := fun y => match text s lim x.at_ with | .error e => .error e | .ok (b, q) => .ok (over x, { y with at_ := q, out := setText y.out x.out.length b })) (f' := fun y => match text s' lim' (x.at_ + k) with | .error e => .error e | .ok (b, q) => .ok (over x, { y with at_ := q, out := setText y.out x.out.length b })) ?_
  intro y h1 h2 h3 h4
  rcases (text_rel w hp).cases with ⟨v, e1, e2, h6⟩ | ⟨e, e1, hc, e2⟩
  · rw [e1, e2]
    obtain ⟨b, q⟩ := v
    refine .fine rfl ⟨by simp [setText, h3], h6, by simp [setText, h4], by simp only [h2]; exact hx.st, fun _ _ h4 h5 => (over_n x h4 h5).elim⟩
  · rw [e1]
    exact .err hc (fun hx => by rw [e2 hx])
theorem numV_rel (w : W ex k s lim s' lim') (h : Lims ex lim lim') {x : Dx} {n : Nat} (hx : Inv s lim n x) (hp : x.at_ < s.length) : SRel ex k s lim lim' x (numV s lim x) (numV s' lim' (mvx k x)) := by
  unfold numV
  refine count_rel h hx.oi hx.ps ⟨3, 0, []⟩ (f := fun y => match number s lim x.at_ with | .error e => .error e | .ok q => .ok (over x, { y with at_ := q, out := setText y.out x.out.length ((s.take q).drop x.at_) })) (f' := fun y => match number s' lim' (x.at_ + k) with | .error e => .error e | .ok q => .ok (over x, { y with at_ := q, out := setText y.out x.out.length ((s'.take q).drop (x.at_ + k)) })) ?_
  intro y h1 h2 h3 h4
  rcases (number_rel w (Nat.le_of_lt hp)).cases with ⟨q, e1, e2, h6⟩ | ⟨e, e1, hc, e2⟩
  · rw [e1, e2]
    refine .fine (by simp only; rw [w.sl _ _ h6]; rfl) ⟨by simp [setText, h3], h6, by simp [setText, h4], by simp only [h2]; exact hx.st, fun _ _ h4 h5 => (over_n x h4 h5).elim⟩
  · rw [e1]
    exact .err hc (fun hx => by rw [e2 hx])
theorem wordV_rel (w : W ex k s lim s' lim') (h : Lims ex lim lim') {x : Dx} {n : Nat} (hx : Inv s lim n x) (hp : x.at_ < s.length) (i : Int) (l : Bytes) : SRel ex k s lim lim' x (wordV s lim x i l) (wordV s' lim' (mvx k x) i l) := by
  unfold wordV
  refine count_rel h hx.oi hx.ps ⟨i, 0, []⟩ (f := fun y => match wordN s lim l x.at_ with | .error e => .error e | .ok q => .ok (over x, { y with at_ := q })) (f' := fun y => match wordN s' lim' l (x.at_ + k) with | .error e => .error e | .ok q => .ok (over x, { y with at_ := q })) ?_
  intro y h1 h2 h3 h4
  rcases (wordN_rel w l _ (Nat.le_of_lt hp)).cases with ⟨q, e1, e2, h6⟩ | ⟨e, e1, hc, e2⟩
  · rw [e1, e2]
    refine .fine rfl ⟨h3, h6, h4, by simp only [h2]; exact hx.st, fun _ _ h4 h5 => (over_n x h4 h5).elim⟩
  · rw [e1]
    exact .err hc (fun hx => by rw [e2 hx])
theorem opens_rel (h : Lims ex lim lim') {x : Dx} {n : Nat} (hx : Inv s lim n x) (hp : x.at_ < s.length) (c : Nat) : SRel ex k s lim lim' x (opens lim x c) (opens lim' (mvx k x) c) := by
  by_cases hd : (x.out.length : Int) < lim.i ∧ (x.stack.length : Int) = lim.d
  · have e1 : opens lim x c = .error (x.at_, 10) := by unfold opens; rw [if_pos hd]
    rw [e1]
    refine .err (bad10 (Nat.le_of_lt hp)) fun hx => ?_
    have e2 : opens lim' (mvx k x) c = .error (((x.at_ + k : Nat) : Int), 10) := by unfold opens; rw [if_pos (by rw [(h.e hx).1, (h.e hx).2]; exact hd)]; rfl
    rw [e2]
    rfl
  · by_cases hl : (x.out.length : Int) = lim.i
    · have e1 : opens lim x c = .error (x.at_, 10) := by unfold opens one; rw [if_neg hd, if_pos hl]
      rw [e1]
      refine .err (bad10 (Nat.le_of_lt hp)) fun hx => ?_
      have e2 : opens lim' (mvx k x) c = .error (((x.at_ + k : Nat) : Int), 10) := by
        unfold opens one
        rw [if_neg (by rw [(h.e hx).1, (h.e hx).2]; exact hd), if_pos (by rw [(h.e hx).2]; exact hl)]
        rfl
      rw [e2]
      rfl
    · have e1 : opens lim x c = .ok (if c == 91 then 1 else 3, { at_ := x.at_ + 1, stack := ⟨x.out.length, []⟩ :: x.stack, out := bumpTop x.out x.stack ++ [⟨if c == 91 then 5 else 6, 0, []⟩] }) := by unfold opens one; rw [if_neg hd, if_neg hl]
      have h1 := hx.oi
      have h2 := hx.st
      have h3 := h.d
      have hlen : (bumpTop x.out x.stack ++ [(⟨if c == 91 then 5 else 6, 0, []⟩ : Val)]).length = x.out.length + 1 := by simp [bump_len]
      rw [e1]
      refine ⟨by simp only [hlen]; omega, ⟨hp, by simp only [hlen]; omega, by simp only [List.length_cons]; omega, fun _ _ _ _ => by simp⟩, fun hi => ?_, fun h5 h6 => ?_⟩
      · simp only [hlen] at hi
        unfold opens one
        rw [if_neg (by show ¬ ((x.out.length : Int) < lim'.i ∧ (x.stack.length : Int) = lim'.d); omega), if_neg (by show ¬ (x.out.length : Int) = lim'.i; omega)]
        simp only [mvx, mvn, Nat.add_right_comm]
      · simp only [hlen] at h6
        refine ⟨((x.at_ + k : Nat) : Int), ?_⟩
        unfold opens one
        rw [if_neg (by show ¬ ((x.out.length : Int) < lim'.i ∧ (x.stack.length : Int) = lim'.d); omega), if_pos (by show (x.out.length : Int) = lim'.i; omega)]
        rfl
theorem value_rel (w : W ex k s lim s' lim') (h : Lims ex lim lim') {x : Dx} {n : Nat} (hx : Inv s lim n x) (hp : x.at_ < s.length) (c : Nat) : SRel ex k s lim lim' x (value s lim x c) (value s' lim' (mvx k x) c) := by
  unfold value
  split
  · exact opens_rel h hx hp c
  · split
    · exact strV_rel w h hx hp
    · split
      · exact numV_rel w h hx hp
      · split
        · exact wordV_rel w h hx hp _ _
        · split
          · exact wordV_rel w h hx hp _ _
          · split
            · exact wordV_rel w h hx hp _ _
            · exact .err (bad9 (Nat.le_of_lt hp)) (fun _ => rfl)
theorem name_rel (w : W ex k s lim s' lim') (h : Lims ex lim lim') {x : Dx} {n : Nat} (hx : Inv s lim n x) (hp : x.at_ < s.length) (hs : x.stack ≠ []) : SRel ex k s lim lim' x (name s lim x) (name s' lim' (mvx k x)) := by
  obtain ⟨a, st, o⟩ := x
  cases st with
  | nil => exact absurd rfl hs
  | cons g rest =>
    unfold name
    refine count_rel h hx.oi hx.ps ⟨4, 0, []⟩ (f := fun y => match text s lim a with
      | .error e => .error e
      | .ok (b, q) => if g.names.contains b then .error (a, 9)
        else match pass s lim q with
          | .error e => .error e
          | .ok q => match must s lim q 58 with
            | .error e => .error e
            | .ok q => .ok (0, { at_ := q, stack := { g with names := g.names ++ [b] } :: rest, out := setText y.out o.length b }))
      (f' := fun y => match text s' lim' (a + k) with
      | .error e => .error e
      | .ok (b, q) => if g.names.contains b then .error (((a + k : Nat) : Int), 9)
        else match pass s' lim' q with
          | .error e => .error e
          | .ok q => match must s' lim' q 58 with
            | .error e => .error e
            | .ok q => .ok (0, { at_ := q, stack := { g with names := g.names ++ [b] } :: rest, out := setText y.out o.length b })) ?_
    intro y h1 h2 h3 h4
    simp only
    rcases (text_rel w hp).cases with ⟨v, e1, e2, h6⟩ | ⟨e, e1, hc, e2⟩
    · obtain ⟨b, q⟩ := v
      have e3 : text s' lim' (a + k) = .ok (b, q + k) := e2
      simp only at e1
      rw [e1, e3]
      simp only
      by_cases hb : g.names.contains b = true
      · rw [if_pos hb, if_pos hb]
        exact .err (bad9 (Nat.le_of_lt hp)) (fun _ => rfl)
      · rw [if_neg hb, if_neg hb]
        rcases (pass_rel w h6).cases with ⟨q2, e3, e4, h7, h8⟩ | ⟨e, e3, hc, e4⟩
        · simp only at e3 e4
          rw [e3, e4]
          simp only
          rcases (must_rel w q2 58).cases with ⟨q3, e5, e6, rfl, h9⟩ | ⟨e, e5, hc, e6⟩
          · rw [e5, e6]
            refine .fine rfl ⟨by simp [setText, h3], h9, by simp [setText, h4], ?_, fun h0 => absurd rfl h0⟩
            have := hx.st
            simp only [List.length_cons] at this ⊢
            exact this
          · rw [e5]
            exact .err hc (fun hx => by rw [e6 hx])
        · simp only at e3 e4
          rw [e3]
          exact .err hc (fun hx => by rw [e4 hx])
    · simp only at e1 e2
      rw [e1]
      exact .err hc (fun hx => by rw [e2 hx])
theorem step_rel (w : W ex k s lim s' lim') (h : Lims ex lim lim') {x : Dx} {n : Nat} (hx : Inv s lim n x) (h5 : n ≠ 5) (hp : x.at_ < s.length) (c : Nat) : SRel ex k s lim lim' x (step s lim n x c) (step s' lim' n (mvx k x) c) := by
  unfold step
  have ho : object (mvx k x) = object x := rfl
  rw [ho]
  split
  · refine .fine rfl ⟨hp, hx.oi, ?_, ?_⟩ (by unfold end_ mvn mvx; simp only [Nat.add_right_comm])
    · have := hx.st
      show ((x.stack.tail.length : Nat) : Int) ≤ _
      rw [List.length_tail]
      omega
    · unfold end_
      simp only
      split <;> intro _ _ h4 h5 <;> omega
  · split
    · exact value_rel w h hx hp c
    · split
      · refine .fine rfl ⟨hp, hx.oi, hx.st, ?_⟩ (by unfold mvn mvx; simp only [Nat.add_right_comm])
        intro hn _ _ _ hs
        simp only at hn hs
        have : object x = false := by unfold object; rw [hs]
        rw [this] at hn
        exact hn rfl
      · split
        · rename_i c1 c2 c3 c4
          refine name_rel w h hx hp ?_
          simp only [Bool.or_eq_true, beq_iff_eq, Bool.and_eq_true, bne_iff_ne, ne_eq] at c2 c4
          exact hx.nx (by omega) (by omega) (by omega) h5
        · exact .err (bad9 (Nat.le_of_lt hp)) (fun _ => rfl)
/-- The whole reading. -/
def LRel (ex : Bool) (k : Nat) (s : Bytes) (lim lim' : Lim) (x : Dx) (r r' : Option (Except Flt Dx)) : Prop := match r with
  | none => True
  | some (.ok y) => x.out.length ≤ y.out.length ∧ y.at_ ≤ s.length ∧ (y.out.length : Int) ≤ lim.i ∧ ((y.out.length : Int) ≤ lim'.i → r' = some (.ok (mvx k y))) ∧ ((x.out.length : Int) ≤ lim'.i → lim'.i < y.out.length → ∃ e, r' = some (.error (e, 10)))
  | some (.error e) => Bad s lim e ∧ (ex = true → r' = some (.error (e.1 + k, e.2)))
theorem loopN_rel (w : W ex k s lim s' lim') (h : Lims ex lim lim') : ∀ (m n : Nat) (x : Dx), Inv s lim n x → LRel ex k s lim lim' x (loopN s lim m (n, x)) (loopN s' lim' m (n, mvx k x))
  | 0, n, x, hx => trivial
  | m + 1, n, x, hx => by
    unfold loopN
    by_cases h5 : n = 5
    · rw [if_pos (by simpa using h5), if_pos (by simpa using h5)]
      exact ⟨Nat.le_refl _, hx.ps, hx.oi, fun _ => rfl, fun h1 h2 => by omega⟩
    · rw [if_neg (by simpa using h5), if_neg (by simpa using h5)]
      show LRel _ _ _ _ _ _ _ (match pass s' lim' (x.at_ + k) with | .error e => some (.error e) | .ok q => match step s' lim' n ⟨q, x.stack, x.out⟩ (at_ s' q) with | .error e => some (.error e) | .ok y => loopN s' lim' m y)
      rcases (pass_rel w hx.ps).cases with ⟨q, e1, e2, h7, h8⟩ | ⟨e, e1, hc, e2⟩
      · rw [e1, e2]
        simp only
        have hq : Inv s lim n { x with at_ := q } := ⟨Nat.le_of_lt h7, hx.oi, hx.st, hx.nx⟩
        have hs := step_rel w h hq h5 h7 (at_ s q)
        rw [w.at h7]
        have hmv : mvx k { x with at_ := q } = ⟨q + k, x.stack, x.out⟩ := rfl
        rw [hmv] at hs
        cases hr : step s lim n { x with at_ := q } (at_ s q) with
        | error e =>
          rw [hr] at hs
          obtain ⟨hc, e2⟩ := hs
          exact ⟨hc, fun hx => by rw [e2 hx]⟩
        | ok y =>
          rw [hr] at hs
          obtain ⟨s1, s2, s3, s4⟩ := hs
          obtain ⟨n2, y⟩ := y
          simp only at s1 s2 s3 s4 ⊢
          have hm := loopN_rel w h m n2 y s2
          cases hl : loopN s lim m (n2, y) with
          | none => trivial
          | some r =>
            rw [hl] at hm
            cases r with
            | error e =>
              obtain ⟨hc, e3⟩ := hm
              refine ⟨hc, fun hx => ?_⟩
              rw [s3 (by have := s2.oi; rw [(h.e hx).2]; exact this)]
              exact e3 hx
            | ok z =>
              obtain ⟨m1, m2, m3, m4, m5⟩ := hm
              refine ⟨by omega, m2, m3, fun hi => ?_, fun h1 h2 => ?_⟩
              · rw [s3 (by omega)]
                exact m4 hi
              · by_cases hy : (y.out.length : Int) ≤ lim'.i
                · rw [s3 hy]
                  exact m5 hy h2
                · obtain ⟨e, he⟩ := s4 h1 (by omega)
                  rw [he]
                  exact ⟨e, rfl⟩
      · rw [e1]
        exact ⟨hc, fun hx => by rw [e2 hx]⟩
theorem rest_blank : ∀ (m p : Nat), s.length ≤ m + p → (∀ i, p ≤ i → i < s.length → (i : Int) < lim.b ∧ R6.blank (at_ s i) = true) → restN s lim m p = .ok ()
  | 0, p, h, hb => rfl
  | m + 1, p, h, hb => by
    unfold restN
    split
    · rename_i hp
      obtain ⟨h1, h2⟩ := hb p (Nat.le_refl _) hp
      have e1 : want s lim p = .ok (at_ s p) := by unfold want; rw [if_neg (by omega), if_neg (by omega)]
      rw [e1]
      simp only
      rw [if_pos h2]
      exact rest_blank m (p + 1) (by omega) (fun i h3 h4 => hb i (by omega) h4)
    · rfl
theorem restN_rel (w : W ex k s lim s' lim') : ∀ (m m' p : Nat), s.length ≤ m + p → s'.length ≤ m' + (p + k) → p ≤ s.length → Rel s lim ex k id (fun _ => (p : Int) ≤ lim.b → (s.length : Int) ≤ lim.b) (restN s lim m p) (restN s' lim' m' (p + k))
  | 0, m', p, h1, h2, h3 => by
    have h0 : p = s.length := by omega
    subst h0
    exact .fine (rest_blank _ _ h2 (fun i h4 h5 => w.bl i h4 h5)) (fun h => h)
  | m + 1, m', p, h1, h2, h3 => by
    by_cases hp : p < s.length
    · cases m' with
      | zero => have := w.le; omega
      | succ m' =>
        unfold restN
        have h4 := w.le
        rw [if_pos hp, if_pos (by omega)]
        rcases (want_rel w p).cases with ⟨z, e1, e2, h4, h5, rfl⟩ | ⟨e, e1, hc, e2⟩
        · rw [e1, e2]
          simp only [id]
          by_cases hb : R6.blank (at_ s p) = true
          · rw [if_pos hb, if_pos hb, Nat.add_right_comm]
            exact (restN_rel w m m' (p + 1) (by omega) (by omega) h4).weak (fun _ f _ => f (by omega))
          · rw [if_neg hb, if_neg hb]
            exact .err (bad9 (Nat.le_of_lt hp)) (fun _ => rfl)
        · rw [e1]
          exact .err hc (fun hx => by rw [e2 hx])
    · have h0 : p = s.length := by omega
      have e1 : restN s lim (m + 1) p = .ok () := by unfold restN; rw [if_neg hp]
      rw [e1, h0]
      exact .fine (rest_blank _ _ (by omega) (fun i h4 h5 => w.bl i h4 h5)) (fun h => h)
end Go.Px.D6

/-! What is read whole: how it was read; limits, blanks (plain law). No program is named here. -/
namespace Go.Px.D6
open R6 (at_ setText bump digit hex letter)
variable {ex : Bool} {k : Nat} {s s' : Bytes} {lim lim' : Lim} {l : List Val} {p : Int}
theorem peek_far {q : Nat} (h : ¬ (q < s.length ∧ (q : Int) < lim.b)) : peek s lim q = 0 := by unfold peek; rw [if_pos (by omega)]
theorem getD_right {a b : Bytes} {i : Nat} (h : a.length ≤ i) : (a ++ b).getD i 0 = b.getD (i - a.length) 0 := by
  rw [List.getD_eq_getElem?_getD, List.getD_eq_getElem?_getD, List.getElem?_append_right h]
theorem getD_left {a b : Bytes} {i : Nat} (h : i < a.length) : (a ++ b).getD i 0 = a.getD i 0 := by
  rw [List.getD_eq_getElem?_getD, List.getD_eq_getElem?_getD, List.getElem?_append_left h]
theorem getD_mem {b : Bytes} {i : Nat} (h : i < b.length) : b.getD i 0 ∈ b := by
  rw [List.getD_eq_getElem?_getD, List.getElem?_eq_getElem h, Option.getD_some]
  exact List.getElem_mem h
/-- A text, between some bytes and some blanks. -/
theorem between {a b : Bytes} (h0 : 0 ≤ lim.b) (hs : (s.length : Int) ≤ lim.b) (h' : ((a.length + s.length + b.length : Nat) : Int) ≤ lim'.b) (hb : ∀ c ∈ b, R6.blank c.toNat = true) : W (decide (b = [])) a.length s lim (a ++ s ++ b) lim' := by
  have hget : ∀ i, i < b.length → at_ (a ++ s ++ b) (a.length + s.length + i) = (b.getD i 0).toNat := by
    intro i hi
    unfold R6.at_
    rw [getD_right (by simp), List.length_append, Nat.add_sub_cancel_left]
  have hbl : ∀ i, i < b.length → R6.blank (b.getD i 0).toNat = true := by
    intro i hi
    exact hb _ (getD_mem hi)
  refine ⟨by simp; omega, h0, fun q h1 h2 => by push_cast at h' ⊢; omega, ?_, ?_, ?_, ?_, ?_⟩
  · intro q hq
    rw [List.append_assoc, getD_right (by omega), Nat.add_sub_cancel, getD_left hq]
  · intro q r hr
    rw [List.append_assoc, Nat.add_comm r, Nat.add_comm q, List.take_length_add_append, ← List.drop_drop, List.drop_left, List.take_append_of_le_length hr]
  · intro hx q e he
    have hb0 : b = [] := by simpa using hx
    subst hb0
    unfold want at he ⊢
    simp only [List.append_nil, List.length_append, List.length_nil] at *
    split at he
    · cases he
      rw [if_pos (by omega)]
      simp only [Except.error.injEq, Prod.mk.injEq, and_true]
      omega
    · split at he
      · omega
      · cases he
  · intro i h1 h2
    simp only [List.length_append] at h2
    refine ⟨by omega, ?_⟩
    obtain ⟨j, rfl⟩ := Nat.exists_eq_add_of_le h1
    rw [Nat.add_comm s.length, hget j (by omega)]
    exact hbl j (by omega)
  · intro q hq
    by_cases hz : q < s.length
    · omega
    · by_cases hj : q + a.length < (a ++ s ++ b).length
      · simp only [List.length_append] at hj
        have h1 : peek (a ++ s ++ b) lim' (q + a.length) = at_ (a ++ s ++ b) (q + a.length) := by
          unfold peek
          rw [if_neg (by simp only [List.length_append]; omega)]
        obtain ⟨j, rfl⟩ := Nat.exists_eq_add_of_le (Nat.le_of_not_lt hz)
        rw [h1, show s.length + j + a.length = a.length + s.length + j by omega, hget j (by omega)]
        have h2 := hbl j (by omega)
        generalize (b.getD j 0).toNat = c at h2 ⊢
        unfold R6.blank at h2
        simp only [Bool.or_eq_true, beq_iff_eq] at h2
        rcases h2 with ((rfl | rfl) | rfl) | rfl <;> rfl
      · rw [peek_far (by omega)]
        rfl
theorem itself (s : Bytes) {lim : Lim} (h0 : 0 ≤ lim.b) : W true 0 s lim s lim := by
  refine ⟨Nat.le_refl _, h0, fun q h1 h2 => h2, fun q hq => rfl, fun q r hr => rfl, fun _ q e he => ?_, fun i h1 h2 => by omega, fun q hq => by rw [Nat.add_zero, peek_far hq]; rfl⟩
  rw [Nat.add_zero, he]
  simp
theorem Lims.same (lim : Lim) : Lims true lim lim := ⟨Int.le_refl _, fun _ => ⟨rfl, rfl⟩⟩
theorem inv0 (hm : lim.may = true) : Inv s lim 0 ⟨0, [], []⟩ := by
  have := J6.may_of hm
  exact ⟨Nat.zero_le _, by show ((0 : Nat) : Int) ≤ _; omega, by show ((0 : Nat) : Int) ≤ _; omega, fun h => absurd rfl h⟩
theorem loop_code (hm : lim.may = true) {m : Nat} {e : Flt} (h : loopN s lim m (0, ⟨0, [], []⟩) = some (.error e)) : Bad s lim e := by
  have := loopN_rel (itself s (lim := lim) (by have := J6.may_of hm; omega)) (Lims.same lim) m 0 ⟨0, [], []⟩ (inv0 hm)
  rw [h] at this
  exact this.1
theorem loop_more : ∀ (m n : Nat) (y : Nx) {r : Except Flt Dx}, loopN s lim m y = some r → loopN s lim (m + n) y = some r
  | 0, n, y, r, h => by cases h
  | m + 1, n, (i, x), r, h => by
    rw [Nat.add_right_comm]
    unfold loopN at h ⊢
    by_cases h5 : (i == 5) = true
    · rw [if_pos h5] at h ⊢
      exact h
    · rw [if_neg h5] at h ⊢
      cases hp : pass s lim x.at_ with
      | error e => rw [hp] at h; exact h
      | ok q =>
        rw [hp] at h
        simp only at h ⊢
        cases hs : step s lim i { x with at_ := q } (at_ s q) with
        | error e => rw [hs] at h; exact h
        | ok y =>
          rw [hs] at h
          exact loop_more m n y h
theorem loop_one {m m' : Nat} {y : Nx} {r r' : Except Flt Dx} (h : loopN s lim m y = some r) (h' : loopN s lim m' y = some r') : r = r' := by
  have e1 := loop_more m m' y h
  have e2 := loop_more m' m y h'
  rw [Nat.add_comm, e1] at e2
  exact Option.some.inj e2
/-- What any reading that ends tells. -/
theorem tells (hm : lim.may = true) {m : Nat} {r : Except Flt Dx} (h : loopN s lim m (0, ⟨0, [], []⟩) = some r) : R6.decode s lim = ends (rests s lim r) := by
  obtain ⟨m', r', h1, h2⟩ := run_ref s lim hm
  have hl : ∃ r1, loopN s lim m' (0, ⟨0, [], []⟩) = some r1 := by
    cases hl : loopN s lim m' (0, ⟨0, [], []⟩) with
    | none => unfold run at h1; rw [hl] at h1; cases h1
    | some r1 => exact ⟨r1, rfl⟩
  obtain ⟨r1, hl⟩ := hl
  rw [run_of hl] at h1
  rw [h2, ← Option.some.inj h1, loop_one h hl]
/-- How a text was read that is read. -/
theorem decode_inv (hm : lim.may = true) (h : R6.decode s lim = (l, p, 0)) : ∃ q z q2 y m, R6.pass s lim R6.start 0 = (some q, z) ∧ z.out = [] ∧ R6.value s lim lim.d.toNat z q = (some q2, y) ∧ y.out = l ∧ loopN s lim m (0, ⟨0, [], []⟩) = some (.ok ⟨q2, [], l⟩) ∧ restN s lim (s.length + 1 - q2) q2 = .ok () ∧ q2 ≤ s.length ∧ (q2 : Int) ≤ lim.b ∧ (l.length : Int) ≤ lim.i ∧ p = 0 := by
  have hmay := J6.may_of hm
  cases hp : R6.pass s lim R6.start 0 with
  | mk o z =>
    cases o with
    | none =>
      exfalso
      have h0 := loop_bad (s := s) (lim := lim) (n := 0) (st := []) (o := []) (by decide) (pass_no (by omega) (Nat.zero_le _) hp)
      obtain ⟨n, h0⟩ := h0
      have h1 := h0 0
      rw [tells hm h1] at h
      have hc := (loop_code hm h1).1
      simp only [rests, ends, Prod.mk.injEq] at h
      omega
    | some q =>
      obtain ⟨i1, i2, i3, i4, i5, i6⟩ := pass_yes (by omega) (Nat.zero_le _) hp
      have h0 := loop_step (s := s) (lim := lim) (n := 0) (st := []) (o := []) (by decide) i1
      have hzo : z.out = [] := i6.1
      have hin : VIn s lim lim.d.toNat z q 0 [] [] := ⟨i4, i2, .inl rfl, (fun i hi => by cases hi), (fun h hh => by cases hh), by show ((0 + lim.d.toNat : Nat) : Int) = lim.d; omega, by rw [hzo]; show ((0 : Nat) : Int) ≤ lim.i; omega⟩
      have hv := value_sim lim.d.toNat z q 0 [] [] hin
      rw [hzo] at hv
      cases hr : R6.value s lim lim.d.toNat z q with
      | mk o y =>
        rw [hr] at hv
        cases o with
        | none =>
          exfalso
          obtain ⟨n, h1⟩ := h0.trans hv
          have h2 : loopN s lim (n + 0) (0, ⟨0, [], []⟩) = some (.error (flt y)) := h1 0
          rw [tells hm h2] at h
          have hc := (loop_code hm h2).1
          simp only [rests, ends, Prod.mk.injEq] at h
          omega
        | some q2 =>
          obtain ⟨hv, ho⟩ := hv
          obtain ⟨n, h1⟩ := h0.trans hv
          have h2 : loopN s lim (n + 1) (0, ⟨0, [], []⟩) = some (.ok ⟨q2, [], y.out⟩) := h1 1
          have ht := tells hm h2
          rw [h] at ht
          unfold rests at ht
          simp only at ht
          have hq2 := ho.qs
          have hrr := restN_rel (itself s (lim := lim) (by have := J6.may_of hm; omega)) (s.length + 1 - q2) (s.length + 1 - q2) q2 (by omega) (by omega) hq2
          cases hl : restN s lim (s.length + 1 - q2) q2 with
          | error e =>
            exfalso
            rw [hl] at ht hrr
            have hc := hrr.1.1
            simp only [ends, Prod.mk.injEq] at ht
            omega
          | ok u =>
            rw [hl] at ht
            simp only [ends, Prod.mk.injEq] at ht
            obtain ⟨rfl, rfl, _⟩ := ht
            exact ⟨q, z, q2, y, n + 1, rfl, hzo, hr, rfl, h2, hl, hq2, ho.qb, ho.oi, rfl⟩
theorem decode_bytes (hm : lim.may = true) (h : R6.decode s lim = (l, p, 0)) : (s.length : Int) ≤ lim.b := by
  obtain ⟨q, z, q2, y, m, h1, h2, h3, h4, h5, h6, h7, h8, h9, h10⟩ := decode_inv hm h
  have hrr := restN_rel (itself s (lim := lim) (by have := J6.may_of hm; omega)) (s.length + 1 - q2) (s.length + 1 - q2) q2 (by omega) (by omega) h7
  rw [h6] at hrr
  exact hrr.2 h8
theorem decode_zero (hm : lim.may = true) (h : R6.decode s lim = (l, p, 0)) : p = 0 := by
  obtain ⟨q, z, q2, y, m, h1, h2, h3, h4, h5, h6, h7, h8, h9, h10⟩ := decode_inv hm h
  exact h10
theorem pass_over : ∀ (j m q : Nat), (∀ i, q ≤ i → i < q + j → i < s.length ∧ (i : Int) < lim.b ∧ R6.blank (at_ s i) = true) → passN s lim (m + j) q = passN s lim m (q + j)
  | 0, m, q, h => rfl
  | j + 1, m, q, h => by
    obtain ⟨h1, h2, h3⟩ := h q (Nat.le_refl _) (by omega)
    have e1 : want s lim q = .ok (at_ s q) := by unfold want; rw [if_neg (by omega), if_neg (by omega)]
    have e2 : passN s lim (m + (j + 1)) q = passN s lim (m + j) (q + 1) := by
      show passN s lim (m + j + 1) q = _
      conv => lhs; unfold passN
      rw [e1]
      simp only
      rw [if_pos h3]
    rw [e2, pass_over j m (q + 1) (fun i a b => h i (by omega) (by omega)), Nat.add_right_comm]
    rfl
/-- Blanks ahead of a text. -/
theorem loop_ahead {a : Bytes} (hbt : ((a.length + s.length : Nat) : Int) ≤ lim.b) (ha : ∀ c ∈ a, R6.blank c.toNat = true) (m : Nat) : loopN (a ++ s) lim m (0, ⟨0, [], []⟩) = loopN (a ++ s) lim m (0, ⟨0 + a.length, [], []⟩) := by
  cases m with
  | zero => rfl
  | succ m =>
    unfold loopN
    have e1 : pass (a ++ s) lim 0 = pass (a ++ s) lim (0 + a.length) := by
      unfold pass
      have e := pass_over (s := a ++ s) (lim := lim) a.length (s.length + 1) 0 (fun i h1 h2 => by
        rw [Nat.zero_add] at h2
        refine ⟨by rw [List.length_append]; omega, by omega, ?_⟩
        unfold R6.at_
        rw [getD_left h2]
        exact ha _ (getD_mem h2))
      rw [Nat.zero_add] at e ⊢
      rw [List.length_append, Nat.sub_zero, show a.length + s.length + 1 = s.length + 1 + a.length by omega, Nat.add_sub_cancel]
      exact e
    rw [e1]
    rfl
/-- What is read within some limits is read within others that are not lesser, and between blanks. -/
theorem move {a b : Bytes} (hm : lim.may = true) (hm' : lim'.may = true) (hd : lim.d ≤ lim'.d) (hi : (l.length : Int) ≤ lim'.i) (hbt : ((a.length + s.length + b.length : Nat) : Int) ≤ lim'.b) (ha : ∀ c ∈ a, R6.blank c.toNat = true) (hb : ∀ c ∈ b, R6.blank c.toNat = true) (h : R6.decode s lim = (l, p, 0)) : R6.decode (a ++ s ++ b) lim' = (l, 0, 0) := by
  obtain ⟨q, z, q2, y, m, h1, h2, h3, h4, h5, h6, h7, h8, h9, h10⟩ := decode_inv hm h
  have w0 := between (s := s) (a := a) (b := b) (by have := J6.may_of hm; omega) (decode_bytes hm h) hbt hb
  have w : W false a.length s lim (a ++ s ++ b) lim' := ⟨w0.le, w0.bp, w0.ok, w0.bt, w0.sl, (fun h => by cases h), w0.bl, w0.nn⟩
  have hl := loopN_rel w ⟨hd, (fun h => by cases h)⟩ m 0 ⟨0, [], []⟩ (inv0 hm)
  rw [h5] at hl
  have hl2 := hl.2.2.2.1 hi
  have e1 : loopN (a ++ s ++ b) lim' m (0, ⟨0, [], []⟩) = loopN (a ++ s ++ b) lim' m (0, ⟨0 + a.length, [], []⟩) := by
    rw [List.append_assoc]
    exact loop_ahead (by rw [List.length_append]; omega) ha m
  rw [show mvx a.length ⟨0, [], []⟩ = ⟨0 + a.length, [], []⟩ from rfl, ← e1] at hl2
  rw [tells hm' hl2]
  have hr := restN_rel w (s.length + 1 - q2) ((a ++ s ++ b).length + 1 - (q2 + a.length)) q2 (by omega) (by omega) h7
  rw [h6] at hr
  have e2 : restN (a ++ s ++ b) lim' ((a ++ s ++ b).length + 1 - (q2 + a.length)) (q2 + a.length) = .ok () := hr.1
  unfold rests mvx
  simp only
  rw [e2]
  rfl
/-- With fewer items than there are. -/
theorem fewer (hm : lim.may = true) (hm' : lim'.may = true) (hd : lim.d ≤ lim'.d) (hi : lim'.i < l.length) (hbt : (s.length : Int) ≤ lim'.b) (h : R6.decode s lim = (l, p, 0)) : (R6.decode s lim').2.2 = 10 := by
  obtain ⟨q, z, q2, y, m, h1, h2, h3, h4, h5, h6, h7, h8, h9, h10⟩ := decode_inv hm h
  have w0 := between (s := s) (a := []) (b := []) (lim' := lim') (by have := J6.may_of hm; omega) (decode_bytes hm h) (by simpa using hbt) (by simp)
  rw [List.nil_append, List.append_nil] at w0
  have hmay := J6.may_of hm'
  have hl := loopN_rel (ex := false) ⟨w0.le, w0.bp, w0.ok, w0.bt, w0.sl, (fun h => by cases h), w0.bl, w0.nn⟩ ⟨hd, (fun h => by cases h)⟩ m 0 ⟨0, [], []⟩ (inv0 hm)
  rw [h5] at hl
  obtain ⟨e, he⟩ := hl.2.2.2.2 (by show ((0 : Nat) : Int) ≤ _; omega) hi
  rw [show mvx (List.length ([] : Bytes)) ⟨0, [], []⟩ = ⟨0, [], []⟩ from rfl] at he
  rw [tells hm' he]
  rfl
theorem ends_mv {s : Bytes} {lim : Lim} {e : Flt} {k : Nat} (hc0 : Bad s lim e) : ends (.error (e.1 + k, e.2)) = ((ends (.error e)).1, (if (ends (.error e)).2.2 = 0 then 0 else (ends (.error e)).2.1 + k), (ends (.error e)).2.2) := by
  show (([] : List Val), e.1 + (k : Int), e.2) = ([], (if e.2 = 0 then 0 else e.1 + (k : Int)), e.2)
  have hc := hc0.1
  rw [if_neg (by omega)]
/-- Blanks ahead of a text move the place of what is wrong, and nothing else. -/
theorem ahead {a : Bytes} (hm : lim.may = true) (hbt : ((a.length + s.length : Nat) : Int) ≤ lim.b) (ha : ∀ c ∈ a, R6.blank c.toNat = true) : R6.decode (a ++ s) lim = ((R6.decode s lim).1, (if (R6.decode s lim).2.2 = 0 then 0 else (R6.decode s lim).2.1 + a.length), (R6.decode s lim).2.2) := by
  obtain ⟨m, r, h1, h2⟩ := run_ref s lim hm
  have w0 := between (s := s) (a := a) (b := []) (lim := lim) (lim' := lim) (by have := J6.may_of hm; omega) (by omega) (by simpa using hbt) (by simp)
  rw [List.append_nil] at w0
  have w : W true a.length s lim (a ++ s) lim := by simpa using w0
  have hl := loopN_rel w (Lims.same lim) m 0 ⟨0, [], []⟩ (inv0 hm)
  rw [show mvx a.length ⟨0, [], []⟩ = ⟨0 + a.length, [], []⟩ from rfl, ← loop_ahead hbt ha] at hl
  unfold run at h1
  cases hr : loopN s lim m (0, ⟨0, [], []⟩) with
  | none => rw [hr] at h1; cases h1
  | some r1 =>
    rw [hr] at h1 hl
    cases r1 with
    | error e =>
      simp only at h1
      cases h1
      obtain ⟨hc, e2⟩ := hl
      rw [h2, tells hm (e2 rfl)]
      exact ends_mv hc
    | ok y =>
      obtain ⟨k1, k2, k3, k4, k5⟩ := hl
      have e2 := k4 k3
      rw [tells hm e2]
      have hrr := restN_rel w (s.length + 1 - y.at_) ((a ++ s).length + 1 - (y.at_ + a.length)) y.at_ (by omega) (by omega) k2
      simp only at h1
      rcases hrr.cases with ⟨v, e3, e4, _⟩ | ⟨e, e3, hc, e4⟩
      · rw [e3] at h1
        cases h1
        rw [h2]
        unfold rests mvx
        simp only
        rw [e4]
        rfl
      · rw [e3] at h1
        cases h1
        rw [h2]
        unfold rests mvx
        simp only
        rw [e4 rfl]
        exact ends_mv hc
/-- Where an error is told. -/
theorem decode_place (hm : lim.may = true) : 0 ≤ (R6.decode s lim).2.1 ∧ (R6.decode s lim).2.1 ≤ max (s.length : Int) lim.b := by
  have hmay := J6.may_of hm
  obtain ⟨m, r, h1, h2⟩ := run_ref s lim hm
  rw [h2]
  cases r with
  | ok l => exact ⟨Int.le_refl _, by show (0 : Int) ≤ _; omega⟩
  | error e =>
    unfold run at h1
    cases hr : loopN s lim m (0, ⟨0, [], []⟩) with
    | none => rw [hr] at h1; cases h1
    | some r1 =>
      rw [hr] at h1
      cases r1 with
      | error e2 =>
        simp only [Option.some.injEq, Except.error.injEq] at h1
        subst h1
        exact (loop_code hm hr).2
      | ok y =>
        simp only at h1
        have hl := loopN_rel (itself s (by omega)) (Lims.same lim) m 0 ⟨0, [], []⟩ (inv0 hm)
        rw [hr] at hl
        have hrr := restN_rel (itself s (lim := lim) (by omega)) (s.length + 1 - y.at_) (s.length + 1 - y.at_) y.at_ (by omega) (by omega) hl.2.1
        cases hq : restN s lim (s.length + 1 - y.at_) y.at_ with
        | ok u => rw [hq] at h1; cases h1
        | error e2 =>
          rw [hq] at h1 hrr
          simp only [Option.some.injEq, Except.error.injEq] at h1
          subst h1
          exact hrr.1.2
end Go.Px.D6

/-! What is read is told by one text, which is read alike (plain law of JsonNormal). No program is named here. -/
namespace Go.Px.E6
theorem normal {s : Bytes} {lim : Lim} {l : List Val} {p : Int} (hm : lim.may = true) (h : R6.decode s lim = (l, p, 0)) :
    (encode l = ([], 10) ∧ 43690 < s.length) ∨ ∃ t, encode l = (t, 0) ∧ R6.decode t ⟨32, 4096, 262144, 4096⟩ = (l, 0, 0) := by
  obtain ⟨q, z, q2, y, m, h1, h2, h3, h4, h5, h6, h7, h8, h9, h10⟩ := D6.decode_inv hm h
  have hmay := J6.may_of hm
  obtain ⟨v, t, e1, e2, e3, e4⟩ := value_right lim.d.toNat z q q2 y h3
  rw [h2, List.nil_append, h4] at e1
  subst e1
  rcases encode_it e2 (by omega) (by omega) with ⟨k1, k2⟩ | ⟨k1, k2⟩
  · exact .inr ⟨t, k1, back k1 rfl⟩
  · exact .inl ⟨k1, by omega⟩
end Go.Px.E6

/-! The values of a list that is read are small (plain law). No program is named here. -/
namespace Go.Px.E6
theorem toldN_ge : ∀ l : Bytes, l.length ≤ (l.flatMap toldC).length
  | [] => Nat.le_refl _
  | c :: l => by
    rw [List.flatMap_cons, List.length_append, List.length_cons]
    have := toldN_ge l
    have : 1 ≤ (toldC c).length := by unfold toldC; split <;> (try split) <;> simp
    omega
theorem right_small {a : Val} (h : right a = true) : 0 ≤ a.kind ∧ a.kind ≤ 6 ∧ 0 ≤ a.kids ∧ (a.kind ≤ 4 → a.kids = 0 ∧ a.text.length ≤ (body a).length) ∧ (5 ≤ a.kind → a.text = []) := by
  obtain ⟨k, n, t⟩ := a
  have hk : k = 0 ∨ k = 1 ∨ k = 2 ∨ k = 3 ∨ k = 4 ∨ k = 5 ∨ k = 6 ∨ ¬ (k = 0 ∨ k = 1 ∨ k = 2 ∨ k = 3 ∨ k = 4 ∨ k = 5 ∨ k = 6) := by omega
  rcases hk with rfl | rfl | rfl | rfl | rfl | rfl | rfl | hk
  · simp [right] at h; obtain ⟨rfl, rfl⟩ := h; simp
  · simp [right] at h; obtain ⟨rfl, rfl⟩ := h; simp
  · simp [right] at h; obtain ⟨rfl, rfl⟩ := h; simp
  · simp [right] at h; obtain ⟨rfl, _⟩ := h; simp [body]
  · simp [right] at h
    obtain ⟨rfl, _⟩ := h
    simp [body, told]
    have := toldN_ge t
    rw [List.length_flatMap] at this
    omega
  · simp [right] at h; simp [h.1, h.2]
  · simp [right] at h; simp [h.1.1, h.2]
  · exfalso
    have e : ∀ j : Int, (k = j → False) → (k == j) = false := fun j hj => by simpa using hj
    unfold right at h
    simp only [e 0 (by omega), e 1 (by omega), e 2 (by omega), e 3 (by omega), e 4 (by omega), e 5 (by omega), e 6 (by omega)] at h
    cases h
theorem kids_fair {d : Nat} (ih : ∀ l t dp, ItF d l t dp → ∀ a ∈ l, a.kids ≤ (l.length : Int) ∧ a.text.length ≤ t.length) {ob : Bool} : ∀ (m k : Nat) (nm : List Bytes) (x : List Val) (u : Bytes) (dp : Bool), Kids (ItF d) ob m k nm x u dp → m ≤ x.length ∧ ∀ a ∈ x, a.kids ≤ (x.length : Int) ∧ a.text.length ≤ u.length
  | 0, _, _, _, _, _, h => by
    obtain ⟨rfl, _⟩ := h
    exact ⟨Nat.le_refl _, fun a ha => by cases ha⟩
  | m + 1, k, nm, x, u, dp, h => by
    obtain ⟨x1, y, u1, v, d1, d2, rfl, rfl, h1, _, h3, _⟩ := h
    obtain ⟨k1, k2⟩ := kids_fair ih m _ _ _ _ _ h3
    have hp := h1.pos
    simp only [List.length_append]
    refine ⟨by omega, fun a ha => ?_⟩
    rcases List.mem_append.1 ha with e | e
    · obtain ⟨b1, b2⟩ := ih _ _ _ h1 a e
      exact ⟨by push_cast; omega, by omega⟩
    · obtain ⟨b1, b2⟩ := k2 a e
      exact ⟨by push_cast; omega, by omega⟩
theorem fair_it : ∀ (d : Nat) (l : List Val) (t : Bytes) (dp : Bool), ItF d l t dp → ∀ a ∈ l, a.kids ≤ (l.length : Int) ∧ a.text.length ≤ t.length
  | 0, l, t, dp, h, a, ha => by
    obtain ⟨b, rfl, hr, h4, rfl, _⟩ := h
    rw [List.mem_singleton.1 ha]
    obtain ⟨_, _, _, e, _⟩ := right_small hr
    rw [(e h4).1]
    exact ⟨by simp, (e h4).2⟩
  | d + 1, l, t, dp, h, a, ha => by
    rcases h with ⟨b, rfl, hr, h4, rfl, _⟩ | ⟨b, r, u, rfl, hr, h5, rfl, hk⟩
    · rw [List.mem_singleton.1 ha]
      obtain ⟨_, _, _, e, _⟩ := right_small hr
      rw [(e h4).1]
      exact ⟨by simp, (e h4).2⟩
    · obtain ⟨k1, k2⟩ := kids_fair (fair_it d) _ _ _ _ _ _ hk
      simp only [List.length_append, List.length_cons]
      rcases List.mem_cons.1 ha with rfl | e
      · obtain ⟨_, _, e0, _, e5⟩ := right_small hr
        rw [e5 h5]
        exact ⟨by push_cast; omega, Nat.zero_le _⟩
      · obtain ⟨b1, b2⟩ := k2 a e
        exact ⟨by push_cast; omega, by omega⟩
theorem decode_small {s : Bytes} {lim : Lim} {l : List Val} {p : Int} (hm : lim.may = true) (h : R6.decode s lim = (l, p, 0)) : ∀ a ∈ l, 0 ≤ a.kind ∧ a.kind ≤ 6 ∧ 0 ≤ a.kids ∧ a.kids ≤ 4096 ∧ a.text.length ≤ 1572864 := by
  obtain ⟨q, z, q2, y, m, h1, h2, h3, h4, h5, h6, h7, h8, h9, h10⟩ := D6.decode_inv hm h
  have hb := D6.decode_bytes hm h
  have hmay := J6.may_of hm
  obtain ⟨v, t, e1, e2, e3, e4⟩ := value_right lim.d.toNat z q q2 y h3
  rw [h2, List.nil_append, h4] at e1
  subst e1
  intro a ha
  obtain ⟨b1, b2⟩ := fair_it _ _ _ _ e2 a ha
  obtain ⟨c1, c2, c3, _, _⟩ := right_small (it_all _ _ _ _ e2 a ha)
  exact ⟨c1, c2, c3, by omega, by omega⟩
end Go.Px.E6
