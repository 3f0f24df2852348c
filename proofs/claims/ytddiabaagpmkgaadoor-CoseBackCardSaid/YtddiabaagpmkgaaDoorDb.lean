/-
  The walk over the program's begin (package cbor), case by case.
-/
import Derived.Test.YtddiabaagpmkgaaDoorDa
import Derived.Test.YtddiabaagpmkgaaDoorDe
namespace Go.Proofs.YtddiabaagpmkgaaDoor
open Go.RowKit Go.Px

/-- What a head that was read tells. -/
theorem head_ok {s : Bytes} {lim : Lim} {o p k n q : Nat} (h : D7.head s lim o p = .ok (k, n, q)) :
    ∃ c, D7.want s lim p = .ok c ∧ c < 256 ∧ c / 32 = k ∧ ¬ (o : Int) = lim.i ∧ c % 32 ≤ 27 ∧ (k = 7 → 20 ≤ c % 32 ∧ c % 32 ≤ 23) ∧ argD s lim p (c % 32) (p + 1) = .ok n ∧ q = p + 1 + (if c % 32 < 24 then 0 else 2 ^ (c % 32 - 24)) := by
  unfold D7.head at h
  cases hw : D7.want s lim p with
  | error e => rw [hw] at h; cases h
  | ok c =>
    rw [hw] at h
    simp only at h
    have hc : c < 256 := by
      unfold D7.want at hw
      by_cases q1 : s.length ≤ p
      · rw [if_pos q1] at hw; cases hw
      · rw [if_neg q1] at hw
        by_cases q2 : lim.b ≤ p
        · rw [if_pos q2] at hw; cases hw
        · rw [if_neg q2] at hw
          simp only [Except.ok.injEq] at hw
          rw [← hw]; exact UInt8.toNat_lt _
    refine ⟨c, rfl, hc, ?_⟩
    by_cases h1 : (o : Int) = lim.i
    · rw [if_pos h1] at h; cases h
    · rw [if_neg h1] at h
      by_cases h2 : 27 < c % 32
      · rw [if_pos h2] at h; cases h
      · rw [if_neg h2] at h
        by_cases h3 : (c / 32 == 7 && (decide (c % 32 < 20) || decide (23 < c % 32))) = true
        · rw [if_pos h3] at h; cases h
        · rw [if_neg h3] at h
          have h7 : c / 32 = 7 → 20 ≤ c % 32 ∧ c % 32 ≤ 23 := by
            intro e
            simp only [Bool.and_eq_true, beq_iff_eq, Bool.or_eq_true, decide_eq_true_eq, not_and, not_or] at h3
            have := h3 e
            omega
          by_cases h4 : c % 32 < 24
          · rw [if_pos h4] at h
            simp only [Except.ok.injEq, Prod.mk.injEq] at h
            obtain ⟨rfl, rfl, rfl⟩ := h
            exact ⟨rfl, h1, by omega, h7, by unfold argD; rw [if_pos h4], by rw [if_pos h4]⟩
          · rw [if_neg h4] at h
            cases ha : D7.argN s lim (2 ^ (c % 32 - 24)) (p + 1) 0 with
            | error e => rw [ha] at h; cases h
            | ok v =>
              rw [ha] at h
              simp only at h
              by_cases h5 : v < Cf.least (c % 32)
              · rw [if_pos h5] at h; cases h
              · rw [if_neg h5] at h
                simp only [Except.ok.injEq, Prod.mk.injEq] at h
                obtain ⟨rfl, rfl, rfl⟩ := h
                exact ⟨rfl, h1, by omega, h7, by unfold argD; rw [if_neg h4, ha]; simp only; rw [if_neg h5], by rw [if_neg h4]⟩
/-- What a head that can't be read tells: where it stops. -/
theorem head_bad {s : Bytes} {lim : Lim} {o p : Nat} {e : D7.Flt} (h : D7.head s lim o p = .error e) :
    D7.want s lim p = .error e ∨ ∃ c, D7.want s lim p = .ok c ∧ c < 256 ∧
      (((o : Int) = lim.i ∧ e = ((p : Int), 10)) ∨ (¬ (o : Int) = lim.i ∧ ((27 < c % 32 ∧ e = ((p : Int), 9)) ∨ (c % 32 ≤ 27 ∧ ((c / 32 = 7 ∧ (c % 32 < 20 ∨ 23 < c % 32) ∧ e = ((p : Int), 11)) ∨
        ((c / 32 = 7 → 20 ≤ c % 32 ∧ c % 32 ≤ 23) ∧ argD s lim p (c % 32) (p + 1) = .error e)))))) := by
  unfold D7.head at h
  cases hw : D7.want s lim p with
  | error e2 => rw [hw] at h; left; simpa using h
  | ok c =>
    right
    rw [hw] at h
    simp only at h
    have hc : c < 256 := by
      unfold D7.want at hw
      by_cases q1 : s.length ≤ p
      · rw [if_pos q1] at hw; cases hw
      · rw [if_neg q1] at hw
        by_cases q2 : lim.b ≤ p
        · rw [if_pos q2] at hw; cases hw
        · rw [if_neg q2] at hw
          simp only [Except.ok.injEq] at hw
          rw [← hw]; exact UInt8.toNat_lt _
    refine ⟨c, rfl, hc, ?_⟩
    by_cases h1 : (o : Int) = lim.i
    · rw [if_pos h1] at h
      simp only [Except.error.injEq] at h
      exact .inl ⟨h1, h.symm⟩
    · rw [if_neg h1] at h
      refine .inr ⟨h1, ?_⟩
      by_cases h2 : 27 < c % 32
      · rw [if_pos h2] at h
        simp only [Except.error.injEq] at h
        exact .inl ⟨h2, h.symm⟩
      · rw [if_neg h2] at h
        refine .inr ⟨by omega, ?_⟩
        by_cases h3 : (c / 32 == 7 && (decide (c % 32 < 20) || decide (23 < c % 32))) = true
        · rw [if_pos h3] at h
          simp only [Except.error.injEq] at h
          simp only [Bool.and_eq_true, beq_iff_eq, Bool.or_eq_true, decide_eq_true_eq] at h3
          exact .inl ⟨h3.1, h3.2, h.symm⟩
        · rw [if_neg h3] at h
          refine .inr ⟨?_, ?_⟩
          · intro e
            simp only [Bool.and_eq_true, beq_iff_eq, Bool.or_eq_true, decide_eq_true_eq, not_and, not_or] at h3
            have := h3 e
            omega
          · by_cases h4 : c % 32 < 24
            · rw [if_pos h4] at h; cases h
            · rw [if_neg h4] at h
              unfold argD
              rw [if_neg h4]
              cases ha : D7.argN s lim (2 ^ (c % 32 - 24)) (p + 1) 0 with
              | error e2 => rw [ha] at h; simpa using h
              | ok v =>
                rw [ha] at h
                simp only at h ⊢
                by_cases h5 : v < Cf.least (c % 32)
                · rw [if_pos h5] at h ⊢; simpa using h
                · rw [if_neg h5] at h; cases h

def BegPost (w : World) (b : Nat) (s : Bytes) (lim : Lim) (F : Nat → Prop) (res : Except D7.Flt D7.Dx) (r : Ending) (w' : World) : Prop :=
  match res with
  | .error e => r = panics e ∧ Fr F w w'
  | .ok y => r = .returned (.tuple #[]) ∧ ∃ F', DrAt w' b s lim y F' ∧ Fr F w w' ∧ Fresh w F F'
theorem It.dfoot {b : Nat} {w w' : World} {vs vo : Value} (hf : Fr (It b) w w') : Fr (dfoot b vs vo) w w' := hf.mono fun _ e => .inl e

set_option maxRecDepth 100000 in
set_option maxHeartbeats 2000000 in
theorem begin_want (s : Bytes) (lim : Lim) (b : Nat) (x : D7.Dx) (vs vo : Value) (w : World) (h : DrRep w b s lim x vs vo) (e : D7.Flt) (he : D7.want s lim x.at_ = .error e) :
    Calls Tryd.prog 51 #[.pointer (some ⟨b, 0, none⟩)] w fun r w' => r = panics e ∧ Fr (It b) w w' := by
  have hw := dwant_no b x.at_ s lim x vs vo w h e he
  have HW := Px.hid hw
  obtain ⟨_, _, _, _, c5, _, _⟩ := h.cells
  clear hw he h
  go_enter Tryd.func51, Tryd.ntmps51
  go_wp2_with fail
  refine HW.out.mono ?_
  rintro r w1 ⟨rfl, rfl⟩
  unfold panics
  go_wp2
  exact ⟨rfl, rfl, Fr.refl _ _⟩

set_option maxRecDepth 100000 in
set_option maxHeartbeats 2000000 in
theorem begin_full (s : Bytes) (lim : Lim) (b : Nat) (x : D7.Dx) (vs vo : Value) (w : World) (h : DrRep w b s lim x vs vo) (c : Nat) (hc : D7.want s lim x.at_ = .ok c) (hi : (x.out.length : Int) = lim.i) :
    Calls Tryd.prog 51 #[.pointer (some ⟨b, 0, none⟩)] w fun r w' => r = panics (x.at_, 10) ∧ Fr (It b) w w' := by
  have hw := dwant_yes b x.at_ s lim x vs vo w h c hc
  have HW := Px.hid hw
  obtain ⟨_, _, c2, _, c5, _, c7⟩ := h.cells
  obtain ⟨oa, oc, hov, _⟩ := h.out.len
  rw [hov] at c7
  have hib : ((x.out.length : Int) == lim.i) = true := by simpa using hi
  clear hw hc h hov hi
  go_enter Tryd.func51, Tryd.ntmps51
  go_wp2_with fail
  refine HW.out.mono ?_
  rintro r w1 ⟨rfl, rfl⟩
  go_wp2_with fail
  go_quiet (fail)
  go_wp2
  exact ⟨rfl, rfl, (Fr.refl _ _).drewN nq⟩

set_option maxRecDepth 100000 in
set_option maxHeartbeats 2000000 in
theorem begin_form (s : Bytes) (lim : Lim) (b : Nat) (x : D7.Dx) (vs vo : Value) (w : World) (h : DrRep w b s lim x vs vo) (c : Nat) (hc : D7.want s lim x.at_ = .ok c) (hcb : c < 256) (hi : ¬ (x.out.length : Int) = lim.i) (h27 : 27 < c % 32) :
    Calls Tryd.prog 51 #[.pointer (some ⟨b, 0, none⟩)] w fun r w' => r = panics (x.at_, 9) ∧ Fr (It b) w w' := by
  have hw := dwant_yes b x.at_ s lim x vs vo w h c hc
  have HW := Px.hid hw
  have HH := Px.hid h
  obtain ⟨_, _, c2, _, c5, _, c7⟩ := h.cells
  obtain ⟨oa, oc, hov, _⟩ := h.out.len
  rw [hov] at c7
  have HOV := Px.hid hov
  obtain ⟨k, hk⟩ : ∃ k, k = c / 32 := ⟨_, rfl⟩
  obtain ⟨a, ha⟩ : ∃ a, a = c % 32 := ⟨_, rfl⟩
  have hq : (c : Int) / 32 = (k : Int) := by omega
  have hmd : (c : Int) % 32 = (a : Int) := by omega
  have hk8 : k < 8 := by omega
  have ha32 : a < 32 := by omega
  rw [← ha] at h27
  clear hk ha hw hc h hov
  have hib : ((x.out.length : Int) == lim.i) = false := by simpa using hi
  have z27 : (27 : Int) < a := by omega
  clear hi
  go_enter Tryd.func51, Tryd.ntmps51
  go_wp2_with fail
  refine HW.out.mono ?_
  rintro r w1 ⟨rfl, rfl⟩
  go_wp2_with fail
  go_quiet (fail)
  go_wp2
  exact ⟨rfl, rfl, (Fr.refl _ _).drewN nq⟩

set_option maxRecDepth 100000 in
set_option maxHeartbeats 2000000 in
theorem begin_kind1 (s : Bytes) (lim : Lim) (b : Nat) (x : D7.Dx) (vs vo : Value) (w : World) (h : DrRep w b s lim x vs vo) (c : Nat) (hc : D7.want s lim x.at_ = .ok c) (hcb : c < 256) (hi : ¬ (x.out.length : Int) = lim.i) (h27 : c % 32 ≤ 27) (h7 : c / 32 = 7) (h20 : c % 32 < 20) :
    Calls Tryd.prog 51 #[.pointer (some ⟨b, 0, none⟩)] w fun r w' => r = panics (x.at_, 11) ∧ Fr (It b) w w' := by
  have hw := dwant_yes b x.at_ s lim x vs vo w h c hc
  have HW := Px.hid hw
  have HH := Px.hid h
  obtain ⟨_, _, c2, _, c5, _, c7⟩ := h.cells
  obtain ⟨oa, oc, hov, _⟩ := h.out.len
  rw [hov] at c7
  have HOV := Px.hid hov
  obtain ⟨k, hk⟩ : ∃ k, k = c / 32 := ⟨_, rfl⟩
  obtain ⟨a, ha⟩ : ∃ a, a = c % 32 := ⟨_, rfl⟩
  have hq : (c : Int) / 32 = (k : Int) := by omega
  have hmd : (c : Int) % 32 = (a : Int) := by omega
  have hk8 : k < 8 := by omega
  have ha32 : a < 32 := by omega
  rw [← ha] at h27 h20
  rw [← hk] at h7
  clear hk ha hw hc h hov
  have hib : ((x.out.length : Int) == lim.i) = false := by simpa using hi
  have z27 : ¬ (27 : Int) < a := by omega
  have z7 : ((k : Int) == 7) = true := by simp; omega
  have z20 : (a : Int) < 20 := by omega
  clear h7
  clear hi
  go_enter Tryd.func51, Tryd.ntmps51
  go_wp2_with fail
  refine HW.out.mono ?_
  rintro r w1 ⟨rfl, rfl⟩
  go_wp2_with fail
  go_quiet (fail)
  go_wp2
  exact ⟨rfl, rfl, (Fr.refl _ _).drewN nq⟩

set_option maxRecDepth 100000 in
set_option maxHeartbeats 2000000 in
theorem begin_kind2 (s : Bytes) (lim : Lim) (b : Nat) (x : D7.Dx) (vs vo : Value) (w : World) (h : DrRep w b s lim x vs vo) (c : Nat) (hc : D7.want s lim x.at_ = .ok c) (hcb : c < 256) (hi : ¬ (x.out.length : Int) = lim.i) (h27 : c % 32 ≤ 27) (h7 : c / 32 = 7) (h23 : 23 < c % 32) :
    Calls Tryd.prog 51 #[.pointer (some ⟨b, 0, none⟩)] w fun r w' => r = panics (x.at_, 11) ∧ Fr (It b) w w' := by
  have hw := dwant_yes b x.at_ s lim x vs vo w h c hc
  have HW := Px.hid hw
  have HH := Px.hid h
  obtain ⟨_, _, c2, _, c5, _, c7⟩ := h.cells
  obtain ⟨oa, oc, hov, _⟩ := h.out.len
  rw [hov] at c7
  have HOV := Px.hid hov
  obtain ⟨k, hk⟩ : ∃ k, k = c / 32 := ⟨_, rfl⟩
  obtain ⟨a, ha⟩ : ∃ a, a = c % 32 := ⟨_, rfl⟩
  have hq : (c : Int) / 32 = (k : Int) := by omega
  have hmd : (c : Int) % 32 = (a : Int) := by omega
  have hk8 : k < 8 := by omega
  have ha32 : a < 32 := by omega
  rw [← ha] at h27 h23
  rw [← hk] at h7
  clear hk ha hw hc h hov
  have hib : ((x.out.length : Int) == lim.i) = false := by simpa using hi
  have z27 : ¬ (27 : Int) < a := by omega
  have z7 : ((k : Int) == 7) = true := by simp; omega
  have z20 : ¬ (a : Int) < 20 := by omega
  have z23 : (23 : Int) < a := by omega
  clear h7
  clear hi
  go_enter Tryd.func51, Tryd.ntmps51
  go_wp2_with fail
  refine HW.out.mono ?_
  rintro r w1 ⟨rfl, rfl⟩
  go_wp2_with fail
  go_quiet (fail)
  go_wp2
  exact ⟨rfl, rfl, (Fr.refl _ _).drewN nq⟩

set_option maxRecDepth 100000 in
set_option maxHeartbeats 4000000 in
theorem begin_arg (s : Bytes) (lim : Lim) (hs : s.length ≤ 140737488355327) (b : Nat) (x : D7.Dx) (vs vo : Value) (w : World) (h : DrRep w b s lim x vs vo) (hx : x.at_ ≤ 262144) (c : Nat) (hc : D7.want s lim x.at_ = .ok c) (hcb : c < 256) (hi : ¬ (x.out.length : Int) = lim.i) (h27 : c % 32 ≤ 27) (h7 : c / 32 = 7 → 20 ≤ c % 32 ∧ c % 32 ≤ 23) (e : D7.Flt) (he : argD s lim x.at_ (c % 32) (x.at_ + 1) = .error e) :
    Calls Tryd.prog 51 #[.pointer (some ⟨b, 0, none⟩)] w fun r w' => r = panics e ∧ Fr (It b) w w' := by
  have hw := dwant_yes b x.at_ s lim x vs vo w h c hc
  have HW := Px.hid hw
  have HH := Px.hid h
  obtain ⟨_, _, c2, _, c5, _, c7⟩ := h.cells
  obtain ⟨oa, oc, hov, _⟩ := h.out.len
  rw [hov] at c7
  have HOV := Px.hid hov
  obtain ⟨k, hk⟩ : ∃ k, k = c / 32 := ⟨_, rfl⟩
  obtain ⟨a, ha⟩ : ∃ a, a = c % 32 := ⟨_, rfl⟩
  have hq : (c : Int) / 32 = (k : Int) := by omega
  have hmd : (c : Int) % 32 = (a : Int) := by omega
  have hk8 : k < 8 := by omega
  have ha32 : a < 32 := by omega
  rw [← ha] at h27 h7 he
  rw [← hk] at h7
  clear hk ha hw hc h hov
  have hib : ((x.out.length : Int) == lim.i) = false := by simpa using hi
  have z27 : ¬ (27 : Int) < a := by omega
  have z7 : (((k : Int) == 7) = false) ∨ (((k : Int) == 7) = true ∧ ¬ (a : Int) < 20 ∧ ¬ (23 : Int) < a) := by
    by_cases e : k = 7
    · have := h7 e
      exact .inr ⟨by simp; omega, by omega, by omega⟩
    · exact .inl (by simp; omega)
  have ep1 : ((x.at_ + 1 : Nat) : Int) = (x.at_ : Int) + 1 := by omega
  have f5 := HH.out.free 5
  have HE := Px.hid he
  have HX := Px.hid (And.intro hs (And.intro hx h27))
  clear hi he h7 h27 hs
  rcases z7 with z7 | ⟨z7, z20, z23⟩
  all_goals
    go_enter Tryd.func51, Tryd.ntmps51
    go_wp2_with fail
    refine HW.out.mono ?_
    rintro r w1 ⟨rfl, rfl⟩
    go_wp2_with fail
    go_quiet (fail)
    have hmv := (HH.out.drewN nq).move (x.at_ + 1)
    rw [ep1] at hmv
    have HMV := Px.hid (And.intro hmv ((Fr.drewN (Fr.refl (It b) w1) nq).setCell (p := ⟨b, 5, none⟩) (.inl rfl) (.int .i64 ((x.at_ : Int) + 1))))
    clear hmv
    go_wp2_with fail
    refine (arg_any b x.at_ a s lim _ vs vo _ HMV.out.1 (by have := HX.out.2.1; show x.at_ + 1 ≤ 1000000; omega) HX.out.2.2).mono ?_
    intro r w2 hpost
    unfold ArgPost at hpost
    rw [show argD s lim x.at_ a ({ x with at_ := x.at_ + 1 } : D7.Dx).at_ = .error e from HE.out] at hpost
    obtain ⟨rfl, hf⟩ := hpost
    unfold panics
    go_wp2
    exact ⟨rfl, rfl, HMV.out.2.trans hf (fun _ _ h => h)⟩

end Go.Proofs.YtddiabaagpmkgaaDoor
