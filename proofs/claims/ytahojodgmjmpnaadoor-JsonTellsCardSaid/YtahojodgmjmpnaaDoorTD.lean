/-
  Several texts in one: The walks over the program's reader of package json: escape joined, number. How the reference's reader of layer 16 goes on in memory: its list, cells of a value, frames; the contracts of value, array, object. The walks over the program's reader of package json: sign, text.
-/
import Derived.Test.YtahojodgmjmpnaaDoorTC
import Derived.Deep.DeepCutAuto
import Derived.Test.YtahojodgmjmpnaaDoorZiJ
import Derived.Test.YtahojodgmjmpnaaDoorTB
import Derived.Test.YtahojodgmjmpnaaDoorTB
/-! The walks over the program's reader of package json: escape joined, number. -/
namespace Go.Proofs.YtahojodgmjmpnaaDoor
open Go.RowKit Go.Px

theorem fourN_len {s : Bytes} {lim : Lim} : ∀ (m p n r : Nat), D6.fourN s lim m p n = .ok r → 0 < m → p + m ≤ min s.length lim.b.toNat
  | 0, _, _, _, _, h => absurd h (by decide)
  | m + 1, p, n, r, h, _ => by
    rw [jfourN_succ] at h
    obtain ⟨W, hW⟩ : ∃ W, D6.want s lim p = W := ⟨_, rfl⟩
    rw [hW] at h
    cases W with
    | error e => cases h
    | ok c =>
      have hl := (want_lt6 hW).1
      simp only at h
      split at h
      · cases h
      · cases m with
        | zero => omega
        | succ m => have := fourN_len (m + 1) (p + 1) _ r h (by omega); omega
theorem fourN_lt {s : Bytes} {lim : Lim} : ∀ (m p n r : Nat), D6.fourN s lim m p n = .ok r → r < (n + 1) * 16 ^ m
  | 0, _, n, r, h => by
    have h : Except.ok n = Except.ok (ε := D6.Flt) r := h
    cases h
    omega
  | m + 1, p, n, r, h => by
    rw [jfourN_succ] at h
    obtain ⟨W, hW⟩ : ∃ W, D6.want s lim p = W := ⟨_, rfl⟩
    rw [hW] at h
    cases W with
    | error e => cases h
    | ok c =>
      simp only at h
      cases hh : R6.hex c with
      | none => rw [hh] at h; cases h
      | some d =>
        rw [hh] at h
        have hd : d < 16 := by
          unfold R6.hex R6.digit at hh
          by_cases e1 : 48 ≤ c ∧ c ≤ 57
          · rw [if_pos (by simpa using e1)] at hh; cases hh; omega
          · rw [if_neg (by simpa using e1)] at hh
            by_cases e2 : 97 ≤ c ∧ c ≤ 102
            · rw [if_pos (by simpa using e2)] at hh; cases hh; omega
            · rw [if_neg (by simpa using e2)] at hh
              by_cases e3 : 65 ≤ c ∧ c ≤ 70
              · rw [if_pos (by simpa using e3)] at hh; cases hh; omega
              · rw [if_neg (by simpa using e3)] at hh; cases hh
        have := fourN_lt m (p + 1) _ r h
        have hp : (16 * n + d + 1) * 16 ^ m ≤ ((n + 1) * 16) * 16 ^ m := Nat.mul_le_mul_right _ (by omega)
        rw [Nat.pow_succ, show 16 ^ m * 16 = 16 * 16 ^ m from Nat.mul_comm _ _, ← Nat.mul_assoc]
        omega
theorem letterV_cases {c : Nat} {v : UInt8} (h : R6.letter c = some v) : (c = 34 ∧ v = 34) ∨ (c = 92 ∧ v = 92) ∨ (c = 47 ∧ v = 47) ∨ (c = 98 ∧ v = 8) ∨ (c = 102 ∧ v = 12) ∨ (c = 110 ∧ v = 10) ∨ (c = 114 ∧ v = 13) ∨ (c = 116 ∧ v = 9) := by
  unfold R6.letter at h
  by_cases e1 : c = 34
  · subst e1; cases h; simp
  rw [if_neg (by simpa using e1)] at h
  by_cases e2 : c = 92
  · subst e2; cases h; simp
  rw [if_neg (by simpa using e2)] at h
  by_cases e3 : c = 47
  · subst e3; cases h; simp
  rw [if_neg (by simpa using e3)] at h
  by_cases e4 : c = 98
  · subst e4; cases h; simp
  rw [if_neg (by simpa using e4)] at h
  by_cases e5 : c = 102
  · subst e5; cases h; simp
  rw [if_neg (by simpa using e5)] at h
  by_cases e6 : c = 110
  · subst e6; cases h; simp
  rw [if_neg (by simpa using e6)] at h
  by_cases e7 : c = 114
  · subst e7; cases h; simp
  rw [if_neg (by simpa using e7)] at h
  by_cases e8 : c = 116
  · subst e8; cases h; simp
  rw [if_neg (by simpa using e8)] at h
  cases h
theorem jesc_any (b p : Nat) (s : Bytes) (lim : Lim) (vs vo : Value) (hc : Cj s lim) (w : World) (h : Jr w b s lim p vs vo) :
    Calls Tryd.prog 61 #[.pointer (some ⟨b, 0, none⟩)] w (JEsc w b s lim vs vo (D6.escape s lim p)) := by
  have hlen := hc.len
  unfold D6.escape
  obtain ⟨W, hW⟩ : ∃ W, D6.want s lim p = W := ⟨_, rfl⟩
  cases W with
  | error e => rw [hW]; exact jesc_no b p s lim vs vo w h e hW
  | ok c =>
    have hpl := (want_lt6 hW).1
    rw [hW]
    simp only
    cases hl : R6.letter c with
    | some v =>
      rcases letterV_cases hl with ⟨rfl, rfl⟩ | ⟨rfl, rfl⟩ | ⟨rfl, rfl⟩ | ⟨rfl, rfl⟩ | ⟨rfl, rfl⟩ | ⟨rfl, rfl⟩ | ⟨rfl, rfl⟩ | ⟨rfl, rfl⟩
      · exact jesc_34 b p s lim vs vo (by omega) w h hW
      · exact jesc_92 b p s lim vs vo (by omega) w h hW
      · exact jesc_47 b p s lim vs vo (by omega) w h hW
      · exact jesc_98 b p s lim vs vo (by omega) w h hW
      · exact jesc_102 b p s lim vs vo (by omega) w h hW
      · exact jesc_110 b p s lim vs vo (by omega) w h hW
      · exact jesc_114 b p s lim vs vo (by omega) w h hW
      · exact jesc_116 b p s lim vs vo (by omega) w h hW
    | none =>
      simp only
      by_cases hu : c = 117
      · subst hu
        rw [if_pos (by decide)]
        cases hf : D6.four s lim (p + 1) with
        | error e => exact jescu_no b p s lim vs vo (by omega) w h hW e hf
        | ok n =>
          have hn : n < 65536 := fourN_lt 4 (p + 1) 0 n hf
          have hp5 := fourN_len 4 (p + 1) 0 n hf (by omega)
          simp only
          by_cases c1 : 56320 ≤ n ∧ n < 57344
          · rw [if_pos (by simpa using c1)]
            exact jescu_low b p s lim vs vo (by omega) w h hW n hf c1.1 c1.2
          · rw [if_neg (by simpa using c1)]
            by_cases c2 : 55296 ≤ n ∧ n < 56320
            · rw [if_pos (by simpa using c2)]
              unfold D6.second
              cases hm : D6.must s lim (p + 5) 92 with
              | error e => exact jescu_m1 b p s lim vs vo (by omega) w h hW n hf c2.1 c2.2 (by omega) e hm
              | ok q =>
                obtain ⟨rfl, hq⟩ := must_ok hm
                simp only
                cases hm2 : D6.must s lim (p + 5 + 1) 117 with
                | error e => exact jescu_m2 b p s lim vs vo (by omega) w h hW n hf c2.1 c2.2 (by omega) hm (by omega) e hm2
                | ok q =>
                  obtain ⟨rfl, hq2⟩ := must_ok hm2
                  simp only
                  cases hf2 : D6.four s lim (p + 5 + 1 + 1) with
                  | error e => exact jescu_f2 b p s lim vs vo (by omega) w h hW n hf c2.1 c2.2 (by omega) hm (by omega) hm2 (by omega) e hf2
                  | ok m =>
                    simp only
                    by_cases c3 : m < 56320 ∨ 57344 ≤ m
                    · rw [if_pos (by simpa using c3)]
                      exact jescu_bad b p s lim vs vo (by omega) w h hW n hf c2.1 c2.2 (by omega) hm (by omega) hm2 (by omega) m hf2 (by omega)
                    · rw [if_neg (by simpa using c3)]
                      exact jescu_two b p s lim vs vo (by omega) w h hW n hf c2.1 c2.2 (by omega) hm (by omega) hm2 (by omega) m hf2 (by omega) (by omega)
            · rw [if_neg (by simpa using c2)]
              exact jescu_one b p s lim vs vo (by omega) w h hW n hf (by omega) hn
      · rw [if_neg (by simpa using hu)]
        exact jesc_odd b p c s lim vs vo (by omega) w h hW hl hu
/-! Numbers -/
theorem digN_le {s : Bytes} {lim : Lim} : ∀ (m p : Nat), p ≤ min s.length lim.b.toNat → p ≤ D6.digN s lim m p ∧ D6.digN s lim m p ≤ min s.length lim.b.toNat
  | 0, p, h => ⟨Nat.le_refl _, h⟩
  | m + 1, p, h => by
    rw [jdigN_succ]
    by_cases hd : R6.digit (D6.peek s lim p) = true
    · rw [if_pos hd]
      have hl := (peek_lt (s := s) (lim := lim) (p := p) (fun e => by rw [e] at hd; cases hd)).1
      have := digN_le (lim := lim) m (p + 1) hl
      exact ⟨by omega, this.2⟩
    · rw [if_neg hd]; exact ⟨Nat.le_refl _, h⟩
theorem digits_le {s : Bytes} {lim : Lim} {p q : Nat} (h : p ≤ min s.length lim.b.toNat) (hd : D6.digits s lim p = .ok q) : p ≤ q ∧ q ≤ min s.length lim.b.toNat := by
  unfold D6.digits at hd
  split at hd
  · cases hd
    exact digN_le _ p h
  · split at hd <;> cases hd
theorem jdigits_no {b p : Nat} {s : Bytes} {lim : Lim} {vs vo : Value} {w : World} {e : D6.Flt} (hc : Cj s lim) (hp : p ≤ min s.length lim.b.toNat) (h : Jr w b s lim p vs vo) (he : D6.digits s lim p = .error e) :
    Calls Tryd.prog 64 #[.pointer (some ⟨b, 0, none⟩)] w fun r w' => r = jpanics e ∧ Fr (It b) w w' := by
  have := jdigits_any b p s lim vs vo hc hp w h
  rw [he] at this
  exact this
theorem jdigits_yes {b p q : Nat} {s : Bytes} {lim : Lim} {vs vo : Value} {w : World} (hc : Cj s lim) (hp : p ≤ min s.length lim.b.toNat) (h : Jr w b s lim p vs vo) (he : D6.digits s lim p = .ok q) :
    Calls Tryd.prog 64 #[.pointer (some ⟨b, 0, none⟩)] w fun r w' => r = .returned (.tuple #[]) ∧ Jr w' b s lim q vs vo ∧ Fr (It b) w w' := by
  have := jdigits_any b p s lim vs vo hc hp w h
  rw [he] at this
  exact this
def JAt (w w' : World) (b : Nat) (s : Bytes) (lim : Lim) (q : Nat) (vs vo : Value) : Prop := Jr w' b s lim q vs vo ∧ Fr (It b) w w'
/-- A number's text, as a value. -/
def partV (s : Bytes) (p q : Nat) : Value := S ((s.take q).drop p)

set_option maxRecDepth 100000 in
set_option maxHeartbeats 4000000 in
theorem jnum_a (b p : Nat) (s : Bytes) (lim : Lim) (vs vo : Value) (hc : Cj s lim) (hp : p ≤ min s.length lim.b.toNat) (w : World) (h : Jr w b s lim p vs vo) (q1 : Nat) (hq1 : (if D6.peek s lim p == 45 then p + 1 else p) = q1) (hn : ¬ D6.peek s lim q1 = 48) (e : D6.Flt) (hd : D6.digits s lim q1 = .error e) :
    Calls Tryd.prog 47 #[.pointer (some ⟨b, 0, none⟩)] w (JStep w b s lim vs vo (.error e) (partV s p)) := by
  have hlen := hc.len
  have hl0 := peek_lt (s := s) (lim := lim) (p := p)
  have hq1s : p ≤ q1 ∧ q1 ≤ min s.length lim.b.toNat := by
    rw [← hq1]
    by_cases e : D6.peek s lim p = 45
    · rw [if_pos (by simpa using e)]; have := hl0 (by omega); omega
    · rw [if_neg (by simpa using e)]; omega
  have hwp := wrap1 p (by omega)
  have hw1 := wrap1 q1 (by omega)
  have HD := Px.hid hd
  have hn1 : ((D6.peek s lim q1 : Int) == 48) = false := by rw [beq_eq_false_iff_ne]; omega
  clear hd hn
  obtain ⟨_, _, _, _, c5, _, _⟩ := h.cells
  have H0 := Px.hid (show JAt w w b s lim p vs vo from ⟨h, Fr.refl _ _⟩)
  have HC := Px.hid hc
  have HQ1 := Px.hid hq1
  clear h hc hl0 hq1 hlen
  go_enter Tryd.func47, Tryd.ntmps47
  go_wp2_with fail
  clear c5
  go_wp2_with fail
  refine (jpeek_any b p s lim vs vo _ H0.out.1).mono ?_
  rintro r wp0 ⟨rfl, hs⟩
  have HA0 := Px.hid (show JAt w wp0 b s lim p vs vo from ⟨H0.out.1.same hs, It.trans H0.out.2 hs.it⟩)
  clear hs
  obtain ⟨t0, ht0⟩ : ∃ t, ((D6.peek s lim p : Int) == 45) = t := ⟨_, rfl⟩
  have HT0 := Px.hid (show q1 = if t0 then p + 1 else p by
    rw [← HQ1.out, ← ht0]
    by_cases e : D6.peek s lim p = 45
    · rw [if_pos (by simpa using e), if_pos (by rw [e]; rfl)]
    · rw [if_neg (by simpa using e), if_neg (by rw [beq_iff_eq]; omega)])
  obtain ⟨_, _, _, _, c5, _, _⟩ := HA0.out.1.cells
  have f5 := HA0.out.1.free 5
  go_upto_if 12 with fail
  go_cut [] (fun wx => JAt w wx b s lim q1 vs vo)
  case first =>
    cases t0 with
    | true =>
      have HS := Px.hid (show JAt w (wp0.setCell ⟨b, 5, none⟩ (.int .i64 ((p + 1 : Nat)))) b s lim q1 vs vo from by rw [show q1 = p + 1 from HT0.out]; exact HA0.out.1.go HA0.out.2 (p + 1))
      go_wp2_with fail
      go_meet
      exact HS.out
    | false =>
      have HS := Px.hid (show JAt w wp0 b s lim q1 vs vo from by rw [show q1 = p from HT0.out]; exact HA0.out)
      go_wp2_with fail
      go_meet
      exact HS.out
  case rest =>
  have H1 := Px.hid hcut
  clear hcut c5 f5 ht0 HT0
  go_wp2_with fail
  refine (jpeek_any b q1 s lim vs vo _ H1.out.1).mono ?_
  rintro r wp1 ⟨rfl, hs⟩
  have HA1 := Px.hid (show JAt w wp1 b s lim q1 vs vo from ⟨H1.out.1.same hs, It.trans H1.out.2 hs.it⟩)
  clear hs
  go_wp2_with fail
  refine (jdigits_no HC.out hq1s.2 HA1.out.1 HD.out).mono ?_
  rintro r wd ⟨rfl, hf⟩
  have HS := Px.hid (It.trans HA1.out.2 hf)
  clear hf
  unfold jpanics
  go_wp2
  exact ⟨rfl, JStep.bad rfl HS.out⟩
set_option maxRecDepth 100000 in
set_option maxHeartbeats 4000000 in
theorem jnum_b (b p : Nat) (s : Bytes) (lim : Lim) (vs vo : Value) (hc : Cj s lim) (hp : p ≤ min s.length lim.b.toNat) (w : World) (h : Jr w b s lim p vs vo) (q1 q2 : Nat) (hq1 : (if D6.peek s lim p == 45 then p + 1 else p) = q1) (hA : (if D6.peek s lim q1 == 48 then .ok (q1 + 1) else D6.digits s lim q1) = Except.ok q2) (hdot : D6.peek s lim q2 = 46) (e : D6.Flt) (hd : D6.digits s lim (q2 + 1) = .error e) :
    Calls Tryd.prog 47 #[.pointer (some ⟨b, 0, none⟩)] w (JStep w b s lim vs vo (.error e) (partV s p)) := by
  have hlen := hc.len
  have hl0 := peek_lt (s := s) (lim := lim) (p := p)
  have hq1s : p ≤ q1 ∧ q1 ≤ min s.length lim.b.toNat := by
    rw [← hq1]
    by_cases e : D6.peek s lim p = 45
    · rw [if_pos (by simpa using e)]; have := hl0 (by omega); omega
    · rw [if_neg (by simpa using e)]; omega
  have hwp := wrap1 p (by omega)
  have hw1 := wrap1 q1 (by omega)
  have hl1 := peek_lt (s := s) (lim := lim) (p := q1)
  have hq2s : q1 ≤ q2 ∧ q2 ≤ min s.length lim.b.toNat := by
    by_cases e : D6.peek s lim q1 = 48
    · rw [if_pos (by simpa using e)] at hA; cases hA; have := hl1 (by omega); omega
    · rw [if_neg (by simpa using e)] at hA; exact digits_le hq1s.2 hA
  have hw2 := wrap1 q2 (by omega)
  have HA := Px.hid hA
  clear hA hl1
  have hl2 := peek_lt (s := s) (lim := lim) (p := q2)
  have hq2l : q2 + 1 ≤ min s.length lim.b.toNat := by have := hl2 (by omega); omega
  have HD := Px.hid hd
  have hn2 : ((D6.peek s lim q2 : Int) == 46) = true := by rw [beq_iff_eq]; omega
  clear hd hdot hl2
  obtain ⟨_, _, _, _, c5, _, _⟩ := h.cells
  have H0 := Px.hid (show JAt w w b s lim p vs vo from ⟨h, Fr.refl _ _⟩)
  have HC := Px.hid hc
  have HQ1 := Px.hid hq1
  clear h hc hl0 hq1 hlen
  go_enter Tryd.func47, Tryd.ntmps47
  go_wp2_with fail
  clear c5
  go_wp2_with fail
  refine (jpeek_any b p s lim vs vo _ H0.out.1).mono ?_
  rintro r wp0 ⟨rfl, hs⟩
  have HA0 := Px.hid (show JAt w wp0 b s lim p vs vo from ⟨H0.out.1.same hs, It.trans H0.out.2 hs.it⟩)
  clear hs
  obtain ⟨t0, ht0⟩ : ∃ t, ((D6.peek s lim p : Int) == 45) = t := ⟨_, rfl⟩
  have HT0 := Px.hid (show q1 = if t0 then p + 1 else p by
    rw [← HQ1.out, ← ht0]
    by_cases e : D6.peek s lim p = 45
    · rw [if_pos (by simpa using e), if_pos (by rw [e]; rfl)]
    · rw [if_neg (by simpa using e), if_neg (by rw [beq_iff_eq]; omega)])
  obtain ⟨_, _, _, _, c5, _, _⟩ := HA0.out.1.cells
  have f5 := HA0.out.1.free 5
  go_upto_if 12 with fail
  go_cut [] (fun wx => JAt w wx b s lim q1 vs vo)
  case first =>
    cases t0 with
    | true =>
      have HS := Px.hid (show JAt w (wp0.setCell ⟨b, 5, none⟩ (.int .i64 ((p + 1 : Nat)))) b s lim q1 vs vo from by rw [show q1 = p + 1 from HT0.out]; exact HA0.out.1.go HA0.out.2 (p + 1))
      go_wp2_with fail
      go_meet
      exact HS.out
    | false =>
      have HS := Px.hid (show JAt w wp0 b s lim q1 vs vo from by rw [show q1 = p from HT0.out]; exact HA0.out)
      go_wp2_with fail
      go_meet
      exact HS.out
  case rest =>
  have H1 := Px.hid hcut
  clear hcut c5 f5 ht0 HT0
  go_wp2_with fail
  refine (jpeek_any b q1 s lim vs vo _ H1.out.1).mono ?_
  rintro r wp1 ⟨rfl, hs⟩
  have HA1 := Px.hid (show JAt w wp1 b s lim q1 vs vo from ⟨H1.out.1.same hs, It.trans H1.out.2 hs.it⟩)
  clear hs
  obtain ⟨t1, ht1⟩ : ∃ t, ((D6.peek s lim q1 : Int) == 48) = t := ⟨_, rfl⟩
  have HT1 := Px.hid (show (if t1 then Except.ok (q1 + 1) else D6.digits s lim q1) = .ok q2 by
    rw [← HA.out, ← ht1]
    by_cases e : D6.peek s lim q1 = 48
    · rw [if_pos (by rw [e]; rfl), if_pos (by simpa using e)]
    · rw [if_neg (by rw [beq_iff_eq]; omega), if_neg (by simpa using e)])
  obtain ⟨_, _, _, _, c5, _, _⟩ := HA1.out.1.cells
  have f5 := HA1.out.1.free 5
  go_upto_if 22 with fail
  go_cut [] (fun wx => JAt w wx b s lim q2 vs vo)
  case first =>
    cases t1 with
    | true =>
      have HS := Px.hid (show JAt w (wp1.setCell ⟨b, 5, none⟩ (.int .i64 ((q1 + 1 : Nat)))) b s lim q2 vs vo from by
        have e : Except.ok (q1 + 1) = Except.ok (ε := D6.Flt) q2 := HT1.out
        cases e
        exact HA1.out.1.go HA1.out.2 (q1 + 1))
      go_wp2_with fail
      go_meet
      exact HS.out
    | false =>
      go_wp2_with fail
      refine (jdigits_yes HC.out hq1s.2 HA1.out.1 HT1.out).mono ?_
      rintro r wd ⟨rfl, hj, hf⟩
      have HS := Px.hid (show JAt w wd b s lim q2 vs vo from ⟨hj, It.trans HA1.out.2 hf⟩)
      clear hj hf
      go_wp2_with fail
      go_meet
      exact HS.out
  case rest =>
  have H2 := Px.hid hcut
  clear hcut c5 f5 ht1 HT1
  go_wp2_with fail
  refine (jpeek_any b q2 s lim vs vo _ H2.out.1).mono ?_
  rintro r wp2 ⟨rfl, hs⟩
  have HA2 := Px.hid (show JAt w wp2 b s lim q2 vs vo from ⟨H2.out.1.same hs, It.trans H2.out.2 hs.it⟩)
  clear hs
  obtain ⟨_, _, _, _, c5, _, _⟩ := HA2.out.1.cells
  have f5 := HA2.out.1.free 5
  have HB := Px.hid (HA2.out.1.go HA2.out.2 (q2 + 1))
  go_wp2_with fail
  refine (jdigits_no HC.out hq2l HB.out.1 HD.out).mono ?_
  rintro r wd ⟨rfl, hf⟩
  have HS := Px.hid (It.trans HB.out.2 hf)
  clear hf
  unfold jpanics
  go_wp2
  exact ⟨rfl, JStep.bad rfl HS.out⟩
set_option maxRecDepth 100000 in
set_option maxHeartbeats 4000000 in
theorem jnum_c (b p : Nat) (s : Bytes) (lim : Lim) (vs vo : Value) (hc : Cj s lim) (hp : p ≤ min s.length lim.b.toNat) (w : World) (h : Jr w b s lim p vs vo) (q1 q2 : Nat) (hq1 : (if D6.peek s lim p == 45 then p + 1 else p) = q1) (hA : (if D6.peek s lim q1 == 48 then .ok (q1 + 1) else D6.digits s lim q1) = Except.ok q2) (q3 : Nat) (hB : (if D6.peek s lim q2 == 46 then D6.digits s lim (q2 + 1) else .ok q2) = Except.ok q3) (he : D6.peek s lim q3 = 101 ∨ D6.peek s lim q3 = 69) (q4 : Nat) (hq4 : (if D6.peek s lim (q3 + 1) == 43 || D6.peek s lim (q3 + 1) == 45 then q3 + 2 else q3 + 1) = q4) (e : D6.Flt) (hd : D6.digits s lim q4 = .error e) :
    Calls Tryd.prog 47 #[.pointer (some ⟨b, 0, none⟩)] w (JStep w b s lim vs vo (.error e) (partV s p)) := by
  have hlen := hc.len
  have hl0 := peek_lt (s := s) (lim := lim) (p := p)
  have hq1s : p ≤ q1 ∧ q1 ≤ min s.length lim.b.toNat := by
    rw [← hq1]
    by_cases e : D6.peek s lim p = 45
    · rw [if_pos (by simpa using e)]; have := hl0 (by omega); omega
    · rw [if_neg (by simpa using e)]; omega
  have hwp := wrap1 p (by omega)
  have hw1 := wrap1 q1 (by omega)
  have hl1 := peek_lt (s := s) (lim := lim) (p := q1)
  have hq2s : q1 ≤ q2 ∧ q2 ≤ min s.length lim.b.toNat := by
    by_cases e : D6.peek s lim q1 = 48
    · rw [if_pos (by simpa using e)] at hA; cases hA; have := hl1 (by omega); omega
    · rw [if_neg (by simpa using e)] at hA; exact digits_le hq1s.2 hA
  have hw2 := wrap1 q2 (by omega)
  have HA := Px.hid hA
  clear hA hl1
  have hl2 := peek_lt (s := s) (lim := lim) (p := q2)
  have hq3s : q2 ≤ q3 ∧ q3 ≤ min s.length lim.b.toNat := by
    by_cases e : D6.peek s lim q2 = 46
    · rw [if_pos (by simpa using e)] at hB; have := digits_le (by have := hl2 (by omega); omega) hB; omega
    · rw [if_neg (by simpa using e)] at hB; cases hB; omega
  have hw3 := wrap1 q3 (by omega)
  have HB := Px.hid (And.intro hB hl2)
  clear hB hl2
  have hl3 := peek_lt (s := s) (lim := lim) (p := q3)
  have hq3l : q3 + 1 ≤ min s.length lim.b.toNat := by have := hl3 (by omega); omega
  have hl4 := peek_lt (s := s) (lim := lim) (p := q3 + 1)
  have hq4s : q3 + 1 ≤ q4 ∧ q4 ≤ min s.length lim.b.toNat := by
    rw [← hq4]
    by_cases e : D6.peek s lim (q3 + 1) = 43 ∨ D6.peek s lim (q3 + 1) = 45
    · rw [if_pos (by simpa using e)]; have := hl4 (by omega); omega
    · rw [if_neg (by simpa using e)]; omega
  have hw4 : IntKind.i64.wrap ((q3 : Int) + 1 + 1) = (q3 : Int) + 1 + 1 := IntWalk.i64_in _ ⟨by omega, by omega⟩
  have HQ4 := Px.hid hq4
  have HEE := Px.hid he
  clear hl3 hl4 hq4 he
  have HD := Px.hid hd
  clear hd
  obtain ⟨_, _, _, _, c5, _, _⟩ := h.cells
  have H0 := Px.hid (show JAt w w b s lim p vs vo from ⟨h, Fr.refl _ _⟩)
  have HC := Px.hid hc
  have HQ1 := Px.hid hq1
  clear h hc hl0 hq1 hlen
  go_enter Tryd.func47, Tryd.ntmps47
  go_wp2_with fail
  clear c5
  go_wp2_with fail
  refine (jpeek_any b p s lim vs vo _ H0.out.1).mono ?_
  rintro r wp0 ⟨rfl, hs⟩
  have HA0 := Px.hid (show JAt w wp0 b s lim p vs vo from ⟨H0.out.1.same hs, It.trans H0.out.2 hs.it⟩)
  clear hs
  obtain ⟨t0, ht0⟩ : ∃ t, ((D6.peek s lim p : Int) == 45) = t := ⟨_, rfl⟩
  have HT0 := Px.hid (show q1 = if t0 then p + 1 else p by
    rw [← HQ1.out, ← ht0]
    by_cases e : D6.peek s lim p = 45
    · rw [if_pos (by simpa using e), if_pos (by rw [e]; rfl)]
    · rw [if_neg (by simpa using e), if_neg (by rw [beq_iff_eq]; omega)])
  obtain ⟨_, _, _, _, c5, _, _⟩ := HA0.out.1.cells
  have f5 := HA0.out.1.free 5
  go_upto_if 12 with fail
  go_cut [] (fun wx => JAt w wx b s lim q1 vs vo)
  case first =>
    cases t0 with
    | true =>
      have HS := Px.hid (show JAt w (wp0.setCell ⟨b, 5, none⟩ (.int .i64 ((p + 1 : Nat)))) b s lim q1 vs vo from by rw [show q1 = p + 1 from HT0.out]; exact HA0.out.1.go HA0.out.2 (p + 1))
      go_wp2_with fail
      go_meet
      exact HS.out
    | false =>
      have HS := Px.hid (show JAt w wp0 b s lim q1 vs vo from by rw [show q1 = p from HT0.out]; exact HA0.out)
      go_wp2_with fail
      go_meet
      exact HS.out
  case rest =>
  have H1 := Px.hid hcut
  clear hcut c5 f5 ht0 HT0
  go_wp2_with fail
  refine (jpeek_any b q1 s lim vs vo _ H1.out.1).mono ?_
  rintro r wp1 ⟨rfl, hs⟩
  have HA1 := Px.hid (show JAt w wp1 b s lim q1 vs vo from ⟨H1.out.1.same hs, It.trans H1.out.2 hs.it⟩)
  clear hs
  obtain ⟨t1, ht1⟩ : ∃ t, ((D6.peek s lim q1 : Int) == 48) = t := ⟨_, rfl⟩
  have HT1 := Px.hid (show (if t1 then Except.ok (q1 + 1) else D6.digits s lim q1) = .ok q2 by
    rw [← HA.out, ← ht1]
    by_cases e : D6.peek s lim q1 = 48
    · rw [if_pos (by rw [e]; rfl), if_pos (by simpa using e)]
    · rw [if_neg (by rw [beq_iff_eq]; omega), if_neg (by simpa using e)])
  obtain ⟨_, _, _, _, c5, _, _⟩ := HA1.out.1.cells
  have f5 := HA1.out.1.free 5
  go_upto_if 22 with fail
  go_cut [] (fun wx => JAt w wx b s lim q2 vs vo)
  case first =>
    cases t1 with
    | true =>
      have HS := Px.hid (show JAt w (wp1.setCell ⟨b, 5, none⟩ (.int .i64 ((q1 + 1 : Nat)))) b s lim q2 vs vo from by
        have e : Except.ok (q1 + 1) = Except.ok (ε := D6.Flt) q2 := HT1.out
        cases e
        exact HA1.out.1.go HA1.out.2 (q1 + 1))
      go_wp2_with fail
      go_meet
      exact HS.out
    | false =>
      go_wp2_with fail
      refine (jdigits_yes HC.out hq1s.2 HA1.out.1 HT1.out).mono ?_
      rintro r wd ⟨rfl, hj, hf⟩
      have HS := Px.hid (show JAt w wd b s lim q2 vs vo from ⟨hj, It.trans HA1.out.2 hf⟩)
      clear hj hf
      go_wp2_with fail
      go_meet
      exact HS.out
  case rest =>
  have H2 := Px.hid hcut
  clear hcut c5 f5 ht1 HT1
  go_wp2_with fail
  refine (jpeek_any b q2 s lim vs vo _ H2.out.1).mono ?_
  rintro r wp2 ⟨rfl, hs⟩
  have HA2 := Px.hid (show JAt w wp2 b s lim q2 vs vo from ⟨H2.out.1.same hs, It.trans H2.out.2 hs.it⟩)
  clear hs
  obtain ⟨t2, ht2⟩ : ∃ t, ((D6.peek s lim q2 : Int) == 46) = t := ⟨_, rfl⟩
  have HT2 := Px.hid (show (if t2 then D6.digits s lim (q2 + 1) else Except.ok q2) = .ok q3 ∧ (t2 = true → q2 + 1 ≤ min s.length lim.b.toNat) by
    rw [← HB.out.1, ← ht2]
    by_cases e : D6.peek s lim q2 = 46
    · rw [if_pos (by rw [e]; rfl), if_pos (by simpa using e)]
      exact ⟨rfl, fun _ => by have := HB.out.2 (by omega); omega⟩
    · rw [if_neg (by rw [beq_iff_eq]; omega), if_neg (by simpa using e)]
      exact ⟨rfl, fun h => by rw [beq_iff_eq] at h; omega⟩)
  obtain ⟨_, _, _, _, c5, _, _⟩ := HA2.out.1.cells
  have f5 := HA2.out.1.free 5
  go_upto_if 34 with fail
  go_cut [] (fun wx => JAt w wx b s lim q3 vs vo)
  case first =>
    cases t2 with
    | true =>
      have HX := Px.hid (HA2.out.1.go HA2.out.2 (q2 + 1))
      go_wp2_with fail
      refine (jdigits_yes HC.out (HT2.out.2 (by simp)) HX.out.1 HT2.out.1).mono ?_
      rintro r wd ⟨rfl, hj, hf⟩
      have HS := Px.hid (show JAt w wd b s lim q3 vs vo from ⟨hj, It.trans HX.out.2 hf⟩)
      clear hj hf
      go_wp2_with fail
      go_meet
      exact HS.out
    | false =>
      have HS := Px.hid (show JAt w wp2 b s lim q3 vs vo from by
        have e : Except.ok q2 = Except.ok (ε := D6.Flt) q3 := HT2.out.1
        cases e
        exact HA2.out)
      go_wp2_with fail
      go_meet
      exact HS.out
  case rest =>
  have H3 := Px.hid hcut
  clear hcut c5 f5 ht2 HT2
  go_wp2_with fail
  refine (jpeek_any b q3 s lim vs vo _ H3.out.1).mono ?_
  rintro r wp3 ⟨rfl, hs⟩
  have HA3 := Px.hid (show JAt w wp3 b s lim q3 vs vo from ⟨H3.out.1.same hs, It.trans H3.out.2 hs.it⟩)
  clear hs
  have g3 : ((D6.peek s lim q3 : Int) == 101) = true ∨ (((D6.peek s lim q3 : Int) == 101) = false ∧ ((D6.peek s lim q3 : Int) == 69) = true) := by
    rcases HEE.out with e | e
    · exact .inl (by rw [e]; rfl)
    · exact .inr ⟨by rw [e]; rfl, by rw [e]; rfl⟩
  obtain ⟨_, _, _, _, c5, _, _⟩ := HA3.out.1.cells
  have f5 := HA3.out.1.free 5
  have HX3 := Px.hid (HA3.out.1.go HA3.out.2 (q3 + 1))
  obtain ⟨k3, hk3⟩ : ∃ k, D6.peek s lim q3 = k := ⟨_, rfl⟩
  rw [hk3] at g3 ⊢
  clear hk3
  rcases g3 with g3 | ⟨g3, g3'⟩
  · go_wp2_with fail
    refine (jpeek_any b (q3 + 1) s lim vs vo _ HX3.out.1).mono ?_
    rintro r wp4 ⟨rfl, hs⟩
    have HA4 := Px.hid (show JAt w wp4 b s lim (q3 + 1) vs vo from ⟨HX3.out.1.same hs, It.trans HX3.out.2 hs.it⟩)
    clear hs c5 f5
    obtain ⟨_, _, _, _, c5, _, _⟩ := HA4.out.1.cells
    have f5 := HA4.out.1.free 5
    have hq4 := HQ4.out
    obtain ⟨k4, hk4⟩ : ∃ k, D6.peek s lim (q3 + 1) = k := ⟨_, rfl⟩
    rw [hk4] at hq4 ⊢
    have g4 : ((k4 : Int) == 43) = true ∧ q4 = q3 + 2 ∨ ((k4 : Int) == 43) = false ∧ ((k4 : Int) == 45) = true ∧ q4 = q3 + 2 ∨ ((k4 : Int) == 43) = false ∧ ((k4 : Int) == 45) = false ∧ q4 = q3 + 1 := by
      by_cases e1 : k4 = 43
      · subst e1; exact .inl ⟨rfl, hq4.symm⟩
      · by_cases e2 : k4 = 45
        · subst e2; exact .inr (.inl ⟨rfl, rfl, hq4.symm⟩)
        · rw [if_neg (by simp [e1, e2])] at hq4
          exact .inr (.inr ⟨by simp; omega, by simp; omega, hq4.symm⟩)
    clear hk4 hq4
    rcases g4 with ⟨g4, e4⟩ | ⟨g4, g4', e4⟩ | ⟨g4, g4', e4⟩
    · have H4 := Px.hid (show JAt w (wp4.setCell ⟨b, 5, none⟩ (.int .i64 ((q3 + 1 + 1 : Nat)))) b s lim q4 vs vo from by rw [e4]; exact HA4.out.1.go HA4.out.2 (q3 + 1 + 1))
      clear e4
      go_wp2_with fail
      refine (jdigits_no HC.out hq4s.2 H4.out.1 HD.out).mono ?_
      rintro r wd ⟨rfl, hf⟩
      have HS := Px.hid (It.trans H4.out.2 hf)
      clear hf
      unfold jpanics
      go_wp2
      exact ⟨rfl, JStep.bad rfl HS.out⟩
    · have H4 := Px.hid (show JAt w (wp4.setCell ⟨b, 5, none⟩ (.int .i64 ((q3 + 1 + 1 : Nat)))) b s lim q4 vs vo from by rw [e4]; exact HA4.out.1.go HA4.out.2 (q3 + 1 + 1))
      clear e4
      go_wp2_with fail
      refine (jdigits_no HC.out hq4s.2 H4.out.1 HD.out).mono ?_
      rintro r wd ⟨rfl, hf⟩
      have HS := Px.hid (It.trans H4.out.2 hf)
      clear hf
      unfold jpanics
      go_wp2
      exact ⟨rfl, JStep.bad rfl HS.out⟩
    · have H4 := Px.hid (show JAt w wp4 b s lim q4 vs vo from by rw [e4]; exact HA4.out)
      clear e4
      go_wp2_with fail
      refine (jdigits_no HC.out hq4s.2 H4.out.1 HD.out).mono ?_
      rintro r wd ⟨rfl, hf⟩
      have HS := Px.hid (It.trans H4.out.2 hf)
      clear hf
      unfold jpanics
      go_wp2
      exact ⟨rfl, JStep.bad rfl HS.out⟩
  · go_wp2_with fail
    refine (jpeek_any b (q3 + 1) s lim vs vo _ HX3.out.1).mono ?_
    rintro r wp4 ⟨rfl, hs⟩
    have HA4 := Px.hid (show JAt w wp4 b s lim (q3 + 1) vs vo from ⟨HX3.out.1.same hs, It.trans HX3.out.2 hs.it⟩)
    clear hs c5 f5
    obtain ⟨_, _, _, _, c5, _, _⟩ := HA4.out.1.cells
    have f5 := HA4.out.1.free 5
    have hq4 := HQ4.out
    obtain ⟨k4, hk4⟩ : ∃ k, D6.peek s lim (q3 + 1) = k := ⟨_, rfl⟩
    rw [hk4] at hq4 ⊢
    have g4 : ((k4 : Int) == 43) = true ∧ q4 = q3 + 2 ∨ ((k4 : Int) == 43) = false ∧ ((k4 : Int) == 45) = true ∧ q4 = q3 + 2 ∨ ((k4 : Int) == 43) = false ∧ ((k4 : Int) == 45) = false ∧ q4 = q3 + 1 := by
      by_cases e1 : k4 = 43
      · subst e1; exact .inl ⟨rfl, hq4.symm⟩
      · by_cases e2 : k4 = 45
        · subst e2; exact .inr (.inl ⟨rfl, rfl, hq4.symm⟩)
        · rw [if_neg (by simp [e1, e2])] at hq4
          exact .inr (.inr ⟨by simp; omega, by simp; omega, hq4.symm⟩)
    clear hk4 hq4
    rcases g4 with ⟨g4, e4⟩ | ⟨g4, g4', e4⟩ | ⟨g4, g4', e4⟩
    · have H4 := Px.hid (show JAt w (wp4.setCell ⟨b, 5, none⟩ (.int .i64 ((q3 + 1 + 1 : Nat)))) b s lim q4 vs vo from by rw [e4]; exact HA4.out.1.go HA4.out.2 (q3 + 1 + 1))
      clear e4
      go_wp2_with fail
      refine (jdigits_no HC.out hq4s.2 H4.out.1 HD.out).mono ?_
      rintro r wd ⟨rfl, hf⟩
      have HS := Px.hid (It.trans H4.out.2 hf)
      clear hf
      unfold jpanics
      go_wp2
      exact ⟨rfl, JStep.bad rfl HS.out⟩
    · have H4 := Px.hid (show JAt w (wp4.setCell ⟨b, 5, none⟩ (.int .i64 ((q3 + 1 + 1 : Nat)))) b s lim q4 vs vo from by rw [e4]; exact HA4.out.1.go HA4.out.2 (q3 + 1 + 1))
      clear e4
      go_wp2_with fail
      refine (jdigits_no HC.out hq4s.2 H4.out.1 HD.out).mono ?_
      rintro r wd ⟨rfl, hf⟩
      have HS := Px.hid (It.trans H4.out.2 hf)
      clear hf
      unfold jpanics
      go_wp2
      exact ⟨rfl, JStep.bad rfl HS.out⟩
    · have H4 := Px.hid (show JAt w wp4 b s lim q4 vs vo from by rw [e4]; exact HA4.out)
      clear e4
      go_wp2_with fail
      refine (jdigits_no HC.out hq4s.2 H4.out.1 HD.out).mono ?_
      rintro r wd ⟨rfl, hf⟩
      have HS := Px.hid (It.trans H4.out.2 hf)
      clear hf
      unfold jpanics
      go_wp2
      exact ⟨rfl, JStep.bad rfl HS.out⟩

set_option maxRecDepth 100000 in
set_option maxHeartbeats 4000000 in
theorem jnum_e (b p : Nat) (s : Bytes) (lim : Lim) (vs vo : Value) (hc : Cj s lim) (hp : p ≤ min s.length lim.b.toNat) (w : World) (h : Jr w b s lim p vs vo) (q1 q2 : Nat) (hq1 : (if D6.peek s lim p == 45 then p + 1 else p) = q1) (hA : (if D6.peek s lim q1 == 48 then .ok (q1 + 1) else D6.digits s lim q1) = Except.ok q2) (q3 : Nat) (hB : (if D6.peek s lim q2 == 46 then D6.digits s lim (q2 + 1) else .ok q2) = Except.ok q3) (he : D6.peek s lim q3 = 101 ∨ D6.peek s lim q3 = 69) (q4 : Nat) (hq4 : (if D6.peek s lim (q3 + 1) == 43 || D6.peek s lim (q3 + 1) == 45 then q3 + 2 else q3 + 1) = q4) (q5 : Nat) (hd : D6.digits s lim q4 = .ok q5) :
    Calls Tryd.prog 47 #[.pointer (some ⟨b, 0, none⟩)] w (JStep w b s lim vs vo (.ok q5) (partV s p)) := by
  have hlen := hc.len
  have hl0 := peek_lt (s := s) (lim := lim) (p := p)
  have hq1s : p ≤ q1 ∧ q1 ≤ min s.length lim.b.toNat := by
    rw [← hq1]
    by_cases e : D6.peek s lim p = 45
    · rw [if_pos (by simpa using e)]; have := hl0 (by omega); omega
    · rw [if_neg (by simpa using e)]; omega
  have hwp := wrap1 p (by omega)
  have hw1 := wrap1 q1 (by omega)
  have hl1 := peek_lt (s := s) (lim := lim) (p := q1)
  have hq2s : q1 ≤ q2 ∧ q2 ≤ min s.length lim.b.toNat := by
    by_cases e : D6.peek s lim q1 = 48
    · rw [if_pos (by simpa using e)] at hA; cases hA; have := hl1 (by omega); omega
    · rw [if_neg (by simpa using e)] at hA; exact digits_le hq1s.2 hA
  have hw2 := wrap1 q2 (by omega)
  have HA := Px.hid hA
  clear hA hl1
  have hl2 := peek_lt (s := s) (lim := lim) (p := q2)
  have hq3s : q2 ≤ q3 ∧ q3 ≤ min s.length lim.b.toNat := by
    by_cases e : D6.peek s lim q2 = 46
    · rw [if_pos (by simpa using e)] at hB; have := digits_le (by have := hl2 (by omega); omega) hB; omega
    · rw [if_neg (by simpa using e)] at hB; cases hB; omega
  have hw3 := wrap1 q3 (by omega)
  have HB := Px.hid (And.intro hB hl2)
  clear hB hl2
  have hl3 := peek_lt (s := s) (lim := lim) (p := q3)
  have hq3l : q3 + 1 ≤ min s.length lim.b.toNat := by have := hl3 (by omega); omega
  have hl4 := peek_lt (s := s) (lim := lim) (p := q3 + 1)
  have hq4s : q3 + 1 ≤ q4 ∧ q4 ≤ min s.length lim.b.toNat := by
    rw [← hq4]
    by_cases e : D6.peek s lim (q3 + 1) = 43 ∨ D6.peek s lim (q3 + 1) = 45
    · rw [if_pos (by simpa using e)]; have := hl4 (by omega); omega
    · rw [if_neg (by simpa using e)]; omega
  have hw4 : IntKind.i64.wrap ((q3 : Int) + 1 + 1) = (q3 : Int) + 1 + 1 := IntWalk.i64_in _ ⟨by omega, by omega⟩
  have HQ4 := Px.hid hq4
  have HEE := Px.hid he
  clear hl3 hl4 hq4 he
  have hq5s := digits_le hq4s.2 hd
  have hsl := slice_S s p q5 (by omega) (by omega)
  have HD := Px.hid hd
  clear hd
  obtain ⟨_, _, _, _, c5, _, _⟩ := h.cells
  have H0 := Px.hid (show JAt w w b s lim p vs vo from ⟨h, Fr.refl _ _⟩)
  have HC := Px.hid hc
  have HQ1 := Px.hid hq1
  clear h hc hl0 hq1 hlen
  go_enter Tryd.func47, Tryd.ntmps47
  go_wp2_with fail
  clear c5
  go_wp2_with fail
  refine (jpeek_any b p s lim vs vo _ H0.out.1).mono ?_
  rintro r wp0 ⟨rfl, hs⟩
  have HA0 := Px.hid (show JAt w wp0 b s lim p vs vo from ⟨H0.out.1.same hs, It.trans H0.out.2 hs.it⟩)
  clear hs
  obtain ⟨t0, ht0⟩ : ∃ t, ((D6.peek s lim p : Int) == 45) = t := ⟨_, rfl⟩
  have HT0 := Px.hid (show q1 = if t0 then p + 1 else p by
    rw [← HQ1.out, ← ht0]
    by_cases e : D6.peek s lim p = 45
    · rw [if_pos (by simpa using e), if_pos (by rw [e]; rfl)]
    · rw [if_neg (by simpa using e), if_neg (by rw [beq_iff_eq]; omega)])
  obtain ⟨_, _, _, _, c5, _, _⟩ := HA0.out.1.cells
  have f5 := HA0.out.1.free 5
  go_upto_if 12 with fail
  go_cut [] (fun wx => JAt w wx b s lim q1 vs vo)
  case first =>
    cases t0 with
    | true =>
      have HS := Px.hid (show JAt w (wp0.setCell ⟨b, 5, none⟩ (.int .i64 ((p + 1 : Nat)))) b s lim q1 vs vo from by rw [show q1 = p + 1 from HT0.out]; exact HA0.out.1.go HA0.out.2 (p + 1))
      go_wp2_with fail
      go_meet
      exact HS.out
    | false =>
      have HS := Px.hid (show JAt w wp0 b s lim q1 vs vo from by rw [show q1 = p from HT0.out]; exact HA0.out)
      go_wp2_with fail
      go_meet
      exact HS.out
  case rest =>
  have H1 := Px.hid hcut
  clear hcut c5 f5 ht0 HT0
  go_wp2_with fail
  refine (jpeek_any b q1 s lim vs vo _ H1.out.1).mono ?_
  rintro r wp1 ⟨rfl, hs⟩
  have HA1 := Px.hid (show JAt w wp1 b s lim q1 vs vo from ⟨H1.out.1.same hs, It.trans H1.out.2 hs.it⟩)
  clear hs
  obtain ⟨t1, ht1⟩ : ∃ t, ((D6.peek s lim q1 : Int) == 48) = t := ⟨_, rfl⟩
  have HT1 := Px.hid (show (if t1 then Except.ok (q1 + 1) else D6.digits s lim q1) = .ok q2 by
    rw [← HA.out, ← ht1]
    by_cases e : D6.peek s lim q1 = 48
    · rw [if_pos (by rw [e]; rfl), if_pos (by simpa using e)]
    · rw [if_neg (by rw [beq_iff_eq]; omega), if_neg (by simpa using e)])
  obtain ⟨_, _, _, _, c5, _, _⟩ := HA1.out.1.cells
  have f5 := HA1.out.1.free 5
  go_upto_if 22 with fail
  go_cut [] (fun wx => JAt w wx b s lim q2 vs vo)
  case first =>
    cases t1 with
    | true =>
      have HS := Px.hid (show JAt w (wp1.setCell ⟨b, 5, none⟩ (.int .i64 ((q1 + 1 : Nat)))) b s lim q2 vs vo from by
        have e : Except.ok (q1 + 1) = Except.ok (ε := D6.Flt) q2 := HT1.out
        cases e
        exact HA1.out.1.go HA1.out.2 (q1 + 1))
      go_wp2_with fail
      go_meet
      exact HS.out
    | false =>
      go_wp2_with fail
      refine (jdigits_yes HC.out hq1s.2 HA1.out.1 HT1.out).mono ?_
      rintro r wd ⟨rfl, hj, hf⟩
      have HS := Px.hid (show JAt w wd b s lim q2 vs vo from ⟨hj, It.trans HA1.out.2 hf⟩)
      clear hj hf
      go_wp2_with fail
      go_meet
      exact HS.out
  case rest =>
  have H2 := Px.hid hcut
  clear hcut c5 f5 ht1 HT1
  go_wp2_with fail
  refine (jpeek_any b q2 s lim vs vo _ H2.out.1).mono ?_
  rintro r wp2 ⟨rfl, hs⟩
  have HA2 := Px.hid (show JAt w wp2 b s lim q2 vs vo from ⟨H2.out.1.same hs, It.trans H2.out.2 hs.it⟩)
  clear hs
  obtain ⟨t2, ht2⟩ : ∃ t, ((D6.peek s lim q2 : Int) == 46) = t := ⟨_, rfl⟩
  have HT2 := Px.hid (show (if t2 then D6.digits s lim (q2 + 1) else Except.ok q2) = .ok q3 ∧ (t2 = true → q2 + 1 ≤ min s.length lim.b.toNat) by
    rw [← HB.out.1, ← ht2]
    by_cases e : D6.peek s lim q2 = 46
    · rw [if_pos (by rw [e]; rfl), if_pos (by simpa using e)]
      exact ⟨rfl, fun _ => by have := HB.out.2 (by omega); omega⟩
    · rw [if_neg (by rw [beq_iff_eq]; omega), if_neg (by simpa using e)]
      exact ⟨rfl, fun h => by rw [beq_iff_eq] at h; omega⟩)
  obtain ⟨_, _, _, _, c5, _, _⟩ := HA2.out.1.cells
  have f5 := HA2.out.1.free 5
  go_upto_if 34 with fail
  go_cut [] (fun wx => JAt w wx b s lim q3 vs vo)
  case first =>
    cases t2 with
    | true =>
      have HX := Px.hid (HA2.out.1.go HA2.out.2 (q2 + 1))
      go_wp2_with fail
      refine (jdigits_yes HC.out (HT2.out.2 (by simp)) HX.out.1 HT2.out.1).mono ?_
      rintro r wd ⟨rfl, hj, hf⟩
      have HS := Px.hid (show JAt w wd b s lim q3 vs vo from ⟨hj, It.trans HX.out.2 hf⟩)
      clear hj hf
      go_wp2_with fail
      go_meet
      exact HS.out
    | false =>
      have HS := Px.hid (show JAt w wp2 b s lim q3 vs vo from by
        have e : Except.ok q2 = Except.ok (ε := D6.Flt) q3 := HT2.out.1
        cases e
        exact HA2.out)
      go_wp2_with fail
      go_meet
      exact HS.out
  case rest =>
  have H3 := Px.hid hcut
  clear hcut c5 f5 ht2 HT2
  go_wp2_with fail
  refine (jpeek_any b q3 s lim vs vo _ H3.out.1).mono ?_
  rintro r wp3 ⟨rfl, hs⟩
  have HA3 := Px.hid (show JAt w wp3 b s lim q3 vs vo from ⟨H3.out.1.same hs, It.trans H3.out.2 hs.it⟩)
  clear hs
  have g3 : ((D6.peek s lim q3 : Int) == 101) = true ∨ (((D6.peek s lim q3 : Int) == 101) = false ∧ ((D6.peek s lim q3 : Int) == 69) = true) := by
    rcases HEE.out with e | e
    · exact .inl (by rw [e]; rfl)
    · exact .inr ⟨by rw [e]; rfl, by rw [e]; rfl⟩
  obtain ⟨_, _, _, _, c5, _, _⟩ := HA3.out.1.cells
  have f5 := HA3.out.1.free 5
  have HX3 := Px.hid (HA3.out.1.go HA3.out.2 (q3 + 1))
  obtain ⟨k3, hk3⟩ : ∃ k, D6.peek s lim q3 = k := ⟨_, rfl⟩
  rw [hk3] at g3 ⊢
  clear hk3
  rcases g3 with g3 | ⟨g3, g3'⟩
  · go_wp2_with fail
    refine (jpeek_any b (q3 + 1) s lim vs vo _ HX3.out.1).mono ?_
    rintro r wp4 ⟨rfl, hs⟩
    have HA4 := Px.hid (show JAt w wp4 b s lim (q3 + 1) vs vo from ⟨HX3.out.1.same hs, It.trans HX3.out.2 hs.it⟩)
    clear hs c5 f5
    obtain ⟨_, _, _, _, c5, _, _⟩ := HA4.out.1.cells
    have f5 := HA4.out.1.free 5
    have hq4 := HQ4.out
    obtain ⟨k4, hk4⟩ : ∃ k, D6.peek s lim (q3 + 1) = k := ⟨_, rfl⟩
    rw [hk4] at hq4 ⊢
    have g4 : ((k4 : Int) == 43) = true ∧ q4 = q3 + 2 ∨ ((k4 : Int) == 43) = false ∧ ((k4 : Int) == 45) = true ∧ q4 = q3 + 2 ∨ ((k4 : Int) == 43) = false ∧ ((k4 : Int) == 45) = false ∧ q4 = q3 + 1 := by
      by_cases e1 : k4 = 43
      · subst e1; exact .inl ⟨rfl, hq4.symm⟩
      · by_cases e2 : k4 = 45
        · subst e2; exact .inr (.inl ⟨rfl, rfl, hq4.symm⟩)
        · rw [if_neg (by simp [e1, e2])] at hq4
          exact .inr (.inr ⟨by simp; omega, by simp; omega, hq4.symm⟩)
    clear hk4 hq4
    rcases g4 with ⟨g4, e4⟩ | ⟨g4, g4', e4⟩ | ⟨g4, g4', e4⟩
    · have H4 := Px.hid (show JAt w (wp4.setCell ⟨b, 5, none⟩ (.int .i64 ((q3 + 1 + 1 : Nat)))) b s lim q4 vs vo from by rw [e4]; exact HA4.out.1.go HA4.out.2 (q3 + 1 + 1))
      clear e4
      go_wp2_with fail
      refine (jdigits_yes HC.out hq4s.2 H4.out.1 HD.out).mono ?_
      rintro r wd ⟨rfl, hj, hf⟩
      have H5 := Px.hid (show JAt w wd b s lim q5 vs vo from ⟨hj, It.trans H4.out.2 hf⟩)
      clear hj hf
      obtain ⟨c0, _, _, _, c5, _, _⟩ := H5.out.1.cells
      go_wp2_with fail
      go_quiet (fail)
      go_wp2
      go_ret
      exact JStep.good rfl rfl (H5.out.1.drewN _) (Fr.drewN H5.out.2 _)
    · have H4 := Px.hid (show JAt w (wp4.setCell ⟨b, 5, none⟩ (.int .i64 ((q3 + 1 + 1 : Nat)))) b s lim q4 vs vo from by rw [e4]; exact HA4.out.1.go HA4.out.2 (q3 + 1 + 1))
      clear e4
      go_wp2_with fail
      refine (jdigits_yes HC.out hq4s.2 H4.out.1 HD.out).mono ?_
      rintro r wd ⟨rfl, hj, hf⟩
      have H5 := Px.hid (show JAt w wd b s lim q5 vs vo from ⟨hj, It.trans H4.out.2 hf⟩)
      clear hj hf
      obtain ⟨c0, _, _, _, c5, _, _⟩ := H5.out.1.cells
      go_wp2_with fail
      go_quiet (fail)
      go_wp2
      go_ret
      exact JStep.good rfl rfl (H5.out.1.drewN _) (Fr.drewN H5.out.2 _)
    · have H4 := Px.hid (show JAt w wp4 b s lim q4 vs vo from by rw [e4]; exact HA4.out)
      clear e4
      go_wp2_with fail
      refine (jdigits_yes HC.out hq4s.2 H4.out.1 HD.out).mono ?_
      rintro r wd ⟨rfl, hj, hf⟩
      have H5 := Px.hid (show JAt w wd b s lim q5 vs vo from ⟨hj, It.trans H4.out.2 hf⟩)
      clear hj hf
      obtain ⟨c0, _, _, _, c5, _, _⟩ := H5.out.1.cells
      go_wp2_with fail
      go_quiet (fail)
      go_wp2
      go_ret
      exact JStep.good rfl rfl (H5.out.1.drewN _) (Fr.drewN H5.out.2 _)
  · go_wp2_with fail
    refine (jpeek_any b (q3 + 1) s lim vs vo _ HX3.out.1).mono ?_
    rintro r wp4 ⟨rfl, hs⟩
    have HA4 := Px.hid (show JAt w wp4 b s lim (q3 + 1) vs vo from ⟨HX3.out.1.same hs, It.trans HX3.out.2 hs.it⟩)
    clear hs c5 f5
    obtain ⟨_, _, _, _, c5, _, _⟩ := HA4.out.1.cells
    have f5 := HA4.out.1.free 5
    have hq4 := HQ4.out
    obtain ⟨k4, hk4⟩ : ∃ k, D6.peek s lim (q3 + 1) = k := ⟨_, rfl⟩
    rw [hk4] at hq4 ⊢
    have g4 : ((k4 : Int) == 43) = true ∧ q4 = q3 + 2 ∨ ((k4 : Int) == 43) = false ∧ ((k4 : Int) == 45) = true ∧ q4 = q3 + 2 ∨ ((k4 : Int) == 43) = false ∧ ((k4 : Int) == 45) = false ∧ q4 = q3 + 1 := by
      by_cases e1 : k4 = 43
      · subst e1; exact .inl ⟨rfl, hq4.symm⟩
      · by_cases e2 : k4 = 45
        · subst e2; exact .inr (.inl ⟨rfl, rfl, hq4.symm⟩)
        · rw [if_neg (by simp [e1, e2])] at hq4
          exact .inr (.inr ⟨by simp; omega, by simp; omega, hq4.symm⟩)
    clear hk4 hq4
    rcases g4 with ⟨g4, e4⟩ | ⟨g4, g4', e4⟩ | ⟨g4, g4', e4⟩
    · have H4 := Px.hid (show JAt w (wp4.setCell ⟨b, 5, none⟩ (.int .i64 ((q3 + 1 + 1 : Nat)))) b s lim q4 vs vo from by rw [e4]; exact HA4.out.1.go HA4.out.2 (q3 + 1 + 1))
      clear e4
      go_wp2_with fail
      refine (jdigits_yes HC.out hq4s.2 H4.out.1 HD.out).mono ?_
      rintro r wd ⟨rfl, hj, hf⟩
      have H5 := Px.hid (show JAt w wd b s lim q5 vs vo from ⟨hj, It.trans H4.out.2 hf⟩)
      clear hj hf
      obtain ⟨c0, _, _, _, c5, _, _⟩ := H5.out.1.cells
      go_wp2_with fail
      go_quiet (fail)
      go_wp2
      go_ret
      exact JStep.good rfl rfl (H5.out.1.drewN _) (Fr.drewN H5.out.2 _)
    · have H4 := Px.hid (show JAt w (wp4.setCell ⟨b, 5, none⟩ (.int .i64 ((q3 + 1 + 1 : Nat)))) b s lim q4 vs vo from by rw [e4]; exact HA4.out.1.go HA4.out.2 (q3 + 1 + 1))
      clear e4
      go_wp2_with fail
      refine (jdigits_yes HC.out hq4s.2 H4.out.1 HD.out).mono ?_
      rintro r wd ⟨rfl, hj, hf⟩
      have H5 := Px.hid (show JAt w wd b s lim q5 vs vo from ⟨hj, It.trans H4.out.2 hf⟩)
      clear hj hf
      obtain ⟨c0, _, _, _, c5, _, _⟩ := H5.out.1.cells
      go_wp2_with fail
      go_quiet (fail)
      go_wp2
      go_ret
      exact JStep.good rfl rfl (H5.out.1.drewN _) (Fr.drewN H5.out.2 _)
    · have H4 := Px.hid (show JAt w wp4 b s lim q4 vs vo from by rw [e4]; exact HA4.out)
      clear e4
      go_wp2_with fail
      refine (jdigits_yes HC.out hq4s.2 H4.out.1 HD.out).mono ?_
      rintro r wd ⟨rfl, hj, hf⟩
      have H5 := Px.hid (show JAt w wd b s lim q5 vs vo from ⟨hj, It.trans H4.out.2 hf⟩)
      clear hj hf
      obtain ⟨c0, _, _, _, c5, _, _⟩ := H5.out.1.cells
      go_wp2_with fail
      go_quiet (fail)
      go_wp2
      go_ret
      exact JStep.good rfl rfl (H5.out.1.drewN _) (Fr.drewN H5.out.2 _)

set_option maxRecDepth 100000 in
set_option maxHeartbeats 4000000 in
theorem jnum_n (b p : Nat) (s : Bytes) (lim : Lim) (vs vo : Value) (hc : Cj s lim) (hp : p ≤ min s.length lim.b.toNat) (w : World) (h : Jr w b s lim p vs vo) (q1 q2 : Nat) (hq1 : (if D6.peek s lim p == 45 then p + 1 else p) = q1) (hA : (if D6.peek s lim q1 == 48 then .ok (q1 + 1) else D6.digits s lim q1) = Except.ok q2) (q3 : Nat) (hB : (if D6.peek s lim q2 == 46 then D6.digits s lim (q2 + 1) else .ok q2) = Except.ok q3) (he : ¬ (D6.peek s lim q3 = 101 ∨ D6.peek s lim q3 = 69)) :
    Calls Tryd.prog 47 #[.pointer (some ⟨b, 0, none⟩)] w (JStep w b s lim vs vo (.ok q3) (partV s p)) := by
  have hlen := hc.len
  have hl0 := peek_lt (s := s) (lim := lim) (p := p)
  have hq1s : p ≤ q1 ∧ q1 ≤ min s.length lim.b.toNat := by
    rw [← hq1]
    by_cases e : D6.peek s lim p = 45
    · rw [if_pos (by simpa using e)]; have := hl0 (by omega); omega
    · rw [if_neg (by simpa using e)]; omega
  have hwp := wrap1 p (by omega)
  have hw1 := wrap1 q1 (by omega)
  have hl1 := peek_lt (s := s) (lim := lim) (p := q1)
  have hq2s : q1 ≤ q2 ∧ q2 ≤ min s.length lim.b.toNat := by
    by_cases e : D6.peek s lim q1 = 48
    · rw [if_pos (by simpa using e)] at hA; cases hA; have := hl1 (by omega); omega
    · rw [if_neg (by simpa using e)] at hA; exact digits_le hq1s.2 hA
  have hw2 := wrap1 q2 (by omega)
  have HA := Px.hid hA
  clear hA hl1
  have hl2 := peek_lt (s := s) (lim := lim) (p := q2)
  have hq3s : q2 ≤ q3 ∧ q3 ≤ min s.length lim.b.toNat := by
    by_cases e : D6.peek s lim q2 = 46
    · rw [if_pos (by simpa using e)] at hB; have := digits_le (by have := hl2 (by omega); omega) hB; omega
    · rw [if_neg (by simpa using e)] at hB; cases hB; omega
  have hw3 := wrap1 q3 (by omega)
  have HB := Px.hid (And.intro hB hl2)
  clear hB hl2
  have hsl := slice_S s p q3 (by omega) (by omega)
  have n1 : ((D6.peek s lim q3 : Int) == 101) = false := by rw [beq_eq_false_iff_ne]; omega
  have n2 : ((D6.peek s lim q3 : Int) == 69) = false := by rw [beq_eq_false_iff_ne]; omega
  clear he
  obtain ⟨_, _, _, _, c5, _, _⟩ := h.cells
  have H0 := Px.hid (show JAt w w b s lim p vs vo from ⟨h, Fr.refl _ _⟩)
  have HC := Px.hid hc
  have HQ1 := Px.hid hq1
  clear h hc hl0 hq1 hlen
  go_enter Tryd.func47, Tryd.ntmps47
  go_wp2_with fail
  clear c5
  go_wp2_with fail
  refine (jpeek_any b p s lim vs vo _ H0.out.1).mono ?_
  rintro r wp0 ⟨rfl, hs⟩
  have HA0 := Px.hid (show JAt w wp0 b s lim p vs vo from ⟨H0.out.1.same hs, It.trans H0.out.2 hs.it⟩)
  clear hs
  obtain ⟨t0, ht0⟩ : ∃ t, ((D6.peek s lim p : Int) == 45) = t := ⟨_, rfl⟩
  have HT0 := Px.hid (show q1 = if t0 then p + 1 else p by
    rw [← HQ1.out, ← ht0]
    by_cases e : D6.peek s lim p = 45
    · rw [if_pos (by simpa using e), if_pos (by rw [e]; rfl)]
    · rw [if_neg (by simpa using e), if_neg (by rw [beq_iff_eq]; omega)])
  obtain ⟨_, _, _, _, c5, _, _⟩ := HA0.out.1.cells
  have f5 := HA0.out.1.free 5
  go_upto_if 12 with fail
  go_cut [] (fun wx => JAt w wx b s lim q1 vs vo)
  case first =>
    cases t0 with
    | true =>
      have HS := Px.hid (show JAt w (wp0.setCell ⟨b, 5, none⟩ (.int .i64 ((p + 1 : Nat)))) b s lim q1 vs vo from by rw [show q1 = p + 1 from HT0.out]; exact HA0.out.1.go HA0.out.2 (p + 1))
      go_wp2_with fail
      go_meet
      exact HS.out
    | false =>
      have HS := Px.hid (show JAt w wp0 b s lim q1 vs vo from by rw [show q1 = p from HT0.out]; exact HA0.out)
      go_wp2_with fail
      go_meet
      exact HS.out
  case rest =>
  have H1 := Px.hid hcut
  clear hcut c5 f5 ht0 HT0
  go_wp2_with fail
  refine (jpeek_any b q1 s lim vs vo _ H1.out.1).mono ?_
  rintro r wp1 ⟨rfl, hs⟩
  have HA1 := Px.hid (show JAt w wp1 b s lim q1 vs vo from ⟨H1.out.1.same hs, It.trans H1.out.2 hs.it⟩)
  clear hs
  obtain ⟨t1, ht1⟩ : ∃ t, ((D6.peek s lim q1 : Int) == 48) = t := ⟨_, rfl⟩
  have HT1 := Px.hid (show (if t1 then Except.ok (q1 + 1) else D6.digits s lim q1) = .ok q2 by
    rw [← HA.out, ← ht1]
    by_cases e : D6.peek s lim q1 = 48
    · rw [if_pos (by rw [e]; rfl), if_pos (by simpa using e)]
    · rw [if_neg (by rw [beq_iff_eq]; omega), if_neg (by simpa using e)])
  obtain ⟨_, _, _, _, c5, _, _⟩ := HA1.out.1.cells
  have f5 := HA1.out.1.free 5
  go_upto_if 22 with fail
  go_cut [] (fun wx => JAt w wx b s lim q2 vs vo)
  case first =>
    cases t1 with
    | true =>
      have HS := Px.hid (show JAt w (wp1.setCell ⟨b, 5, none⟩ (.int .i64 ((q1 + 1 : Nat)))) b s lim q2 vs vo from by
        have e : Except.ok (q1 + 1) = Except.ok (ε := D6.Flt) q2 := HT1.out
        cases e
        exact HA1.out.1.go HA1.out.2 (q1 + 1))
      go_wp2_with fail
      go_meet
      exact HS.out
    | false =>
      go_wp2_with fail
      refine (jdigits_yes HC.out hq1s.2 HA1.out.1 HT1.out).mono ?_
      rintro r wd ⟨rfl, hj, hf⟩
      have HS := Px.hid (show JAt w wd b s lim q2 vs vo from ⟨hj, It.trans HA1.out.2 hf⟩)
      clear hj hf
      go_wp2_with fail
      go_meet
      exact HS.out
  case rest =>
  have H2 := Px.hid hcut
  clear hcut c5 f5 ht1 HT1
  go_wp2_with fail
  refine (jpeek_any b q2 s lim vs vo _ H2.out.1).mono ?_
  rintro r wp2 ⟨rfl, hs⟩
  have HA2 := Px.hid (show JAt w wp2 b s lim q2 vs vo from ⟨H2.out.1.same hs, It.trans H2.out.2 hs.it⟩)
  clear hs
  obtain ⟨t2, ht2⟩ : ∃ t, ((D6.peek s lim q2 : Int) == 46) = t := ⟨_, rfl⟩
  have HT2 := Px.hid (show (if t2 then D6.digits s lim (q2 + 1) else Except.ok q2) = .ok q3 ∧ (t2 = true → q2 + 1 ≤ min s.length lim.b.toNat) by
    rw [← HB.out.1, ← ht2]
    by_cases e : D6.peek s lim q2 = 46
    · rw [if_pos (by rw [e]; rfl), if_pos (by simpa using e)]
      exact ⟨rfl, fun _ => by have := HB.out.2 (by omega); omega⟩
    · rw [if_neg (by rw [beq_iff_eq]; omega), if_neg (by simpa using e)]
      exact ⟨rfl, fun h => by rw [beq_iff_eq] at h; omega⟩)
  obtain ⟨_, _, _, _, c5, _, _⟩ := HA2.out.1.cells
  have f5 := HA2.out.1.free 5
  go_upto_if 34 with fail
  go_cut [] (fun wx => JAt w wx b s lim q3 vs vo)
  case first =>
    cases t2 with
    | true =>
      have HX := Px.hid (HA2.out.1.go HA2.out.2 (q2 + 1))
      go_wp2_with fail
      refine (jdigits_yes HC.out (HT2.out.2 (by simp)) HX.out.1 HT2.out.1).mono ?_
      rintro r wd ⟨rfl, hj, hf⟩
      have HS := Px.hid (show JAt w wd b s lim q3 vs vo from ⟨hj, It.trans HX.out.2 hf⟩)
      clear hj hf
      go_wp2_with fail
      go_meet
      exact HS.out
    | false =>
      have HS := Px.hid (show JAt w wp2 b s lim q3 vs vo from by
        have e : Except.ok q2 = Except.ok (ε := D6.Flt) q3 := HT2.out.1
        cases e
        exact HA2.out)
      go_wp2_with fail
      go_meet
      exact HS.out
  case rest =>
  have H3 := Px.hid hcut
  clear hcut c5 f5 ht2 HT2
  go_wp2_with fail
  refine (jpeek_any b q3 s lim vs vo _ H3.out.1).mono ?_
  rintro r wp3 ⟨rfl, hs⟩
  have HA3 := Px.hid (show JAt w wp3 b s lim q3 vs vo from ⟨H3.out.1.same hs, It.trans H3.out.2 hs.it⟩)
  clear hs
  obtain ⟨c0, _, _, _, c5, _, _⟩ := HA3.out.1.cells
  go_wp2_with fail
  go_quiet (fail)
  go_wp2
  go_ret
  exact JStep.good rfl rfl (HA3.out.1.drewN _) (Fr.drewN HA3.out.2 _)
theorem jnum_any (b p : Nat) (s : Bytes) (lim : Lim) (vs vo : Value) (hc : Cj s lim) (hp : p ≤ min s.length lim.b.toNat) (w : World) (h : Jr w b s lim p vs vo) :
    Calls Tryd.prog 47 #[.pointer (some ⟨b, 0, none⟩)] w (JStep w b s lim vs vo (D6.number s lim p) (partV s p)) := by
  obtain ⟨q1, hq1⟩ : ∃ q, (if D6.peek s lim p == 45 then p + 1 else p) = q := ⟨_, rfl⟩
  have hA : D6.numA s lim p = if D6.peek s lim q1 == 48 then .ok (q1 + 1) else D6.digits s lim q1 := by rw [← hq1]; rfl
  unfold D6.number
  rw [hA]
  cases ha : (if D6.peek s lim q1 == 48 then Except.ok (q1 + 1) else D6.digits s lim q1) with
  | error e =>
    by_cases e1 : D6.peek s lim q1 = 48
    · rw [if_pos (by simpa using e1)] at ha; cases ha
    · rw [if_neg (by simpa using e1)] at ha
      exact jnum_a b p s lim vs vo hc hp w h q1 hq1 e1 e ha
  | ok q2 =>
    simp only
    unfold D6.numB
    cases hb : (if D6.peek s lim q2 == 46 then D6.digits s lim (q2 + 1) else Except.ok q2) with
    | error e =>
      by_cases e1 : D6.peek s lim q2 = 46
      · rw [if_pos (by simpa using e1)] at hb
        exact jnum_b b p s lim vs vo hc hp w h q1 q2 hq1 ha e1 e hb
      · rw [if_neg (by simpa using e1)] at hb; cases hb
    | ok q3 =>
      simp only
      unfold D6.numC
      by_cases he : D6.peek s lim q3 = 101 ∨ D6.peek s lim q3 = 69
      · rw [if_pos (by simpa using he)]
        obtain ⟨q4, hq4⟩ : ∃ q, (if D6.peek s lim (q3 + 1) == 43 || D6.peek s lim (q3 + 1) == 45 then q3 + 2 else q3 + 1) = q := ⟨_, rfl⟩
        rw [hq4]
        cases hd : D6.digits s lim q4 with
        | error e => exact jnum_c b p s lim vs vo hc hp w h q1 q2 hq1 ha q3 hb he q4 hq4 e hd
        | ok q5 => exact jnum_e b p s lim vs vo hc hp w h q1 q2 hq1 ha q3 hb he q4 hq4 q5 hd
      · rw [if_neg (by simpa using he)]
        exact jnum_n b p s lim vs vo hc hp w h q1 q2 hq1 ha q3 hb he
end Go.Proofs.YtahojodgmjmpnaaDoor

/-! How the reference's reader of layer 16 goes on in memory: its list, cells of a value, frames; the contracts of value, array, object. -/
namespace Go.Proofs.YtahojodgmjmpnaaDoor
open Go.RowKit Go.Px

theorem grown_cell1 {w w1 : World} {o : Obj} {row : Option Nat} (hg : (w.alloc o).grownBy w1 row) {a : Addr} {v : Value} (hc : w.cell? a = some v) (hne : row ≠ some a.block) : w1.cell? a = some v :=
  hg.cell (show (w.alloc o).cell? a = some v from cell_alloc hc) (Ne.symm hne)
theorem grown_free1 {w w1 : World} {o : Obj} {row : Option Nat} (hg : (w.alloc o).grownBy w1 row) {a : Addr} {v : Value} (hc : w.cell? a = some v) (hf : w.frozen? a = false) (hne : row ≠ some a.block) : w1.frozen? a = false :=
  (World.frozen?_of_block (hg.block a.block (by have := World.block_lt_of_cell? w a hc; simp; omega) (Ne.symm hne))).trans ((frozen_alloc_some (w := w) (o := o) (by simp [hc])).trans hf)
def foot6 (b : Nat) (vo : Value) (k : Nat) : Prop := k = b ∨ vo.ownBlock = some k
/-- What a call of the reader leaves. -/
structure Run6 (w : World) (b : Nat) (s : Bytes) (lim : Lim) (vo : Value) (y : R6.St) (w' : World) (vo' : Value) : Prop where
  x : X6 w' b s lim y vo'
  fr : Fr (foot6 b vo) w w'
  fresh : Fresh w (foot6 b vo) (foot6 b vo')
def Did6 (w : World) (b : Nat) (s : Bytes) (lim : Lim) (vo : Value) (y : R6.St) (w' : World) : Prop := ∃ vo', Run6 w b s lim vo y w' vo'
section
variable {w w' w1 w2 : World} {b : Nat} {s : Bytes} {lim : Lim} {x y z : R6.St} {vo vo' vo1 : Value}
theorem It.foot6 (hf : Fr (It b) w w') : Fr (foot6 b vo) w w' := hf.mono fun _ e => .inl e
theorem Run6.refl (h : X6 w b s lim x vo) : Run6 w b s lim vo x w vo := ⟨h, Fr.refl _ _, Fresh.refl _ _⟩
theorem Run6.it (h : Run6 w b s lim vo y w1 vo1) (hx : X6 w2 b s lim z vo1) (hf : Fr (It b) w1 w2) : Run6 w b s lim vo z w2 vo1 := ⟨hx, h.fr.step h.fresh (It.foot6 hf), h.fresh⟩
theorem Run6.drewN (h : Run6 w b s lim vo y w1 vo1) (n : Nat) : Run6 w b s lim vo y (w1.drewN n) vo1 := ⟨h.x.drewN n, h.fr.drewN n, h.fresh⟩
theorem Run6.trans (h : Run6 w b s lim vo y w1 vo1) (k : Run6 w1 b s lim vo1 z w2 vo') : Run6 w b s lim vo z w2 vo' := ⟨k.x, h.fr.step h.fresh k.fr, Fresh.trans h.fresh h.fr.size k.fresh⟩
theorem Run6.andThen (h : Run6 w b s lim vo y w1 vo1) (k : Did6 w1 b s lim vo1 z w2) : Did6 w b s lim vo z w2 := by
  obtain ⟨v, k⟩ := k
  exact ⟨v, h.trans k⟩
theorem X6.footLt (h : X6 w b s lim x vo) : ∀ k, foot6 b vo k → k < w.heap.size := by
  rintro k (rfl | hk)
  · exact h.rd.lt
  · exact h.out.lt hk
/-- A cell of a value of the list is written. -/
theorem X6.setVal {j g n cap : Nat} {a a' : Val} (h : X6 w b s lim x (.slice (some ⟨g, 0, none⟩) n cap)) (hj : x.out[j]? = some a) (i : Nat) (hi : i < 3) (u : Value) (he : cVal a' = (cVal a).set i u) :
    Run6 w b s lim (.slice (some ⟨g, 0, none⟩) n cap) { x with out := x.out.set j a' } (w.setCell ⟨g, j * 3 + i, none⟩ u) (.slice (some ⟨g, 0, none⟩) n cap) := by
  refine ⟨⟨⟨?_⟩, owns_setAt cVal_len h.out hj i hi u he, h.ob⟩, (Fr.refl (foot6 b (.slice (some ⟨g, 0, none⟩) n cap)) w).setCell (p := ⟨g, j * 3 + i, none⟩) (.inl (.inr rfl)) u, Fresh.refl _ _⟩
  rw [heap_setCell_other _ _ _ _ (fun e => h.ob g rfl (by rw [e]))]
  exact h.rd.blk
/-- A value of the list, as cells. -/
theorem X6.val (h : X6 w b s lim x vo) {j : Nat} {a : Val} (hj : x.out[j]? = some a) :
    ∃ g cap, vo = .slice (some ⟨g, 0, none⟩) x.out.length cap ∧ x.out.length ≤ cap ∧ cap ≤ maxLen ∧ w.cell? ⟨g, j * 3, none⟩ = some (.int .i64 a.kind) ∧ w.cell? ⟨g, j * 3 + 1, none⟩ = some (.int .i64 a.kids) ∧ w.cell? ⟨g, j * 3 + 2, none⟩ = some (S a.text) ∧ (∀ i, w.frozen? ⟨g, i, none⟩ = false) := by
  obtain ⟨g, cap, h1, h2, h3, h4, h5⟩ := h.out.at cVal_len hj
  exact ⟨g, cap, h1, h2, h3, h4 0 _ rfl, h4 1 _ rfl, h4 2 _ rfl, h5⟩
end
end Go.Proofs.YtahojodgmjmpnaaDoor

/-! The walks over the program's reader of package json: sign, text. -/
namespace Go.Proofs.YtahojodgmjmpnaaDoor
open Go.RowKit Go.Px

/-- The reader and the text that is read, side by side. -/
structure JTxt (w0 w : World) (b : Nat) (s : Bytes) (lim : Lim) (q : Nat) (vs vo v : Value) (out : Bytes) : Prop where
  j : Jr w b s lim q vs vo
  fr : Fr (It b) w0 w
  row : w.ownsRow w0.heap.size 5 1 v out.length (out.flatMap cByte)
  nb : b < w0.heap.size
section
variable {w0 w w' : World} {b : Nat} {s : Bytes} {lim : Lim} {p q : Nat} {vs vo v v' : Value} {out out' : Bytes}
theorem JTxt.step (h : JTxt w0 w b s lim p vs vo v out) (hj : Jr w' b s lim q vs vo) (hf : Fr (It b) w w') : JTxt w0 w' b s lim q vs vo v out :=
  ⟨hj, It.trans h.fr hf, row_keep h.row fun k hk => hf.block k (World.ownsRow.lt h.row k hk).2 (fun e => by
    have h1 := (World.ownsRow.lt h.row k hk).1
    have h2 := h.nb
    have e : k = b := e
    omega), h.nb⟩
theorem JTxt.move (h : JTxt w0 w b s lim p vs vo v out) (q : Nat) : JTxt w0 (w.setCell ⟨b, 5, none⟩ (.int .i64 (q : Nat))) b s lim q vs vo v out := h.step (h.j.move q) (It.set _)
theorem JTxt.grow (h : JTxt w0 w b s lim p vs vo v out) (hr : w'.ownsRow w0.heap.size 5 1 v' out'.length (out'.flatMap cByte)) (hg : w.grownBy w' v.ownBlock) : JTxt w0 w' b s lim p vs vo v' out' := by
  have hne : ∀ k, k < w0.heap.size → v.ownBlock ≠ some k := fun k hk e => by have := (World.ownsRow.lt h.row k e).1; omega
  refine ⟨h.j.keep (hg.block b h.j.lt (fun e => hne b h.nb e.symm)), ?_, hr, h.nb⟩
  have hf : Fr (fun k => v.ownBlock = some k) w w' := (Fr.refl _ w).grown hg (fun k e => .inl e)
  exact h.fr.trans hf (fun k hk e => (hne k hk e).elim)
end
theorem jesc_no' {b p : Nat} {s : Bytes} {lim : Lim} {vs vo : Value} {w : World} {e : D6.Flt} (hc : Cj s lim) (h : Jr w b s lim p vs vo) (he : D6.escape s lim p = .error e) :
    Calls Tryd.prog 61 #[.pointer (some ⟨b, 0, none⟩)] w fun r w' => r = jpanics e ∧ Fr (It b) w w' := by
  have := jesc_any b p s lim vs vo hc w h
  rw [he] at this
  exact this
/-- A new slice of bytes that is not empty. -/
def NewB (w w' : World) (v : Value) (l : Bytes) : Prop := ∃ g cap, v = .slice (some ⟨g, 0, none⟩) l.length cap ∧ w.heap.size ≤ g ∧ w'.ownsRow 0 5 1 v l.length (l.flatMap cByte) ∧ 0 < l.length ∧ l.length ≤ 4
theorem newB {w w' : World} {v : Value} {l : Bytes} (ho : Owns w' 5 1 cByte v l) (hn : ∀ k, v.ownBlock = some k → w.heap.size ≤ k) (h0 : 0 < l.length) (h4 : l.length ≤ 4) : NewB w w' v l := by
  obtain ⟨g, cap, hv, _⟩ := ho.at cByte_len (j := 0) (a := l[0]) (by simp [h0])
  exact ⟨g, cap, hv, hn g (by rw [hv]; rfl), ho, h0, h4⟩
theorem jesc_yes' {b p q : Nat} {s l : Bytes} {lim : Lim} {vs vo : Value} {w : World} (hc : Cj s lim) (h : Jr w b s lim p vs vo) (he : D6.escape s lim p = .ok (l, q)) :
    Calls Tryd.prog 61 #[.pointer (some ⟨b, 0, none⟩)] w fun r w' => ∃ v, r = .returned v ∧ NewB w w' v l ∧ Jr w' b s lim q vs vo ∧ Fr (It b) w w' := by
  have := jesc_any b p s lim vs vo hc w h
  rw [he] at this
  refine this.mono ?_
  rintro r w' ⟨v, h1, h2, h3, h4, h5, h6, h7⟩
  exact ⟨v, h1, newB h2 h3 h4 h5, h6, h7⟩
theorem newB_cells {w' : World} {g cap : Nat} {l : Bytes} (h : w'.ownsRow 0 5 1 (.slice (some ⟨g, 0, none⟩) l.length cap) l.length (l.flatMap cByte)) : ∀ j u, (l.flatMap cByte)[j]? = some u → w'.cell? ((⟨g, 0, none⟩ : Addr).add j) = some u := h.cells (g := g) rfl
theorem one_cells (l : Bytes) : ∀ u ∈ l.flatMap cByte, u.oneCell' = true := by
  intro u hu
  obtain ⟨c, _, hc⟩ := List.mem_flatMap.1 hu
  rw [show u = .int .u8 c.toNat from by simpa [cByte] using hc]
  rfl
theorem jsignN_succ (s : Bytes) (lim : Lim) (m p l h : Nat) : D6.signN s lim (m + 1) p l h = match D6.want s lim p with
  | .error e => .error e
  | .ok c => if decide (c < l) || decide (h < c) then .error (p, 9) else D6.signN s lim m (p + 1) 128 191 := rfl
/-- What sign tells, with its bytes. -/
def signR (s : Bytes) (p : Nat) (r : Except D6.Flt Nat) : Except D6.Flt (Bytes × Nat) := match r with
  | .error e => .error e
  | .ok q => .ok ((s.take q).drop p, q)
def bnd (a : Nat) (k : Nat) (z : Nat) : Nat := if k = 0 then a else z
set_option maxRecDepth 100000 in
theorem jsgn_lo (b p c : Nat) (s : Bytes) (lim : Lim) (vs vo : Value) (w : World) (h : Jr w b s lim p vs vo) (hw : D6.want s lim p = .ok c) (hr : c < 194) :
    Calls Tryd.prog 62 #[.pointer (some ⟨b, 0, none⟩)] w (JEsc w b s lim vs vo (.error (p, 9))) := by
  have HW := Px.hid (jwant_yes b p s lim vs vo w h _ hw)
  have HJ := Px.hid h
  have y0 : decide ((194 : Int) ≤ (c : Int)) = false := by simp; omega
  have y1 : decide ((224 : Int) ≤ (c : Int)) = false := by simp; omega
  have y2 : decide ((240 : Int) ≤ (c : Int)) = false := by simp; omega
  clear hw h hr
  go_enter Tryd.func62, Tryd.ntmps62
  go_wp2_with fail
  refine HW.out.mono ?_
  rintro r w1 ⟨rfl, hs⟩
  have h1 := HJ.out.same hs
  obtain ⟨_, _, _, _, c5, _, _⟩ := h1.cells
  have HS := Px.hid hs
  clear h1 hs
  go_wp2_with fail
  refine (jwrong b _ _ _).mono ?_
  rintro r w2 ⟨rfl, rfl⟩
  unfold jpanics
  go_wp2
  exact ⟨rfl, JEsc.bad rfl HS.out.it⟩
set_option maxRecDepth 100000 in
theorem jsgn_hi (b p c : Nat) (s : Bytes) (lim : Lim) (vs vo : Value) (w : World) (h : Jr w b s lim p vs vo) (hw : D6.want s lim p = .ok c) (hr : 244 < c) :
    Calls Tryd.prog 62 #[.pointer (some ⟨b, 0, none⟩)] w (JEsc w b s lim vs vo (.error (p, 9))) := by
  have HW := Px.hid (jwant_yes b p s lim vs vo w h _ hw)
  have HJ := Px.hid h
  have y0 : (194 : Int) ≤ (c : Int) := by omega
  have y1 : decide ((c : Int) ≤ 223) = false := by simp; omega
  have y2 : (224 : Int) ≤ (c : Int) := by omega
  have y3 : decide ((c : Int) ≤ 239) = false := by simp; omega
  have y4 : (240 : Int) ≤ (c : Int) := by omega
  have y5 : decide ((c : Int) ≤ 244) = false := by simp; omega
  clear hw h hr
  go_enter Tryd.func62, Tryd.ntmps62
  go_wp2_with fail
  refine HW.out.mono ?_
  rintro r w1 ⟨rfl, hs⟩
  have h1 := HJ.out.same hs
  obtain ⟨_, _, _, _, c5, _, _⟩ := h1.cells
  have HS := Px.hid hs
  clear h1 hs
  go_wp2_with fail
  refine (jwrong b _ _ _).mono ?_
  rintro r w2 ⟨rfl, rfl⟩
  unfold jpanics
  go_wp2
  exact ⟨rfl, JEsc.bad rfl HS.out.it⟩
set_option maxRecDepth 100000 in
set_option maxHeartbeats 4000000 in
theorem jsgn_one (b p c : Nat) (s : Bytes) (lim : Lim) (vs vo : Value) (hc : Cj s lim) (w : World) (h : Jr w b s lim p vs vo) (hw : D6.want s lim p = .ok c) (hr : 194 ≤ c ∧ c ≤ 223) :
    Calls Tryd.prog 62 #[.pointer (some ⟨b, 0, none⟩)] w (JEsc w b s lim vs vo (signR s p (D6.signN s lim 1 (p + 1) 128 191))) := by
  obtain ⟨R, hR⟩ : ∃ R, R = D6.signN s lim 1 (p + 1) 128 191 := ⟨_, rfl⟩
  rw [← hR]
  have hlen := hc.len
  obtain ⟨hpl, hpb, hcc⟩ := want_lt6 hw
  have hp2 : p ≤ 140737488355327 := by omega
  have hwp := wrap1 p hp2
  have hgd : (s.take (p + 1)).drop p = [s.getD p 0] := by rw [J6.part_snoc (Nat.le_refl p) (Nat.lt_of_lt_of_le hpl (Nat.min_le_left _ _)), E5.drop_take_self, List.nil_append]
  have hcv : ((s.getD p 0).toNat : Int) = (c : Nat) := by have : (s.getD p 0).toNat = c := hcc.symm; omega
  have HW := Px.hid (jwant_yes b p s lim vs vo w h _ hw)
  have HJ := Px.hid h
  have HG := Px.hid (And.intro hgd (And.intro hcv (And.intro hpl hlen)))
  have HR := Px.hid hR
  have y0 : (194 : Int) ≤ (c : Int) := by omega
  have y1 : (c : Int) ≤ 223 := by omega
  obtain ⟨i0, hi0, hz0, hz1, hz2⟩ := info_parts Tryd.infoU8
  clear hw h hr hgd hcv hpl hlen hR hc hcc
  go_enter Tryd.func62, Tryd.ntmps62
  go_wp2_with fail
  refine HW.out.mono ?_
  rintro r w1 ⟨rfl, hs⟩
  have h1 := HJ.out.same hs
  obtain ⟨_, _, _, _, c5, _, _⟩ := h1.cells
  have f5 := h1.free 5
  have hbl := h1.lt
  have H1 := Px.hid (And.intro h1 (hs.it (b := b)))
  clear h1 hs
  go_upto_region 21 with fail
  obtain ⟨w2, hw2⟩ : ∃ w2, w2 = (w1.setCell ⟨b, 5, none⟩ (.int .i64 ((p : Int) + 1))).alloc (.cells #[.int .u8 (c : Nat)] 5 (0, 0)) := ⟨_, rfl⟩
  have HT := Px.hid (show JTxt w w2 b s lim (p + 1) vs vo (.slice (some ⟨w1.heap.size, 0, none⟩) 1 1) ((s.take (p + 1)).drop p) from by
    have h1 := H1.out.1
    have hsz := H1.out.2.size
    have hblt := HJ.out.lt
    have hm := h1.go H1.out.2 (p + 1)
    have hj : Jr w2 b s lim (p + 1) vs vo := by rw [hw2]; exact hm.1.keep (Below.heap_alloc _ _ b hm.1.lt)
    have hfr : Fr (It b) w w2 := by rw [hw2]; exact hm.2.alloc _
    have hss : (w1.setCell ⟨b, 5, none⟩ (.int .i64 ((p : Int) + 1))).heap.size = w1.heap.size := by simp
    refine ⟨hj, hfr, ?_, hblt⟩
    rw [HG.out.1]
    refine ⟨rfl, .inr ⟨w1.heap.size, 1, #[.int .u8 (c : Nat)], rfl, hsz, ?_, Nat.le_refl _, by unfold maxLen; omega, rfl, ?_⟩⟩
    · have := heap_alloc_new (w1.setCell ⟨b, 5, none⟩ (.int .i64 ((p : Int) + 1))) (.cells #[.int .u8 (c : Nat)] 5 (0, 0))
      rw [hss] at this
      rw [hw2]
      exact this
    · show [Value.int .u8 (c : Nat)] = [Value.int .u8 ((s.getD p 0).toNat : Nat)]
      rw [show (((s.getD p 0).toNat : Nat) : Int) = (c : Nat) from HG.out.2.1])
  rw [← hw2]
  clear hw2 H1 HJ HW c5 f5 hbl
  go_wp2
  go_loopw [4, 5, 7, 56] (fun a z v i wr => ∃ k, i = .int .i64 (k : Nat) ∧ k ≤ 1 ∧ a = .int .u8 (bnd 128 k 128 : Nat) ∧ z = .int .u8 (bnd 191 k 191 : Nat) ∧ Hid (JTxt w wr b s lim (p + 1 + k) vs vo v ((s.take (p + 1 + k)).drop p) ∧ R = D6.signN s lim (1 - k) (p + 1 + k) (bnd 128 k 128) (bnd 191 k 191) ∧ p + 1 + k ≤ min s.length lim.b.toNat)) (fun _ _ _ i _ => 1 - (intOf i).toNat)
  case atStart => exact ⟨0, rfl, by omega, rfl, rfl, Px.hid ⟨HT.out, HR.out, HG.out.2.2.1⟩⟩
  case round =>
    clear HT HR y0 y1
    obtain ⟨k, rfl, hk, rfl, rfl, HP⟩ := hrel
    obtain ⟨A, hA⟩ : ∃ A, bnd 128 k 128 = A := ⟨_, rfl⟩
    obtain ⟨Z, hZ⟩ : ∃ Z, bnd 191 k 191 = Z := ⟨_, rfl⟩
    rw [hA, hZ] at HP ⊢
    clear hA hZ
    by_cases hlt : k < 1
    · have hltz : (k : Int) < 1 := by omega
      obtain ⟨m, hm⟩ : ∃ m, 1 - k = m + 1 := ⟨1 - k - 1, by omega⟩
      have hps := HP.out.2.1
      rw [hm, jsignN_succ] at hps
      have hlen := HG.out.2.2.2
      have hle := HP.out.2.2
      obtain ⟨q, hq⟩ : ∃ q, p + 1 + k = q := ⟨_, rfl⟩
      have ht := HP.out.1
      rw [hq] at hps ht hle
      have HQ := Px.hid (And.intro hq hm)
      have hwq := wrap1 q (by omega)
      have HJ := Px.hid ht
      obtain ⟨W, hW⟩ : ∃ W, D6.want s lim q = W := ⟨_, rfl⟩
      rw [hW] at hps
      clear hq hm hle hlen HP
      cases W with
      | error e =>
        have HW := Px.hid (jwant_no b q s lim vs vo wr ht.j e hW)
        have HP := Px.hid (show R = .error e from hps)
        clear hps hW ht hlt
        go_wp2_with fail
        refine HW.out.mono ?_
        rintro r w3 ⟨rfl, hs⟩
        have HS := Px.hid hs
        clear hs
        unfold jpanics
        go_wp2
        exact ⟨rfl, JEsc.bad (by rw [HP.out]; rfl) (It.trans HJ.out.fr HS.out.it)⟩
      | ok z =>
        have HW := Px.hid (jwant_yes b q s lim vs vo wr ht.j z hW)
        obtain ⟨hql, _, hzc⟩ := want_lt6 hW
        have hgz : s.getD q 0 = UInt8.ofNat z := by rw [hzc]; unfold R6.at_; simp
        have hz256 : z < 256 := by rw [hzc]; exact at_lt s q
        have HZ := Px.hid (And.intro hql (And.intro hgz hz256))
        simp only at hps
        clear hW ht hzc hgz hql
        by_cases hbad : z < A ∨ Z < z
        · have HP := Px.hid (show R = .error ((q : Nat), 9) by rw [hps, if_pos (by simpa using hbad)])
          have g : z < A ∨ (decide (z < A) = false ∧ Z < z) := by
            by_cases e : z < A
            · exact .inl e
            · exact .inr ⟨decide_eq_false e, by omega⟩
          clear hps hbad hlt hz256
          rcases g with g | ⟨g, g2⟩
          all_goals
            go_wp2_with fail
            refine HW.out.mono ?_
            rintro r w3 ⟨rfl, hs⟩
            have HS := Px.hid hs
            obtain ⟨_, _, _, _, c5, _, _⟩ := (HJ.out.j.same hs).cells
            clear hs
            go_wp2_with fail
            refine (jwrong b _ _ _).mono ?_
            rintro r w4 ⟨rfl, rfl⟩
            unfold jpanics
            go_wp2
            exact ⟨rfl, JEsc.bad (by rw [HP.out]; rfl) (It.trans HJ.out.fr HS.out.it)⟩
        · have HP := Px.hid (show R = D6.signN s lim m (q + 1) 128 191 by rw [hps, if_neg (by simpa using hbad)])
          have g1 : decide (z < A) = false := by simp; omega
          have g2 : decide (Z < z) = false := by simp; omega
          have HLT := Px.hid hlt
          have hl4 : ((s.take q).drop p).length ≤ 4 := by rw [List.length_drop, List.length_take]; have := HQ.out.1; omega
          clear hps hbad hlt hz256
          obtain ⟨L, hL⟩ : ∃ L, (s.take q).drop p = L := ⟨_, rfl⟩
          rw [hL] at hl4
          have HJ2 := Px.hid (show JTxt w wr b s lim q vs vo u7 L from by rw [← hL]; exact HJ.out)
          have HL := Px.hid hL
          clear hL HJ
          go_wp2_with fail
          refine HW.out.mono ?_
          rintro r w3 ⟨rfl, hs⟩
          have H3 := Px.hid (HJ2.out.step (HJ2.out.j.same hs) hs.it)
          clear hs
          obtain ⟨va, vc, hv⟩ := row_len H3.out.row
          subst hv
          have c5 := H3.out.j.cells.2.2.2.2.1
          have f5 := H3.out.j.free 5
          have hbl := H3.out.j.lt
          have hnb : (Value.slice va L.length vc).ownBlock ≠ some b := fun e => by have := (World.ownsRow.lt H3.out.row b e).1; have := H3.out.nb; omega
          have HNB := Px.hid hnb
          clear hnb
          go_wp2_with (at_builtin; go_must (refine wpList_append_lies _ rfl _ _ _ rfl w.heap.size 5 i0 _ 1 1 Tryd.underlying62 hi0 hz0 hz1 hz2 rfl (by omega) (.slice va L.length vc) L.length (L.flatMap cByte) rfl (row_keep H3.out.row (fun k hk => Below.heap_alloc w3 _ k (World.ownsRow.lt H3.out.row k hk).2)) ⟨w3.heap.size, 0, none⟩ 1 1 [.int .u8 (z : Nat)] rfl rfl (World.news_of_block (cs := #[.int .u8 (z : Nat)]) (t := 5) (fr := (0, 0)) (heap_alloc_new w3 _)) (by simp [Value.oneCell']) (by omega) (by unfold maxLen; omega) (by omega) (by have := H3.out.fr.size; simp; omega) (w3.heap.size + 1) (by simp) ?_))
          intro gg cap w4 hown hgrow hat hltg
          have k5 := grown_cell1 hgrow c5 HNB.out
          have e5 := grown_free1 hgrow c5 f5 HNB.out
          have ht : JTxt w w4 b s lim q vs vo (.slice (some ⟨gg, 0, none⟩) (L.length + 1) cap) (L ++ [s.getD q 0]) := H3.out.grow (by
            rw [List.length_append, List.flatMap_append]
            rw [show Value.int .u8 (z : Nat) = .int .u8 ((s.getD q 0).toNat : Nat) from by rw [HZ.out.2.1]; exact (byte_cell z HZ.out.2.2).symm] at hown
            exact hown) (grown_alloc1 hgrow)
          have H4 := Px.hid (ht.move (q + 1))
          clear hown hgrow hat hltg ht c5 f5 hbl
          go_wp2
          go_roundw
          case rel =>
            refine ⟨k + 1, by go_num, HLT.out, rfl, rfl, Px.hid ?_⟩
            have hq := HQ.out.1
            have e1 : p + 1 + (k + 1) = q + 1 := by omega
            have e2 : 1 - (k + 1) = m := by have := HQ.out.2; omega
            rw [e1, e2, J6.part_snoc (by omega) (Nat.lt_of_lt_of_le HZ.out.1 (Nat.min_le_left _ _)), HL.out]
            exact ⟨H4.out, HP.out, HZ.out.1⟩
          case measure => have := HLT.out; simp [intOf]; omega
    · obtain rfl : k = 1 := by omega
      have hltz : ¬ ((1 : Nat) : Int) < 1 := by omega
      have HX := Px.hid (show R = .ok (p + 1 + 1) from HP.out.2.1)
      obtain ⟨va, vc, hv⟩ := row_len HP.out.1.row
      have HV := Px.hid hv
      clear hlt hltz hv
      go_wp2
      go_ret
      rw [HX.out]
      have hL : 0 < ((s.take (p + 1 + 1)).drop p).length ∧ ((s.take (p + 1 + 1)).drop p).length ≤ 4 := by rw [List.length_drop, List.length_take]; have := HP.out.2.2; omega
      exact ⟨_, rfl, owns0 HP.out.1.row, fun k hk => (World.ownsRow.lt HP.out.1.row k hk).1, hL.1, hL.2, HP.out.1.j, HP.out.1.fr⟩
set_option maxRecDepth 100000 in
set_option maxHeartbeats 4000000 in
theorem jsgn_e0 (b p : Nat) (s : Bytes) (lim : Lim) (vs vo : Value) (hc : Cj s lim) (w : World) (h : Jr w b s lim p vs vo) (hw : D6.want s lim p = .ok 224) :
    Calls Tryd.prog 62 #[.pointer (some ⟨b, 0, none⟩)] w (JEsc w b s lim vs vo (signR s p (D6.signN s lim 2 (p + 1) 160 191))) := by
  obtain ⟨R, hR⟩ : ∃ R, R = D6.signN s lim 2 (p + 1) 160 191 := ⟨_, rfl⟩
  rw [← hR]
  have hlen := hc.len
  obtain ⟨hpl, hpb, hcc⟩ := want_lt6 hw
  have hp2 : p ≤ 140737488355327 := by omega
  have hwp := wrap1 p hp2
  have hgd : (s.take (p + 1)).drop p = [s.getD p 0] := by rw [J6.part_snoc (Nat.le_refl p) (Nat.lt_of_lt_of_le hpl (Nat.min_le_left _ _)), E5.drop_take_self, List.nil_append]
  have hcv : ((s.getD p 0).toNat : Int) = (224 : Int) := by have : (s.getD p 0).toNat = 224 := hcc.symm; omega
  have HW := Px.hid (jwant_yes b p s lim vs vo w h _ hw)
  have HJ := Px.hid h
  have HG := Px.hid (And.intro hgd (And.intro hcv (And.intro hpl hlen)))
  have HR := Px.hid hR
  obtain ⟨i0, hi0, hz0, hz1, hz2⟩ := info_parts Tryd.infoU8
  clear hw h hgd hcv hpl hlen hR hc hcc
  go_enter Tryd.func62, Tryd.ntmps62
  go_wp2_with fail
  refine HW.out.mono ?_
  rintro r w1 ⟨rfl, hs⟩
  have h1 := HJ.out.same hs
  obtain ⟨_, _, _, _, c5, _, _⟩ := h1.cells
  have f5 := h1.free 5
  have hbl := h1.lt
  have H1 := Px.hid (And.intro h1 (hs.it (b := b)))
  clear h1 hs
  go_upto_region 21 with fail
  obtain ⟨w2, hw2⟩ : ∃ w2, w2 = (w1.setCell ⟨b, 5, none⟩ (.int .i64 ((p : Int) + 1))).alloc (.cells #[.int .u8 (224 : Int)] 5 (0, 0)) := ⟨_, rfl⟩
  have HT := Px.hid (show JTxt w w2 b s lim (p + 1) vs vo (.slice (some ⟨w1.heap.size, 0, none⟩) 1 1) ((s.take (p + 1)).drop p) from by
    have h1 := H1.out.1
    have hsz := H1.out.2.size
    have hblt := HJ.out.lt
    have hm := h1.go H1.out.2 (p + 1)
    have hj : Jr w2 b s lim (p + 1) vs vo := by rw [hw2]; exact hm.1.keep (Below.heap_alloc _ _ b hm.1.lt)
    have hfr : Fr (It b) w w2 := by rw [hw2]; exact hm.2.alloc _
    have hss : (w1.setCell ⟨b, 5, none⟩ (.int .i64 ((p : Int) + 1))).heap.size = w1.heap.size := by simp
    refine ⟨hj, hfr, ?_, hblt⟩
    rw [HG.out.1]
    refine ⟨rfl, .inr ⟨w1.heap.size, 1, #[.int .u8 (224 : Int)], rfl, hsz, ?_, Nat.le_refl _, by unfold maxLen; omega, rfl, ?_⟩⟩
    · have := heap_alloc_new (w1.setCell ⟨b, 5, none⟩ (.int .i64 ((p : Int) + 1))) (.cells #[.int .u8 (224 : Int)] 5 (0, 0))
      rw [hss] at this
      rw [hw2]
      exact this
    · show [Value.int .u8 (224 : Int)] = [Value.int .u8 ((s.getD p 0).toNat : Nat)]
      rw [show (((s.getD p 0).toNat : Nat) : Int) = (224 : Int) from HG.out.2.1])
  rw [← hw2]
  clear hw2 H1 HJ HW c5 f5 hbl
  go_wp2
  go_loopw [4, 5, 7, 56] (fun a z v i wr => ∃ k, i = .int .i64 (k : Nat) ∧ k ≤ 2 ∧ a = .int .u8 (bnd 160 k 128 : Nat) ∧ z = .int .u8 (bnd 191 k 191 : Nat) ∧ Hid (JTxt w wr b s lim (p + 1 + k) vs vo v ((s.take (p + 1 + k)).drop p) ∧ R = D6.signN s lim (2 - k) (p + 1 + k) (bnd 160 k 128) (bnd 191 k 191) ∧ p + 1 + k ≤ min s.length lim.b.toNat)) (fun _ _ _ i _ => 2 - (intOf i).toNat)
  case atStart => exact ⟨0, rfl, by omega, rfl, rfl, Px.hid ⟨HT.out, HR.out, HG.out.2.2.1⟩⟩
  case round =>
    clear HT HR
    obtain ⟨k, rfl, hk, rfl, rfl, HP⟩ := hrel
    obtain ⟨A, hA⟩ : ∃ A, bnd 160 k 128 = A := ⟨_, rfl⟩
    obtain ⟨Z, hZ⟩ : ∃ Z, bnd 191 k 191 = Z := ⟨_, rfl⟩
    rw [hA, hZ] at HP ⊢
    clear hA hZ
    by_cases hlt : k < 2
    · have hltz : (k : Int) < 2 := by omega
      obtain ⟨m, hm⟩ : ∃ m, 2 - k = m + 1 := ⟨2 - k - 1, by omega⟩
      have hps := HP.out.2.1
      rw [hm, jsignN_succ] at hps
      have hlen := HG.out.2.2.2
      have hle := HP.out.2.2
      obtain ⟨q, hq⟩ : ∃ q, p + 1 + k = q := ⟨_, rfl⟩
      have ht := HP.out.1
      rw [hq] at hps ht hle
      have HQ := Px.hid (And.intro hq hm)
      have hwq := wrap1 q (by omega)
      have HJ := Px.hid ht
      obtain ⟨W, hW⟩ : ∃ W, D6.want s lim q = W := ⟨_, rfl⟩
      rw [hW] at hps
      clear hq hm hle hlen HP
      cases W with
      | error e =>
        have HW := Px.hid (jwant_no b q s lim vs vo wr ht.j e hW)
        have HP := Px.hid (show R = .error e from hps)
        clear hps hW ht hlt
        go_wp2_with fail
        refine HW.out.mono ?_
        rintro r w3 ⟨rfl, hs⟩
        have HS := Px.hid hs
        clear hs
        unfold jpanics
        go_wp2
        exact ⟨rfl, JEsc.bad (by rw [HP.out]; rfl) (It.trans HJ.out.fr HS.out.it)⟩
      | ok z =>
        have HW := Px.hid (jwant_yes b q s lim vs vo wr ht.j z hW)
        obtain ⟨hql, _, hzc⟩ := want_lt6 hW
        have hgz : s.getD q 0 = UInt8.ofNat z := by rw [hzc]; unfold R6.at_; simp
        have hz256 : z < 256 := by rw [hzc]; exact at_lt s q
        have HZ := Px.hid (And.intro hql (And.intro hgz hz256))
        simp only at hps
        clear hW ht hzc hgz hql
        by_cases hbad : z < A ∨ Z < z
        · have HP := Px.hid (show R = .error ((q : Nat), 9) by rw [hps, if_pos (by simpa using hbad)])
          have g : z < A ∨ (decide (z < A) = false ∧ Z < z) := by
            by_cases e : z < A
            · exact .inl e
            · exact .inr ⟨decide_eq_false e, by omega⟩
          clear hps hbad hlt hz256
          rcases g with g | ⟨g, g2⟩
          all_goals
            go_wp2_with fail
            refine HW.out.mono ?_
            rintro r w3 ⟨rfl, hs⟩
            have HS := Px.hid hs
            obtain ⟨_, _, _, _, c5, _, _⟩ := (HJ.out.j.same hs).cells
            clear hs
            go_wp2_with fail
            refine (jwrong b _ _ _).mono ?_
            rintro r w4 ⟨rfl, rfl⟩
            unfold jpanics
            go_wp2
            exact ⟨rfl, JEsc.bad (by rw [HP.out]; rfl) (It.trans HJ.out.fr HS.out.it)⟩
        · have HP := Px.hid (show R = D6.signN s lim m (q + 1) 128 191 by rw [hps, if_neg (by simpa using hbad)])
          have g1 : decide (z < A) = false := by simp; omega
          have g2 : decide (Z < z) = false := by simp; omega
          have HLT := Px.hid hlt
          have hl4 : ((s.take q).drop p).length ≤ 4 := by rw [List.length_drop, List.length_take]; have := HQ.out.1; omega
          clear hps hbad hlt hz256
          obtain ⟨L, hL⟩ : ∃ L, (s.take q).drop p = L := ⟨_, rfl⟩
          rw [hL] at hl4
          have HJ2 := Px.hid (show JTxt w wr b s lim q vs vo u7 L from by rw [← hL]; exact HJ.out)
          have HL := Px.hid hL
          clear hL HJ
          go_wp2_with fail
          refine HW.out.mono ?_
          rintro r w3 ⟨rfl, hs⟩
          have H3 := Px.hid (HJ2.out.step (HJ2.out.j.same hs) hs.it)
          clear hs
          obtain ⟨va, vc, hv⟩ := row_len H3.out.row
          subst hv
          have c5 := H3.out.j.cells.2.2.2.2.1
          have f5 := H3.out.j.free 5
          have hbl := H3.out.j.lt
          have hnb : (Value.slice va L.length vc).ownBlock ≠ some b := fun e => by have := (World.ownsRow.lt H3.out.row b e).1; have := H3.out.nb; omega
          have HNB := Px.hid hnb
          clear hnb
          go_wp2_with (at_builtin; go_must (refine wpList_append_lies _ rfl _ _ _ rfl w.heap.size 5 i0 _ 1 1 Tryd.underlying62 hi0 hz0 hz1 hz2 rfl (by omega) (.slice va L.length vc) L.length (L.flatMap cByte) rfl (row_keep H3.out.row (fun k hk => Below.heap_alloc w3 _ k (World.ownsRow.lt H3.out.row k hk).2)) ⟨w3.heap.size, 0, none⟩ 1 1 [.int .u8 (z : Nat)] rfl rfl (World.news_of_block (cs := #[.int .u8 (z : Nat)]) (t := 5) (fr := (0, 0)) (heap_alloc_new w3 _)) (by simp [Value.oneCell']) (by omega) (by unfold maxLen; omega) (by omega) (by have := H3.out.fr.size; simp; omega) (w3.heap.size + 1) (by simp) ?_))
          intro gg cap w4 hown hgrow hat hltg
          have k5 := grown_cell1 hgrow c5 HNB.out
          have e5 := grown_free1 hgrow c5 f5 HNB.out
          have ht : JTxt w w4 b s lim q vs vo (.slice (some ⟨gg, 0, none⟩) (L.length + 1) cap) (L ++ [s.getD q 0]) := H3.out.grow (by
            rw [List.length_append, List.flatMap_append]
            rw [show Value.int .u8 (z : Nat) = .int .u8 ((s.getD q 0).toNat : Nat) from by rw [HZ.out.2.1]; exact (byte_cell z HZ.out.2.2).symm] at hown
            exact hown) (grown_alloc1 hgrow)
          have H4 := Px.hid (ht.move (q + 1))
          clear hown hgrow hat hltg ht c5 f5 hbl
          go_wp2
          go_roundw
          case rel =>
            refine ⟨k + 1, by go_num, HLT.out, rfl, rfl, Px.hid ?_⟩
            have hq := HQ.out.1
            have e1 : p + 1 + (k + 1) = q + 1 := by omega
            have e2 : 2 - (k + 1) = m := by have := HQ.out.2; omega
            rw [e1, e2, J6.part_snoc (by omega) (Nat.lt_of_lt_of_le HZ.out.1 (Nat.min_le_left _ _)), HL.out]
            exact ⟨H4.out, HP.out, HZ.out.1⟩
          case measure => have := HLT.out; simp [intOf]; omega
    · obtain rfl : k = 2 := by omega
      have hltz : ¬ ((2 : Nat) : Int) < 2 := by omega
      have HX := Px.hid (show R = .ok (p + 1 + 2) from HP.out.2.1)
      obtain ⟨va, vc, hv⟩ := row_len HP.out.1.row
      have HV := Px.hid hv
      clear hlt hltz hv
      go_wp2
      go_ret
      rw [HX.out]
      have hL : 0 < ((s.take (p + 1 + 2)).drop p).length ∧ ((s.take (p + 1 + 2)).drop p).length ≤ 4 := by rw [List.length_drop, List.length_take]; have := HP.out.2.2; omega
      exact ⟨_, rfl, owns0 HP.out.1.row, fun k hk => (World.ownsRow.lt HP.out.1.row k hk).1, hL.1, hL.2, HP.out.1.j, HP.out.1.fr⟩
set_option maxRecDepth 100000 in
set_option maxHeartbeats 4000000 in
theorem jsgn_ed (b p : Nat) (s : Bytes) (lim : Lim) (vs vo : Value) (hc : Cj s lim) (w : World) (h : Jr w b s lim p vs vo) (hw : D6.want s lim p = .ok 237) :
    Calls Tryd.prog 62 #[.pointer (some ⟨b, 0, none⟩)] w (JEsc w b s lim vs vo (signR s p (D6.signN s lim 2 (p + 1) 128 159))) := by
  obtain ⟨R, hR⟩ : ∃ R, R = D6.signN s lim 2 (p + 1) 128 159 := ⟨_, rfl⟩
  rw [← hR]
  have hlen := hc.len
  obtain ⟨hpl, hpb, hcc⟩ := want_lt6 hw
  have hp2 : p ≤ 140737488355327 := by omega
  have hwp := wrap1 p hp2
  have hgd : (s.take (p + 1)).drop p = [s.getD p 0] := by rw [J6.part_snoc (Nat.le_refl p) (Nat.lt_of_lt_of_le hpl (Nat.min_le_left _ _)), E5.drop_take_self, List.nil_append]
  have hcv : ((s.getD p 0).toNat : Int) = (237 : Int) := by have : (s.getD p 0).toNat = 237 := hcc.symm; omega
  have HW := Px.hid (jwant_yes b p s lim vs vo w h _ hw)
  have HJ := Px.hid h
  have HG := Px.hid (And.intro hgd (And.intro hcv (And.intro hpl hlen)))
  have HR := Px.hid hR
  obtain ⟨i0, hi0, hz0, hz1, hz2⟩ := info_parts Tryd.infoU8
  clear hw h hgd hcv hpl hlen hR hc hcc
  go_enter Tryd.func62, Tryd.ntmps62
  go_wp2_with fail
  refine HW.out.mono ?_
  rintro r w1 ⟨rfl, hs⟩
  have h1 := HJ.out.same hs
  obtain ⟨_, _, _, _, c5, _, _⟩ := h1.cells
  have f5 := h1.free 5
  have hbl := h1.lt
  have H1 := Px.hid (And.intro h1 (hs.it (b := b)))
  clear h1 hs
  go_upto_region 21 with fail
  obtain ⟨w2, hw2⟩ : ∃ w2, w2 = (w1.setCell ⟨b, 5, none⟩ (.int .i64 ((p : Int) + 1))).alloc (.cells #[.int .u8 (237 : Int)] 5 (0, 0)) := ⟨_, rfl⟩
  have HT := Px.hid (show JTxt w w2 b s lim (p + 1) vs vo (.slice (some ⟨w1.heap.size, 0, none⟩) 1 1) ((s.take (p + 1)).drop p) from by
    have h1 := H1.out.1
    have hsz := H1.out.2.size
    have hblt := HJ.out.lt
    have hm := h1.go H1.out.2 (p + 1)
    have hj : Jr w2 b s lim (p + 1) vs vo := by rw [hw2]; exact hm.1.keep (Below.heap_alloc _ _ b hm.1.lt)
    have hfr : Fr (It b) w w2 := by rw [hw2]; exact hm.2.alloc _
    have hss : (w1.setCell ⟨b, 5, none⟩ (.int .i64 ((p : Int) + 1))).heap.size = w1.heap.size := by simp
    refine ⟨hj, hfr, ?_, hblt⟩
    rw [HG.out.1]
    refine ⟨rfl, .inr ⟨w1.heap.size, 1, #[.int .u8 (237 : Int)], rfl, hsz, ?_, Nat.le_refl _, by unfold maxLen; omega, rfl, ?_⟩⟩
    · have := heap_alloc_new (w1.setCell ⟨b, 5, none⟩ (.int .i64 ((p : Int) + 1))) (.cells #[.int .u8 (237 : Int)] 5 (0, 0))
      rw [hss] at this
      rw [hw2]
      exact this
    · show [Value.int .u8 (237 : Int)] = [Value.int .u8 ((s.getD p 0).toNat : Nat)]
      rw [show (((s.getD p 0).toNat : Nat) : Int) = (237 : Int) from HG.out.2.1])
  rw [← hw2]
  clear hw2 H1 HJ HW c5 f5 hbl
  go_wp2
  go_loopw [4, 5, 7, 56] (fun a z v i wr => ∃ k, i = .int .i64 (k : Nat) ∧ k ≤ 2 ∧ a = .int .u8 (bnd 128 k 128 : Nat) ∧ z = .int .u8 (bnd 159 k 191 : Nat) ∧ Hid (JTxt w wr b s lim (p + 1 + k) vs vo v ((s.take (p + 1 + k)).drop p) ∧ R = D6.signN s lim (2 - k) (p + 1 + k) (bnd 128 k 128) (bnd 159 k 191) ∧ p + 1 + k ≤ min s.length lim.b.toNat)) (fun _ _ _ i _ => 2 - (intOf i).toNat)
  case atStart => exact ⟨0, rfl, by omega, rfl, rfl, Px.hid ⟨HT.out, HR.out, HG.out.2.2.1⟩⟩
  case round =>
    clear HT HR
    obtain ⟨k, rfl, hk, rfl, rfl, HP⟩ := hrel
    obtain ⟨A, hA⟩ : ∃ A, bnd 128 k 128 = A := ⟨_, rfl⟩
    obtain ⟨Z, hZ⟩ : ∃ Z, bnd 159 k 191 = Z := ⟨_, rfl⟩
    rw [hA, hZ] at HP ⊢
    clear hA hZ
    by_cases hlt : k < 2
    · have hltz : (k : Int) < 2 := by omega
      obtain ⟨m, hm⟩ : ∃ m, 2 - k = m + 1 := ⟨2 - k - 1, by omega⟩
      have hps := HP.out.2.1
      rw [hm, jsignN_succ] at hps
      have hlen := HG.out.2.2.2
      have hle := HP.out.2.2
      obtain ⟨q, hq⟩ : ∃ q, p + 1 + k = q := ⟨_, rfl⟩
      have ht := HP.out.1
      rw [hq] at hps ht hle
      have HQ := Px.hid (And.intro hq hm)
      have hwq := wrap1 q (by omega)
      have HJ := Px.hid ht
      obtain ⟨W, hW⟩ : ∃ W, D6.want s lim q = W := ⟨_, rfl⟩
      rw [hW] at hps
      clear hq hm hle hlen HP
      cases W with
      | error e =>
        have HW := Px.hid (jwant_no b q s lim vs vo wr ht.j e hW)
        have HP := Px.hid (show R = .error e from hps)
        clear hps hW ht hlt
        go_wp2_with fail
        refine HW.out.mono ?_
        rintro r w3 ⟨rfl, hs⟩
        have HS := Px.hid hs
        clear hs
        unfold jpanics
        go_wp2
        exact ⟨rfl, JEsc.bad (by rw [HP.out]; rfl) (It.trans HJ.out.fr HS.out.it)⟩
      | ok z =>
        have HW := Px.hid (jwant_yes b q s lim vs vo wr ht.j z hW)
        obtain ⟨hql, _, hzc⟩ := want_lt6 hW
        have hgz : s.getD q 0 = UInt8.ofNat z := by rw [hzc]; unfold R6.at_; simp
        have hz256 : z < 256 := by rw [hzc]; exact at_lt s q
        have HZ := Px.hid (And.intro hql (And.intro hgz hz256))
        simp only at hps
        clear hW ht hzc hgz hql
        by_cases hbad : z < A ∨ Z < z
        · have HP := Px.hid (show R = .error ((q : Nat), 9) by rw [hps, if_pos (by simpa using hbad)])
          have g : z < A ∨ (decide (z < A) = false ∧ Z < z) := by
            by_cases e : z < A
            · exact .inl e
            · exact .inr ⟨decide_eq_false e, by omega⟩
          clear hps hbad hlt hz256
          rcases g with g | ⟨g, g2⟩
          all_goals
            go_wp2_with fail
            refine HW.out.mono ?_
            rintro r w3 ⟨rfl, hs⟩
            have HS := Px.hid hs
            obtain ⟨_, _, _, _, c5, _, _⟩ := (HJ.out.j.same hs).cells
            clear hs
            go_wp2_with fail
            refine (jwrong b _ _ _).mono ?_
            rintro r w4 ⟨rfl, rfl⟩
            unfold jpanics
            go_wp2
            exact ⟨rfl, JEsc.bad (by rw [HP.out]; rfl) (It.trans HJ.out.fr HS.out.it)⟩
        · have HP := Px.hid (show R = D6.signN s lim m (q + 1) 128 191 by rw [hps, if_neg (by simpa using hbad)])
          have g1 : decide (z < A) = false := by simp; omega
          have g2 : decide (Z < z) = false := by simp; omega
          have HLT := Px.hid hlt
          have hl4 : ((s.take q).drop p).length ≤ 4 := by rw [List.length_drop, List.length_take]; have := HQ.out.1; omega
          clear hps hbad hlt hz256
          obtain ⟨L, hL⟩ : ∃ L, (s.take q).drop p = L := ⟨_, rfl⟩
          rw [hL] at hl4
          have HJ2 := Px.hid (show JTxt w wr b s lim q vs vo u7 L from by rw [← hL]; exact HJ.out)
          have HL := Px.hid hL
          clear hL HJ
          go_wp2_with fail
          refine HW.out.mono ?_
          rintro r w3 ⟨rfl, hs⟩
          have H3 := Px.hid (HJ2.out.step (HJ2.out.j.same hs) hs.it)
          clear hs
          obtain ⟨va, vc, hv⟩ := row_len H3.out.row
          subst hv
          have c5 := H3.out.j.cells.2.2.2.2.1
          have f5 := H3.out.j.free 5
          have hbl := H3.out.j.lt
          have hnb : (Value.slice va L.length vc).ownBlock ≠ some b := fun e => by have := (World.ownsRow.lt H3.out.row b e).1; have := H3.out.nb; omega
          have HNB := Px.hid hnb
          clear hnb
          go_wp2_with (at_builtin; go_must (refine wpList_append_lies _ rfl _ _ _ rfl w.heap.size 5 i0 _ 1 1 Tryd.underlying62 hi0 hz0 hz1 hz2 rfl (by omega) (.slice va L.length vc) L.length (L.flatMap cByte) rfl (row_keep H3.out.row (fun k hk => Below.heap_alloc w3 _ k (World.ownsRow.lt H3.out.row k hk).2)) ⟨w3.heap.size, 0, none⟩ 1 1 [.int .u8 (z : Nat)] rfl rfl (World.news_of_block (cs := #[.int .u8 (z : Nat)]) (t := 5) (fr := (0, 0)) (heap_alloc_new w3 _)) (by simp [Value.oneCell']) (by omega) (by unfold maxLen; omega) (by omega) (by have := H3.out.fr.size; simp; omega) (w3.heap.size + 1) (by simp) ?_))
          intro gg cap w4 hown hgrow hat hltg
          have k5 := grown_cell1 hgrow c5 HNB.out
          have e5 := grown_free1 hgrow c5 f5 HNB.out
          have ht : JTxt w w4 b s lim q vs vo (.slice (some ⟨gg, 0, none⟩) (L.length + 1) cap) (L ++ [s.getD q 0]) := H3.out.grow (by
            rw [List.length_append, List.flatMap_append]
            rw [show Value.int .u8 (z : Nat) = .int .u8 ((s.getD q 0).toNat : Nat) from by rw [HZ.out.2.1]; exact (byte_cell z HZ.out.2.2).symm] at hown
            exact hown) (grown_alloc1 hgrow)
          have H4 := Px.hid (ht.move (q + 1))
          clear hown hgrow hat hltg ht c5 f5 hbl
          go_wp2
          go_roundw
          case rel =>
            refine ⟨k + 1, by go_num, HLT.out, rfl, rfl, Px.hid ?_⟩
            have hq := HQ.out.1
            have e1 : p + 1 + (k + 1) = q + 1 := by omega
            have e2 : 2 - (k + 1) = m := by have := HQ.out.2; omega
            rw [e1, e2, J6.part_snoc (by omega) (Nat.lt_of_lt_of_le HZ.out.1 (Nat.min_le_left _ _)), HL.out]
            exact ⟨H4.out, HP.out, HZ.out.1⟩
          case measure => have := HLT.out; simp [intOf]; omega
    · obtain rfl : k = 2 := by omega
      have hltz : ¬ ((2 : Nat) : Int) < 2 := by omega
      have HX := Px.hid (show R = .ok (p + 1 + 2) from HP.out.2.1)
      obtain ⟨va, vc, hv⟩ := row_len HP.out.1.row
      have HV := Px.hid hv
      clear hlt hltz hv
      go_wp2
      go_ret
      rw [HX.out]
      have hL : 0 < ((s.take (p + 1 + 2)).drop p).length ∧ ((s.take (p + 1 + 2)).drop p).length ≤ 4 := by rw [List.length_drop, List.length_take]; have := HP.out.2.2; omega
      exact ⟨_, rfl, owns0 HP.out.1.row, fun k hk => (World.ownsRow.lt HP.out.1.row k hk).1, hL.1, hL.2, HP.out.1.j, HP.out.1.fr⟩
set_option maxRecDepth 100000 in
set_option maxHeartbeats 4000000 in
theorem jsgn_two (b p c : Nat) (s : Bytes) (lim : Lim) (vs vo : Value) (hc : Cj s lim) (w : World) (h : Jr w b s lim p vs vo) (hw : D6.want s lim p = .ok c) (hr : 224 ≤ c ∧ c ≤ 239 ∧ c ≠ 224 ∧ c ≠ 237) :
    Calls Tryd.prog 62 #[.pointer (some ⟨b, 0, none⟩)] w (JEsc w b s lim vs vo (signR s p (D6.signN s lim 2 (p + 1) 128 191))) := by
  obtain ⟨R, hR⟩ : ∃ R, R = D6.signN s lim 2 (p + 1) 128 191 := ⟨_, rfl⟩
  rw [← hR]
  have hlen := hc.len
  obtain ⟨hpl, hpb, hcc⟩ := want_lt6 hw
  have hp2 : p ≤ 140737488355327 := by omega
  have hwp := wrap1 p hp2
  have hgd : (s.take (p + 1)).drop p = [s.getD p 0] := by rw [J6.part_snoc (Nat.le_refl p) (Nat.lt_of_lt_of_le hpl (Nat.min_le_left _ _)), E5.drop_take_self, List.nil_append]
  have hcv : ((s.getD p 0).toNat : Int) = (c : Nat) := by have : (s.getD p 0).toNat = c := hcc.symm; omega
  have HW := Px.hid (jwant_yes b p s lim vs vo w h _ hw)
  have HJ := Px.hid h
  have HG := Px.hid (And.intro hgd (And.intro hcv (And.intro hpl hlen)))
  have HR := Px.hid hR
  have y0 : (194 : Int) ≤ (c : Int) := by omega
  have y1 : decide ((c : Int) ≤ 223) = false := by simp; omega
  have y2 : (224 : Int) ≤ (c : Int) := by omega
  have y3 : (c : Int) ≤ 239 := by omega
  have y4 : ((c : Int) == 224) = false := by simp; omega
  have y5 : ((c : Int) == 237) = false := by simp; omega
  obtain ⟨i0, hi0, hz0, hz1, hz2⟩ := info_parts Tryd.infoU8
  clear hw h hr hgd hcv hpl hlen hR hc hcc
  go_enter Tryd.func62, Tryd.ntmps62
  go_wp2_with fail
  refine HW.out.mono ?_
  rintro r w1 ⟨rfl, hs⟩
  have h1 := HJ.out.same hs
  obtain ⟨_, _, _, _, c5, _, _⟩ := h1.cells
  have f5 := h1.free 5
  have hbl := h1.lt
  have H1 := Px.hid (And.intro h1 (hs.it (b := b)))
  clear h1 hs
  go_upto_region 21 with fail
  obtain ⟨w2, hw2⟩ : ∃ w2, w2 = (w1.setCell ⟨b, 5, none⟩ (.int .i64 ((p : Int) + 1))).alloc (.cells #[.int .u8 (c : Nat)] 5 (0, 0)) := ⟨_, rfl⟩
  have HT := Px.hid (show JTxt w w2 b s lim (p + 1) vs vo (.slice (some ⟨w1.heap.size, 0, none⟩) 1 1) ((s.take (p + 1)).drop p) from by
    have h1 := H1.out.1
    have hsz := H1.out.2.size
    have hblt := HJ.out.lt
    have hm := h1.go H1.out.2 (p + 1)
    have hj : Jr w2 b s lim (p + 1) vs vo := by rw [hw2]; exact hm.1.keep (Below.heap_alloc _ _ b hm.1.lt)
    have hfr : Fr (It b) w w2 := by rw [hw2]; exact hm.2.alloc _
    have hss : (w1.setCell ⟨b, 5, none⟩ (.int .i64 ((p : Int) + 1))).heap.size = w1.heap.size := by simp
    refine ⟨hj, hfr, ?_, hblt⟩
    rw [HG.out.1]
    refine ⟨rfl, .inr ⟨w1.heap.size, 1, #[.int .u8 (c : Nat)], rfl, hsz, ?_, Nat.le_refl _, by unfold maxLen; omega, rfl, ?_⟩⟩
    · have := heap_alloc_new (w1.setCell ⟨b, 5, none⟩ (.int .i64 ((p : Int) + 1))) (.cells #[.int .u8 (c : Nat)] 5 (0, 0))
      rw [hss] at this
      rw [hw2]
      exact this
    · show [Value.int .u8 (c : Nat)] = [Value.int .u8 ((s.getD p 0).toNat : Nat)]
      rw [show (((s.getD p 0).toNat : Nat) : Int) = (c : Nat) from HG.out.2.1])
  rw [← hw2]
  clear hw2 H1 HJ HW c5 f5 hbl
  go_wp2
  go_loopw [4, 5, 7, 56] (fun a z v i wr => ∃ k, i = .int .i64 (k : Nat) ∧ k ≤ 2 ∧ a = .int .u8 (bnd 128 k 128 : Nat) ∧ z = .int .u8 (bnd 191 k 191 : Nat) ∧ Hid (JTxt w wr b s lim (p + 1 + k) vs vo v ((s.take (p + 1 + k)).drop p) ∧ R = D6.signN s lim (2 - k) (p + 1 + k) (bnd 128 k 128) (bnd 191 k 191) ∧ p + 1 + k ≤ min s.length lim.b.toNat)) (fun _ _ _ i _ => 2 - (intOf i).toNat)
  case atStart => exact ⟨0, rfl, by omega, rfl, rfl, Px.hid ⟨HT.out, HR.out, HG.out.2.2.1⟩⟩
  case round =>
    clear HT HR y0 y1 y2 y3 y4 y5
    obtain ⟨k, rfl, hk, rfl, rfl, HP⟩ := hrel
    obtain ⟨A, hA⟩ : ∃ A, bnd 128 k 128 = A := ⟨_, rfl⟩
    obtain ⟨Z, hZ⟩ : ∃ Z, bnd 191 k 191 = Z := ⟨_, rfl⟩
    rw [hA, hZ] at HP ⊢
    clear hA hZ
    by_cases hlt : k < 2
    · have hltz : (k : Int) < 2 := by omega
      obtain ⟨m, hm⟩ : ∃ m, 2 - k = m + 1 := ⟨2 - k - 1, by omega⟩
      have hps := HP.out.2.1
      rw [hm, jsignN_succ] at hps
      have hlen := HG.out.2.2.2
      have hle := HP.out.2.2
      obtain ⟨q, hq⟩ : ∃ q, p + 1 + k = q := ⟨_, rfl⟩
      have ht := HP.out.1
      rw [hq] at hps ht hle
      have HQ := Px.hid (And.intro hq hm)
      have hwq := wrap1 q (by omega)
      have HJ := Px.hid ht
      obtain ⟨W, hW⟩ : ∃ W, D6.want s lim q = W := ⟨_, rfl⟩
      rw [hW] at hps
      clear hq hm hle hlen HP
      cases W with
      | error e =>
        have HW := Px.hid (jwant_no b q s lim vs vo wr ht.j e hW)
        have HP := Px.hid (show R = .error e from hps)
        clear hps hW ht hlt
        go_wp2_with fail
        refine HW.out.mono ?_
        rintro r w3 ⟨rfl, hs⟩
        have HS := Px.hid hs
        clear hs
        unfold jpanics
        go_wp2
        exact ⟨rfl, JEsc.bad (by rw [HP.out]; rfl) (It.trans HJ.out.fr HS.out.it)⟩
      | ok z =>
        have HW := Px.hid (jwant_yes b q s lim vs vo wr ht.j z hW)
        obtain ⟨hql, _, hzc⟩ := want_lt6 hW
        have hgz : s.getD q 0 = UInt8.ofNat z := by rw [hzc]; unfold R6.at_; simp
        have hz256 : z < 256 := by rw [hzc]; exact at_lt s q
        have HZ := Px.hid (And.intro hql (And.intro hgz hz256))
        simp only at hps
        clear hW ht hzc hgz hql
        by_cases hbad : z < A ∨ Z < z
        · have HP := Px.hid (show R = .error ((q : Nat), 9) by rw [hps, if_pos (by simpa using hbad)])
          have g : z < A ∨ (decide (z < A) = false ∧ Z < z) := by
            by_cases e : z < A
            · exact .inl e
            · exact .inr ⟨decide_eq_false e, by omega⟩
          clear hps hbad hlt hz256
          rcases g with g | ⟨g, g2⟩
          all_goals
            go_wp2_with fail
            refine HW.out.mono ?_
            rintro r w3 ⟨rfl, hs⟩
            have HS := Px.hid hs
            obtain ⟨_, _, _, _, c5, _, _⟩ := (HJ.out.j.same hs).cells
            clear hs
            go_wp2_with fail
            refine (jwrong b _ _ _).mono ?_
            rintro r w4 ⟨rfl, rfl⟩
            unfold jpanics
            go_wp2
            exact ⟨rfl, JEsc.bad (by rw [HP.out]; rfl) (It.trans HJ.out.fr HS.out.it)⟩
        · have HP := Px.hid (show R = D6.signN s lim m (q + 1) 128 191 by rw [hps, if_neg (by simpa using hbad)])
          have g1 : decide (z < A) = false := by simp; omega
          have g2 : decide (Z < z) = false := by simp; omega
          have HLT := Px.hid hlt
          have hl4 : ((s.take q).drop p).length ≤ 4 := by rw [List.length_drop, List.length_take]; have := HQ.out.1; omega
          clear hps hbad hlt hz256
          obtain ⟨L, hL⟩ : ∃ L, (s.take q).drop p = L := ⟨_, rfl⟩
          rw [hL] at hl4
          have HJ2 := Px.hid (show JTxt w wr b s lim q vs vo u7 L from by rw [← hL]; exact HJ.out)
          have HL := Px.hid hL
          clear hL HJ
          go_wp2_with fail
          refine HW.out.mono ?_
          rintro r w3 ⟨rfl, hs⟩
          have H3 := Px.hid (HJ2.out.step (HJ2.out.j.same hs) hs.it)
          clear hs
          obtain ⟨va, vc, hv⟩ := row_len H3.out.row
          subst hv
          have c5 := H3.out.j.cells.2.2.2.2.1
          have f5 := H3.out.j.free 5
          have hbl := H3.out.j.lt
          have hnb : (Value.slice va L.length vc).ownBlock ≠ some b := fun e => by have := (World.ownsRow.lt H3.out.row b e).1; have := H3.out.nb; omega
          have HNB := Px.hid hnb
          clear hnb
          go_wp2_with (at_builtin; go_must (refine wpList_append_lies _ rfl _ _ _ rfl w.heap.size 5 i0 _ 1 1 Tryd.underlying62 hi0 hz0 hz1 hz2 rfl (by omega) (.slice va L.length vc) L.length (L.flatMap cByte) rfl (row_keep H3.out.row (fun k hk => Below.heap_alloc w3 _ k (World.ownsRow.lt H3.out.row k hk).2)) ⟨w3.heap.size, 0, none⟩ 1 1 [.int .u8 (z : Nat)] rfl rfl (World.news_of_block (cs := #[.int .u8 (z : Nat)]) (t := 5) (fr := (0, 0)) (heap_alloc_new w3 _)) (by simp [Value.oneCell']) (by omega) (by unfold maxLen; omega) (by omega) (by have := H3.out.fr.size; simp; omega) (w3.heap.size + 1) (by simp) ?_))
          intro gg cap w4 hown hgrow hat hltg
          have k5 := grown_cell1 hgrow c5 HNB.out
          have e5 := grown_free1 hgrow c5 f5 HNB.out
          have ht : JTxt w w4 b s lim q vs vo (.slice (some ⟨gg, 0, none⟩) (L.length + 1) cap) (L ++ [s.getD q 0]) := H3.out.grow (by
            rw [List.length_append, List.flatMap_append]
            rw [show Value.int .u8 (z : Nat) = .int .u8 ((s.getD q 0).toNat : Nat) from by rw [HZ.out.2.1]; exact (byte_cell z HZ.out.2.2).symm] at hown
            exact hown) (grown_alloc1 hgrow)
          have H4 := Px.hid (ht.move (q + 1))
          clear hown hgrow hat hltg ht c5 f5 hbl
          go_wp2
          go_roundw
          case rel =>
            refine ⟨k + 1, by go_num, HLT.out, rfl, rfl, Px.hid ?_⟩
            have hq := HQ.out.1
            have e1 : p + 1 + (k + 1) = q + 1 := by omega
            have e2 : 2 - (k + 1) = m := by have := HQ.out.2; omega
            rw [e1, e2, J6.part_snoc (by omega) (Nat.lt_of_lt_of_le HZ.out.1 (Nat.min_le_left _ _)), HL.out]
            exact ⟨H4.out, HP.out, HZ.out.1⟩
          case measure => have := HLT.out; simp [intOf]; omega
    · obtain rfl : k = 2 := by omega
      have hltz : ¬ ((2 : Nat) : Int) < 2 := by omega
      have HX := Px.hid (show R = .ok (p + 1 + 2) from HP.out.2.1)
      obtain ⟨va, vc, hv⟩ := row_len HP.out.1.row
      have HV := Px.hid hv
      clear hlt hltz hv
      go_wp2
      go_ret
      rw [HX.out]
      have hL : 0 < ((s.take (p + 1 + 2)).drop p).length ∧ ((s.take (p + 1 + 2)).drop p).length ≤ 4 := by rw [List.length_drop, List.length_take]; have := HP.out.2.2; omega
      exact ⟨_, rfl, owns0 HP.out.1.row, fun k hk => (World.ownsRow.lt HP.out.1.row k hk).1, hL.1, hL.2, HP.out.1.j, HP.out.1.fr⟩
set_option maxRecDepth 100000 in
set_option maxHeartbeats 4000000 in
theorem jsgn_f0 (b p : Nat) (s : Bytes) (lim : Lim) (vs vo : Value) (hc : Cj s lim) (w : World) (h : Jr w b s lim p vs vo) (hw : D6.want s lim p = .ok 240) :
    Calls Tryd.prog 62 #[.pointer (some ⟨b, 0, none⟩)] w (JEsc w b s lim vs vo (signR s p (D6.signN s lim 3 (p + 1) 144 191))) := by
  obtain ⟨R, hR⟩ : ∃ R, R = D6.signN s lim 3 (p + 1) 144 191 := ⟨_, rfl⟩
  rw [← hR]
  have hlen := hc.len
  obtain ⟨hpl, hpb, hcc⟩ := want_lt6 hw
  have hp2 : p ≤ 140737488355327 := by omega
  have hwp := wrap1 p hp2
  have hgd : (s.take (p + 1)).drop p = [s.getD p 0] := by rw [J6.part_snoc (Nat.le_refl p) (Nat.lt_of_lt_of_le hpl (Nat.min_le_left _ _)), E5.drop_take_self, List.nil_append]
  have hcv : ((s.getD p 0).toNat : Int) = (240 : Int) := by have : (s.getD p 0).toNat = 240 := hcc.symm; omega
  have HW := Px.hid (jwant_yes b p s lim vs vo w h _ hw)
  have HJ := Px.hid h
  have HG := Px.hid (And.intro hgd (And.intro hcv (And.intro hpl hlen)))
  have HR := Px.hid hR
  obtain ⟨i0, hi0, hz0, hz1, hz2⟩ := info_parts Tryd.infoU8
  clear hw h hgd hcv hpl hlen hR hc hcc
  go_enter Tryd.func62, Tryd.ntmps62
  go_wp2_with fail
  refine HW.out.mono ?_
  rintro r w1 ⟨rfl, hs⟩
  have h1 := HJ.out.same hs
  obtain ⟨_, _, _, _, c5, _, _⟩ := h1.cells
  have f5 := h1.free 5
  have hbl := h1.lt
  have H1 := Px.hid (And.intro h1 (hs.it (b := b)))
  clear h1 hs
  go_upto_region 21 with fail
  obtain ⟨w2, hw2⟩ : ∃ w2, w2 = (w1.setCell ⟨b, 5, none⟩ (.int .i64 ((p : Int) + 1))).alloc (.cells #[.int .u8 (240 : Int)] 5 (0, 0)) := ⟨_, rfl⟩
  have HT := Px.hid (show JTxt w w2 b s lim (p + 1) vs vo (.slice (some ⟨w1.heap.size, 0, none⟩) 1 1) ((s.take (p + 1)).drop p) from by
    have h1 := H1.out.1
    have hsz := H1.out.2.size
    have hblt := HJ.out.lt
    have hm := h1.go H1.out.2 (p + 1)
    have hj : Jr w2 b s lim (p + 1) vs vo := by rw [hw2]; exact hm.1.keep (Below.heap_alloc _ _ b hm.1.lt)
    have hfr : Fr (It b) w w2 := by rw [hw2]; exact hm.2.alloc _
    have hss : (w1.setCell ⟨b, 5, none⟩ (.int .i64 ((p : Int) + 1))).heap.size = w1.heap.size := by simp
    refine ⟨hj, hfr, ?_, hblt⟩
    rw [HG.out.1]
    refine ⟨rfl, .inr ⟨w1.heap.size, 1, #[.int .u8 (240 : Int)], rfl, hsz, ?_, Nat.le_refl _, by unfold maxLen; omega, rfl, ?_⟩⟩
    · have := heap_alloc_new (w1.setCell ⟨b, 5, none⟩ (.int .i64 ((p : Int) + 1))) (.cells #[.int .u8 (240 : Int)] 5 (0, 0))
      rw [hss] at this
      rw [hw2]
      exact this
    · show [Value.int .u8 (240 : Int)] = [Value.int .u8 ((s.getD p 0).toNat : Nat)]
      rw [show (((s.getD p 0).toNat : Nat) : Int) = (240 : Int) from HG.out.2.1])
  rw [← hw2]
  clear hw2 H1 HJ HW c5 f5 hbl
  go_wp2
  go_loopw [4, 5, 7, 56] (fun a z v i wr => ∃ k, i = .int .i64 (k : Nat) ∧ k ≤ 3 ∧ a = .int .u8 (bnd 144 k 128 : Nat) ∧ z = .int .u8 (bnd 191 k 191 : Nat) ∧ Hid (JTxt w wr b s lim (p + 1 + k) vs vo v ((s.take (p + 1 + k)).drop p) ∧ R = D6.signN s lim (3 - k) (p + 1 + k) (bnd 144 k 128) (bnd 191 k 191) ∧ p + 1 + k ≤ min s.length lim.b.toNat)) (fun _ _ _ i _ => 3 - (intOf i).toNat)
  case atStart => exact ⟨0, rfl, by omega, rfl, rfl, Px.hid ⟨HT.out, HR.out, HG.out.2.2.1⟩⟩
  case round =>
    clear HT HR
    obtain ⟨k, rfl, hk, rfl, rfl, HP⟩ := hrel
    obtain ⟨A, hA⟩ : ∃ A, bnd 144 k 128 = A := ⟨_, rfl⟩
    obtain ⟨Z, hZ⟩ : ∃ Z, bnd 191 k 191 = Z := ⟨_, rfl⟩
    rw [hA, hZ] at HP ⊢
    clear hA hZ
    by_cases hlt : k < 3
    · have hltz : (k : Int) < 3 := by omega
      obtain ⟨m, hm⟩ : ∃ m, 3 - k = m + 1 := ⟨3 - k - 1, by omega⟩
      have hps := HP.out.2.1
      rw [hm, jsignN_succ] at hps
      have hlen := HG.out.2.2.2
      have hle := HP.out.2.2
      obtain ⟨q, hq⟩ : ∃ q, p + 1 + k = q := ⟨_, rfl⟩
      have ht := HP.out.1
      rw [hq] at hps ht hle
      have HQ := Px.hid (And.intro hq hm)
      have hwq := wrap1 q (by omega)
      have HJ := Px.hid ht
      obtain ⟨W, hW⟩ : ∃ W, D6.want s lim q = W := ⟨_, rfl⟩
      rw [hW] at hps
      clear hq hm hle hlen HP
      cases W with
      | error e =>
        have HW := Px.hid (jwant_no b q s lim vs vo wr ht.j e hW)
        have HP := Px.hid (show R = .error e from hps)
        clear hps hW ht hlt
        go_wp2_with fail
        refine HW.out.mono ?_
        rintro r w3 ⟨rfl, hs⟩
        have HS := Px.hid hs
        clear hs
        unfold jpanics
        go_wp2
        exact ⟨rfl, JEsc.bad (by rw [HP.out]; rfl) (It.trans HJ.out.fr HS.out.it)⟩
      | ok z =>
        have HW := Px.hid (jwant_yes b q s lim vs vo wr ht.j z hW)
        obtain ⟨hql, _, hzc⟩ := want_lt6 hW
        have hgz : s.getD q 0 = UInt8.ofNat z := by rw [hzc]; unfold R6.at_; simp
        have hz256 : z < 256 := by rw [hzc]; exact at_lt s q
        have HZ := Px.hid (And.intro hql (And.intro hgz hz256))
        simp only at hps
        clear hW ht hzc hgz hql
        by_cases hbad : z < A ∨ Z < z
        · have HP := Px.hid (show R = .error ((q : Nat), 9) by rw [hps, if_pos (by simpa using hbad)])
          have g : z < A ∨ (decide (z < A) = false ∧ Z < z) := by
            by_cases e : z < A
            · exact .inl e
            · exact .inr ⟨decide_eq_false e, by omega⟩
          clear hps hbad hlt hz256
          rcases g with g | ⟨g, g2⟩
          all_goals
            go_wp2_with fail
            refine HW.out.mono ?_
            rintro r w3 ⟨rfl, hs⟩
            have HS := Px.hid hs
            obtain ⟨_, _, _, _, c5, _, _⟩ := (HJ.out.j.same hs).cells
            clear hs
            go_wp2_with fail
            refine (jwrong b _ _ _).mono ?_
            rintro r w4 ⟨rfl, rfl⟩
            unfold jpanics
            go_wp2
            exact ⟨rfl, JEsc.bad (by rw [HP.out]; rfl) (It.trans HJ.out.fr HS.out.it)⟩
        · have HP := Px.hid (show R = D6.signN s lim m (q + 1) 128 191 by rw [hps, if_neg (by simpa using hbad)])
          have g1 : decide (z < A) = false := by simp; omega
          have g2 : decide (Z < z) = false := by simp; omega
          have HLT := Px.hid hlt
          have hl4 : ((s.take q).drop p).length ≤ 4 := by rw [List.length_drop, List.length_take]; have := HQ.out.1; omega
          clear hps hbad hlt hz256
          obtain ⟨L, hL⟩ : ∃ L, (s.take q).drop p = L := ⟨_, rfl⟩
          rw [hL] at hl4
          have HJ2 := Px.hid (show JTxt w wr b s lim q vs vo u7 L from by rw [← hL]; exact HJ.out)
          have HL := Px.hid hL
          clear hL HJ
          go_wp2_with fail
          refine HW.out.mono ?_
          rintro r w3 ⟨rfl, hs⟩
          have H3 := Px.hid (HJ2.out.step (HJ2.out.j.same hs) hs.it)
          clear hs
          obtain ⟨va, vc, hv⟩ := row_len H3.out.row
          subst hv
          have c5 := H3.out.j.cells.2.2.2.2.1
          have f5 := H3.out.j.free 5
          have hbl := H3.out.j.lt
          have hnb : (Value.slice va L.length vc).ownBlock ≠ some b := fun e => by have := (World.ownsRow.lt H3.out.row b e).1; have := H3.out.nb; omega
          have HNB := Px.hid hnb
          clear hnb
          go_wp2_with (at_builtin; go_must (refine wpList_append_lies _ rfl _ _ _ rfl w.heap.size 5 i0 _ 1 1 Tryd.underlying62 hi0 hz0 hz1 hz2 rfl (by omega) (.slice va L.length vc) L.length (L.flatMap cByte) rfl (row_keep H3.out.row (fun k hk => Below.heap_alloc w3 _ k (World.ownsRow.lt H3.out.row k hk).2)) ⟨w3.heap.size, 0, none⟩ 1 1 [.int .u8 (z : Nat)] rfl rfl (World.news_of_block (cs := #[.int .u8 (z : Nat)]) (t := 5) (fr := (0, 0)) (heap_alloc_new w3 _)) (by simp [Value.oneCell']) (by omega) (by unfold maxLen; omega) (by omega) (by have := H3.out.fr.size; simp; omega) (w3.heap.size + 1) (by simp) ?_))
          intro gg cap w4 hown hgrow hat hltg
          have k5 := grown_cell1 hgrow c5 HNB.out
          have e5 := grown_free1 hgrow c5 f5 HNB.out
          have ht : JTxt w w4 b s lim q vs vo (.slice (some ⟨gg, 0, none⟩) (L.length + 1) cap) (L ++ [s.getD q 0]) := H3.out.grow (by
            rw [List.length_append, List.flatMap_append]
            rw [show Value.int .u8 (z : Nat) = .int .u8 ((s.getD q 0).toNat : Nat) from by rw [HZ.out.2.1]; exact (byte_cell z HZ.out.2.2).symm] at hown
            exact hown) (grown_alloc1 hgrow)
          have H4 := Px.hid (ht.move (q + 1))
          clear hown hgrow hat hltg ht c5 f5 hbl
          go_wp2
          go_roundw
          case rel =>
            refine ⟨k + 1, by go_num, HLT.out, rfl, rfl, Px.hid ?_⟩
            have hq := HQ.out.1
            have e1 : p + 1 + (k + 1) = q + 1 := by omega
            have e2 : 3 - (k + 1) = m := by have := HQ.out.2; omega
            rw [e1, e2, J6.part_snoc (by omega) (Nat.lt_of_lt_of_le HZ.out.1 (Nat.min_le_left _ _)), HL.out]
            exact ⟨H4.out, HP.out, HZ.out.1⟩
          case measure => have := HLT.out; simp [intOf]; omega
    · obtain rfl : k = 3 := by omega
      have hltz : ¬ ((3 : Nat) : Int) < 3 := by omega
      have HX := Px.hid (show R = .ok (p + 1 + 3) from HP.out.2.1)
      obtain ⟨va, vc, hv⟩ := row_len HP.out.1.row
      have HV := Px.hid hv
      clear hlt hltz hv
      go_wp2
      go_ret
      rw [HX.out]
      have hL : 0 < ((s.take (p + 1 + 3)).drop p).length ∧ ((s.take (p + 1 + 3)).drop p).length ≤ 4 := by rw [List.length_drop, List.length_take]; have := HP.out.2.2; omega
      exact ⟨_, rfl, owns0 HP.out.1.row, fun k hk => (World.ownsRow.lt HP.out.1.row k hk).1, hL.1, hL.2, HP.out.1.j, HP.out.1.fr⟩
set_option maxRecDepth 100000 in
set_option maxHeartbeats 4000000 in
theorem jsgn_f4 (b p : Nat) (s : Bytes) (lim : Lim) (vs vo : Value) (hc : Cj s lim) (w : World) (h : Jr w b s lim p vs vo) (hw : D6.want s lim p = .ok 244) :
    Calls Tryd.prog 62 #[.pointer (some ⟨b, 0, none⟩)] w (JEsc w b s lim vs vo (signR s p (D6.signN s lim 3 (p + 1) 128 143))) := by
  obtain ⟨R, hR⟩ : ∃ R, R = D6.signN s lim 3 (p + 1) 128 143 := ⟨_, rfl⟩
  rw [← hR]
  have hlen := hc.len
  obtain ⟨hpl, hpb, hcc⟩ := want_lt6 hw
  have hp2 : p ≤ 140737488355327 := by omega
  have hwp := wrap1 p hp2
  have hgd : (s.take (p + 1)).drop p = [s.getD p 0] := by rw [J6.part_snoc (Nat.le_refl p) (Nat.lt_of_lt_of_le hpl (Nat.min_le_left _ _)), E5.drop_take_self, List.nil_append]
  have hcv : ((s.getD p 0).toNat : Int) = (244 : Int) := by have : (s.getD p 0).toNat = 244 := hcc.symm; omega
  have HW := Px.hid (jwant_yes b p s lim vs vo w h _ hw)
  have HJ := Px.hid h
  have HG := Px.hid (And.intro hgd (And.intro hcv (And.intro hpl hlen)))
  have HR := Px.hid hR
  obtain ⟨i0, hi0, hz0, hz1, hz2⟩ := info_parts Tryd.infoU8
  clear hw h hgd hcv hpl hlen hR hc hcc
  go_enter Tryd.func62, Tryd.ntmps62
  go_wp2_with fail
  refine HW.out.mono ?_
  rintro r w1 ⟨rfl, hs⟩
  have h1 := HJ.out.same hs
  obtain ⟨_, _, _, _, c5, _, _⟩ := h1.cells
  have f5 := h1.free 5
  have hbl := h1.lt
  have H1 := Px.hid (And.intro h1 (hs.it (b := b)))
  clear h1 hs
  go_upto_region 21 with fail
  obtain ⟨w2, hw2⟩ : ∃ w2, w2 = (w1.setCell ⟨b, 5, none⟩ (.int .i64 ((p : Int) + 1))).alloc (.cells #[.int .u8 (244 : Int)] 5 (0, 0)) := ⟨_, rfl⟩
  have HT := Px.hid (show JTxt w w2 b s lim (p + 1) vs vo (.slice (some ⟨w1.heap.size, 0, none⟩) 1 1) ((s.take (p + 1)).drop p) from by
    have h1 := H1.out.1
    have hsz := H1.out.2.size
    have hblt := HJ.out.lt
    have hm := h1.go H1.out.2 (p + 1)
    have hj : Jr w2 b s lim (p + 1) vs vo := by rw [hw2]; exact hm.1.keep (Below.heap_alloc _ _ b hm.1.lt)
    have hfr : Fr (It b) w w2 := by rw [hw2]; exact hm.2.alloc _
    have hss : (w1.setCell ⟨b, 5, none⟩ (.int .i64 ((p : Int) + 1))).heap.size = w1.heap.size := by simp
    refine ⟨hj, hfr, ?_, hblt⟩
    rw [HG.out.1]
    refine ⟨rfl, .inr ⟨w1.heap.size, 1, #[.int .u8 (244 : Int)], rfl, hsz, ?_, Nat.le_refl _, by unfold maxLen; omega, rfl, ?_⟩⟩
    · have := heap_alloc_new (w1.setCell ⟨b, 5, none⟩ (.int .i64 ((p : Int) + 1))) (.cells #[.int .u8 (244 : Int)] 5 (0, 0))
      rw [hss] at this
      rw [hw2]
      exact this
    · show [Value.int .u8 (244 : Int)] = [Value.int .u8 ((s.getD p 0).toNat : Nat)]
      rw [show (((s.getD p 0).toNat : Nat) : Int) = (244 : Int) from HG.out.2.1])
  rw [← hw2]
  clear hw2 H1 HJ HW c5 f5 hbl
  go_wp2
  go_loopw [4, 5, 7, 56] (fun a z v i wr => ∃ k, i = .int .i64 (k : Nat) ∧ k ≤ 3 ∧ a = .int .u8 (bnd 128 k 128 : Nat) ∧ z = .int .u8 (bnd 143 k 191 : Nat) ∧ Hid (JTxt w wr b s lim (p + 1 + k) vs vo v ((s.take (p + 1 + k)).drop p) ∧ R = D6.signN s lim (3 - k) (p + 1 + k) (bnd 128 k 128) (bnd 143 k 191) ∧ p + 1 + k ≤ min s.length lim.b.toNat)) (fun _ _ _ i _ => 3 - (intOf i).toNat)
  case atStart => exact ⟨0, rfl, by omega, rfl, rfl, Px.hid ⟨HT.out, HR.out, HG.out.2.2.1⟩⟩
  case round =>
    clear HT HR
    obtain ⟨k, rfl, hk, rfl, rfl, HP⟩ := hrel
    obtain ⟨A, hA⟩ : ∃ A, bnd 128 k 128 = A := ⟨_, rfl⟩
    obtain ⟨Z, hZ⟩ : ∃ Z, bnd 143 k 191 = Z := ⟨_, rfl⟩
    rw [hA, hZ] at HP ⊢
    clear hA hZ
    by_cases hlt : k < 3
    · have hltz : (k : Int) < 3 := by omega
      obtain ⟨m, hm⟩ : ∃ m, 3 - k = m + 1 := ⟨3 - k - 1, by omega⟩
      have hps := HP.out.2.1
      rw [hm, jsignN_succ] at hps
      have hlen := HG.out.2.2.2
      have hle := HP.out.2.2
      obtain ⟨q, hq⟩ : ∃ q, p + 1 + k = q := ⟨_, rfl⟩
      have ht := HP.out.1
      rw [hq] at hps ht hle
      have HQ := Px.hid (And.intro hq hm)
      have hwq := wrap1 q (by omega)
      have HJ := Px.hid ht
      obtain ⟨W, hW⟩ : ∃ W, D6.want s lim q = W := ⟨_, rfl⟩
      rw [hW] at hps
      clear hq hm hle hlen HP
      cases W with
      | error e =>
        have HW := Px.hid (jwant_no b q s lim vs vo wr ht.j e hW)
        have HP := Px.hid (show R = .error e from hps)
        clear hps hW ht hlt
        go_wp2_with fail
        refine HW.out.mono ?_
        rintro r w3 ⟨rfl, hs⟩
        have HS := Px.hid hs
        clear hs
        unfold jpanics
        go_wp2
        exact ⟨rfl, JEsc.bad (by rw [HP.out]; rfl) (It.trans HJ.out.fr HS.out.it)⟩
      | ok z =>
        have HW := Px.hid (jwant_yes b q s lim vs vo wr ht.j z hW)
        obtain ⟨hql, _, hzc⟩ := want_lt6 hW
        have hgz : s.getD q 0 = UInt8.ofNat z := by rw [hzc]; unfold R6.at_; simp
        have hz256 : z < 256 := by rw [hzc]; exact at_lt s q
        have HZ := Px.hid (And.intro hql (And.intro hgz hz256))
        simp only at hps
        clear hW ht hzc hgz hql
        by_cases hbad : z < A ∨ Z < z
        · have HP := Px.hid (show R = .error ((q : Nat), 9) by rw [hps, if_pos (by simpa using hbad)])
          have g : z < A ∨ (decide (z < A) = false ∧ Z < z) := by
            by_cases e : z < A
            · exact .inl e
            · exact .inr ⟨decide_eq_false e, by omega⟩
          clear hps hbad hlt hz256
          rcases g with g | ⟨g, g2⟩
          all_goals
            go_wp2_with fail
            refine HW.out.mono ?_
            rintro r w3 ⟨rfl, hs⟩
            have HS := Px.hid hs
            obtain ⟨_, _, _, _, c5, _, _⟩ := (HJ.out.j.same hs).cells
            clear hs
            go_wp2_with fail
            refine (jwrong b _ _ _).mono ?_
            rintro r w4 ⟨rfl, rfl⟩
            unfold jpanics
            go_wp2
            exact ⟨rfl, JEsc.bad (by rw [HP.out]; rfl) (It.trans HJ.out.fr HS.out.it)⟩
        · have HP := Px.hid (show R = D6.signN s lim m (q + 1) 128 191 by rw [hps, if_neg (by simpa using hbad)])
          have g1 : decide (z < A) = false := by simp; omega
          have g2 : decide (Z < z) = false := by simp; omega
          have HLT := Px.hid hlt
          have hl4 : ((s.take q).drop p).length ≤ 4 := by rw [List.length_drop, List.length_take]; have := HQ.out.1; omega
          clear hps hbad hlt hz256
          obtain ⟨L, hL⟩ : ∃ L, (s.take q).drop p = L := ⟨_, rfl⟩
          rw [hL] at hl4
          have HJ2 := Px.hid (show JTxt w wr b s lim q vs vo u7 L from by rw [← hL]; exact HJ.out)
          have HL := Px.hid hL
          clear hL HJ
          go_wp2_with fail
          refine HW.out.mono ?_
          rintro r w3 ⟨rfl, hs⟩
          have H3 := Px.hid (HJ2.out.step (HJ2.out.j.same hs) hs.it)
          clear hs
          obtain ⟨va, vc, hv⟩ := row_len H3.out.row
          subst hv
          have c5 := H3.out.j.cells.2.2.2.2.1
          have f5 := H3.out.j.free 5
          have hbl := H3.out.j.lt
          have hnb : (Value.slice va L.length vc).ownBlock ≠ some b := fun e => by have := (World.ownsRow.lt H3.out.row b e).1; have := H3.out.nb; omega
          have HNB := Px.hid hnb
          clear hnb
          go_wp2_with (at_builtin; go_must (refine wpList_append_lies _ rfl _ _ _ rfl w.heap.size 5 i0 _ 1 1 Tryd.underlying62 hi0 hz0 hz1 hz2 rfl (by omega) (.slice va L.length vc) L.length (L.flatMap cByte) rfl (row_keep H3.out.row (fun k hk => Below.heap_alloc w3 _ k (World.ownsRow.lt H3.out.row k hk).2)) ⟨w3.heap.size, 0, none⟩ 1 1 [.int .u8 (z : Nat)] rfl rfl (World.news_of_block (cs := #[.int .u8 (z : Nat)]) (t := 5) (fr := (0, 0)) (heap_alloc_new w3 _)) (by simp [Value.oneCell']) (by omega) (by unfold maxLen; omega) (by omega) (by have := H3.out.fr.size; simp; omega) (w3.heap.size + 1) (by simp) ?_))
          intro gg cap w4 hown hgrow hat hltg
          have k5 := grown_cell1 hgrow c5 HNB.out
          have e5 := grown_free1 hgrow c5 f5 HNB.out
          have ht : JTxt w w4 b s lim q vs vo (.slice (some ⟨gg, 0, none⟩) (L.length + 1) cap) (L ++ [s.getD q 0]) := H3.out.grow (by
            rw [List.length_append, List.flatMap_append]
            rw [show Value.int .u8 (z : Nat) = .int .u8 ((s.getD q 0).toNat : Nat) from by rw [HZ.out.2.1]; exact (byte_cell z HZ.out.2.2).symm] at hown
            exact hown) (grown_alloc1 hgrow)
          have H4 := Px.hid (ht.move (q + 1))
          clear hown hgrow hat hltg ht c5 f5 hbl
          go_wp2
          go_roundw
          case rel =>
            refine ⟨k + 1, by go_num, HLT.out, rfl, rfl, Px.hid ?_⟩
            have hq := HQ.out.1
            have e1 : p + 1 + (k + 1) = q + 1 := by omega
            have e2 : 3 - (k + 1) = m := by have := HQ.out.2; omega
            rw [e1, e2, J6.part_snoc (by omega) (Nat.lt_of_lt_of_le HZ.out.1 (Nat.min_le_left _ _)), HL.out]
            exact ⟨H4.out, HP.out, HZ.out.1⟩
          case measure => have := HLT.out; simp [intOf]; omega
    · obtain rfl : k = 3 := by omega
      have hltz : ¬ ((3 : Nat) : Int) < 3 := by omega
      have HX := Px.hid (show R = .ok (p + 1 + 3) from HP.out.2.1)
      obtain ⟨va, vc, hv⟩ := row_len HP.out.1.row
      have HV := Px.hid hv
      clear hlt hltz hv
      go_wp2
      go_ret
      rw [HX.out]
      have hL : 0 < ((s.take (p + 1 + 3)).drop p).length ∧ ((s.take (p + 1 + 3)).drop p).length ≤ 4 := by rw [List.length_drop, List.length_take]; have := HP.out.2.2; omega
      exact ⟨_, rfl, owns0 HP.out.1.row, fun k hk => (World.ownsRow.lt HP.out.1.row k hk).1, hL.1, hL.2, HP.out.1.j, HP.out.1.fr⟩
set_option maxRecDepth 100000 in
set_option maxHeartbeats 4000000 in
theorem jsgn_three (b p c : Nat) (s : Bytes) (lim : Lim) (vs vo : Value) (hc : Cj s lim) (w : World) (h : Jr w b s lim p vs vo) (hw : D6.want s lim p = .ok c) (hr : 240 ≤ c ∧ c ≤ 244 ∧ c ≠ 240 ∧ c ≠ 244) :
    Calls Tryd.prog 62 #[.pointer (some ⟨b, 0, none⟩)] w (JEsc w b s lim vs vo (signR s p (D6.signN s lim 3 (p + 1) 128 191))) := by
  obtain ⟨R, hR⟩ : ∃ R, R = D6.signN s lim 3 (p + 1) 128 191 := ⟨_, rfl⟩
  rw [← hR]
  have hlen := hc.len
  obtain ⟨hpl, hpb, hcc⟩ := want_lt6 hw
  have hp2 : p ≤ 140737488355327 := by omega
  have hwp := wrap1 p hp2
  have hgd : (s.take (p + 1)).drop p = [s.getD p 0] := by rw [J6.part_snoc (Nat.le_refl p) (Nat.lt_of_lt_of_le hpl (Nat.min_le_left _ _)), E5.drop_take_self, List.nil_append]
  have hcv : ((s.getD p 0).toNat : Int) = (c : Nat) := by have : (s.getD p 0).toNat = c := hcc.symm; omega
  have HW := Px.hid (jwant_yes b p s lim vs vo w h _ hw)
  have HJ := Px.hid h
  have HG := Px.hid (And.intro hgd (And.intro hcv (And.intro hpl hlen)))
  have HR := Px.hid hR
  have y0 : (194 : Int) ≤ (c : Int) := by omega
  have y1 : decide ((c : Int) ≤ 223) = false := by simp; omega
  have y2 : (224 : Int) ≤ (c : Int) := by omega
  have y3 : decide ((c : Int) ≤ 239) = false := by simp; omega
  have y4 : (240 : Int) ≤ (c : Int) := by omega
  have y5 : (c : Int) ≤ 244 := by omega
  have y6 : ((c : Int) == 240) = false := by simp; omega
  have y7 : ((c : Int) == 244) = false := by simp; omega
  obtain ⟨i0, hi0, hz0, hz1, hz2⟩ := info_parts Tryd.infoU8
  clear hw h hr hgd hcv hpl hlen hR hc hcc
  go_enter Tryd.func62, Tryd.ntmps62
  go_wp2_with fail
  refine HW.out.mono ?_
  rintro r w1 ⟨rfl, hs⟩
  have h1 := HJ.out.same hs
  obtain ⟨_, _, _, _, c5, _, _⟩ := h1.cells
  have f5 := h1.free 5
  have hbl := h1.lt
  have H1 := Px.hid (And.intro h1 (hs.it (b := b)))
  clear h1 hs
  go_upto_region 21 with fail
  obtain ⟨w2, hw2⟩ : ∃ w2, w2 = (w1.setCell ⟨b, 5, none⟩ (.int .i64 ((p : Int) + 1))).alloc (.cells #[.int .u8 (c : Nat)] 5 (0, 0)) := ⟨_, rfl⟩
  have HT := Px.hid (show JTxt w w2 b s lim (p + 1) vs vo (.slice (some ⟨w1.heap.size, 0, none⟩) 1 1) ((s.take (p + 1)).drop p) from by
    have h1 := H1.out.1
    have hsz := H1.out.2.size
    have hblt := HJ.out.lt
    have hm := h1.go H1.out.2 (p + 1)
    have hj : Jr w2 b s lim (p + 1) vs vo := by rw [hw2]; exact hm.1.keep (Below.heap_alloc _ _ b hm.1.lt)
    have hfr : Fr (It b) w w2 := by rw [hw2]; exact hm.2.alloc _
    have hss : (w1.setCell ⟨b, 5, none⟩ (.int .i64 ((p : Int) + 1))).heap.size = w1.heap.size := by simp
    refine ⟨hj, hfr, ?_, hblt⟩
    rw [HG.out.1]
    refine ⟨rfl, .inr ⟨w1.heap.size, 1, #[.int .u8 (c : Nat)], rfl, hsz, ?_, Nat.le_refl _, by unfold maxLen; omega, rfl, ?_⟩⟩
    · have := heap_alloc_new (w1.setCell ⟨b, 5, none⟩ (.int .i64 ((p : Int) + 1))) (.cells #[.int .u8 (c : Nat)] 5 (0, 0))
      rw [hss] at this
      rw [hw2]
      exact this
    · show [Value.int .u8 (c : Nat)] = [Value.int .u8 ((s.getD p 0).toNat : Nat)]
      rw [show (((s.getD p 0).toNat : Nat) : Int) = (c : Nat) from HG.out.2.1])
  rw [← hw2]
  clear hw2 H1 HJ HW c5 f5 hbl
  go_wp2
  go_loopw [4, 5, 7, 56] (fun a z v i wr => ∃ k, i = .int .i64 (k : Nat) ∧ k ≤ 3 ∧ a = .int .u8 (bnd 128 k 128 : Nat) ∧ z = .int .u8 (bnd 191 k 191 : Nat) ∧ Hid (JTxt w wr b s lim (p + 1 + k) vs vo v ((s.take (p + 1 + k)).drop p) ∧ R = D6.signN s lim (3 - k) (p + 1 + k) (bnd 128 k 128) (bnd 191 k 191) ∧ p + 1 + k ≤ min s.length lim.b.toNat)) (fun _ _ _ i _ => 3 - (intOf i).toNat)
  case atStart => exact ⟨0, rfl, by omega, rfl, rfl, Px.hid ⟨HT.out, HR.out, HG.out.2.2.1⟩⟩
  case round =>
    clear HT HR y0 y1 y2 y3 y4 y5 y6 y7
    obtain ⟨k, rfl, hk, rfl, rfl, HP⟩ := hrel
    obtain ⟨A, hA⟩ : ∃ A, bnd 128 k 128 = A := ⟨_, rfl⟩
    obtain ⟨Z, hZ⟩ : ∃ Z, bnd 191 k 191 = Z := ⟨_, rfl⟩
    rw [hA, hZ] at HP ⊢
    clear hA hZ
    by_cases hlt : k < 3
    · have hltz : (k : Int) < 3 := by omega
      obtain ⟨m, hm⟩ : ∃ m, 3 - k = m + 1 := ⟨3 - k - 1, by omega⟩
      have hps := HP.out.2.1
      rw [hm, jsignN_succ] at hps
      have hlen := HG.out.2.2.2
      have hle := HP.out.2.2
      obtain ⟨q, hq⟩ : ∃ q, p + 1 + k = q := ⟨_, rfl⟩
      have ht := HP.out.1
      rw [hq] at hps ht hle
      have HQ := Px.hid (And.intro hq hm)
      have hwq := wrap1 q (by omega)
      have HJ := Px.hid ht
      obtain ⟨W, hW⟩ : ∃ W, D6.want s lim q = W := ⟨_, rfl⟩
      rw [hW] at hps
      clear hq hm hle hlen HP
      cases W with
      | error e =>
        have HW := Px.hid (jwant_no b q s lim vs vo wr ht.j e hW)
        have HP := Px.hid (show R = .error e from hps)
        clear hps hW ht hlt
        go_wp2_with fail
        refine HW.out.mono ?_
        rintro r w3 ⟨rfl, hs⟩
        have HS := Px.hid hs
        clear hs
        unfold jpanics
        go_wp2
        exact ⟨rfl, JEsc.bad (by rw [HP.out]; rfl) (It.trans HJ.out.fr HS.out.it)⟩
      | ok z =>
        have HW := Px.hid (jwant_yes b q s lim vs vo wr ht.j z hW)
        obtain ⟨hql, _, hzc⟩ := want_lt6 hW
        have hgz : s.getD q 0 = UInt8.ofNat z := by rw [hzc]; unfold R6.at_; simp
        have hz256 : z < 256 := by rw [hzc]; exact at_lt s q
        have HZ := Px.hid (And.intro hql (And.intro hgz hz256))
        simp only at hps
        clear hW ht hzc hgz hql
        by_cases hbad : z < A ∨ Z < z
        · have HP := Px.hid (show R = .error ((q : Nat), 9) by rw [hps, if_pos (by simpa using hbad)])
          have g : z < A ∨ (decide (z < A) = false ∧ Z < z) := by
            by_cases e : z < A
            · exact .inl e
            · exact .inr ⟨decide_eq_false e, by omega⟩
          clear hps hbad hlt hz256
          rcases g with g | ⟨g, g2⟩
          all_goals
            go_wp2_with fail
            refine HW.out.mono ?_
            rintro r w3 ⟨rfl, hs⟩
            have HS := Px.hid hs
            obtain ⟨_, _, _, _, c5, _, _⟩ := (HJ.out.j.same hs).cells
            clear hs
            go_wp2_with fail
            refine (jwrong b _ _ _).mono ?_
            rintro r w4 ⟨rfl, rfl⟩
            unfold jpanics
            go_wp2
            exact ⟨rfl, JEsc.bad (by rw [HP.out]; rfl) (It.trans HJ.out.fr HS.out.it)⟩
        · have HP := Px.hid (show R = D6.signN s lim m (q + 1) 128 191 by rw [hps, if_neg (by simpa using hbad)])
          have g1 : decide (z < A) = false := by simp; omega
          have g2 : decide (Z < z) = false := by simp; omega
          have HLT := Px.hid hlt
          have hl4 : ((s.take q).drop p).length ≤ 4 := by rw [List.length_drop, List.length_take]; have := HQ.out.1; omega
          clear hps hbad hlt hz256
          obtain ⟨L, hL⟩ : ∃ L, (s.take q).drop p = L := ⟨_, rfl⟩
          rw [hL] at hl4
          have HJ2 := Px.hid (show JTxt w wr b s lim q vs vo u7 L from by rw [← hL]; exact HJ.out)
          have HL := Px.hid hL
          clear hL HJ
          go_wp2_with fail
          refine HW.out.mono ?_
          rintro r w3 ⟨rfl, hs⟩
          have H3 := Px.hid (HJ2.out.step (HJ2.out.j.same hs) hs.it)
          clear hs
          obtain ⟨va, vc, hv⟩ := row_len H3.out.row
          subst hv
          have c5 := H3.out.j.cells.2.2.2.2.1
          have f5 := H3.out.j.free 5
          have hbl := H3.out.j.lt
          have hnb : (Value.slice va L.length vc).ownBlock ≠ some b := fun e => by have := (World.ownsRow.lt H3.out.row b e).1; have := H3.out.nb; omega
          have HNB := Px.hid hnb
          clear hnb
          go_wp2_with (at_builtin; go_must (refine wpList_append_lies _ rfl _ _ _ rfl w.heap.size 5 i0 _ 1 1 Tryd.underlying62 hi0 hz0 hz1 hz2 rfl (by omega) (.slice va L.length vc) L.length (L.flatMap cByte) rfl (row_keep H3.out.row (fun k hk => Below.heap_alloc w3 _ k (World.ownsRow.lt H3.out.row k hk).2)) ⟨w3.heap.size, 0, none⟩ 1 1 [.int .u8 (z : Nat)] rfl rfl (World.news_of_block (cs := #[.int .u8 (z : Nat)]) (t := 5) (fr := (0, 0)) (heap_alloc_new w3 _)) (by simp [Value.oneCell']) (by omega) (by unfold maxLen; omega) (by omega) (by have := H3.out.fr.size; simp; omega) (w3.heap.size + 1) (by simp) ?_))
          intro gg cap w4 hown hgrow hat hltg
          have k5 := grown_cell1 hgrow c5 HNB.out
          have e5 := grown_free1 hgrow c5 f5 HNB.out
          have ht : JTxt w w4 b s lim q vs vo (.slice (some ⟨gg, 0, none⟩) (L.length + 1) cap) (L ++ [s.getD q 0]) := H3.out.grow (by
            rw [List.length_append, List.flatMap_append]
            rw [show Value.int .u8 (z : Nat) = .int .u8 ((s.getD q 0).toNat : Nat) from by rw [HZ.out.2.1]; exact (byte_cell z HZ.out.2.2).symm] at hown
            exact hown) (grown_alloc1 hgrow)
          have H4 := Px.hid (ht.move (q + 1))
          clear hown hgrow hat hltg ht c5 f5 hbl
          go_wp2
          go_roundw
          case rel =>
            refine ⟨k + 1, by go_num, HLT.out, rfl, rfl, Px.hid ?_⟩
            have hq := HQ.out.1
            have e1 : p + 1 + (k + 1) = q + 1 := by omega
            have e2 : 3 - (k + 1) = m := by have := HQ.out.2; omega
            rw [e1, e2, J6.part_snoc (by omega) (Nat.lt_of_lt_of_le HZ.out.1 (Nat.min_le_left _ _)), HL.out]
            exact ⟨H4.out, HP.out, HZ.out.1⟩
          case measure => have := HLT.out; simp [intOf]; omega
    · obtain rfl : k = 3 := by omega
      have hltz : ¬ ((3 : Nat) : Int) < 3 := by omega
      have HX := Px.hid (show R = .ok (p + 1 + 3) from HP.out.2.1)
      obtain ⟨va, vc, hv⟩ := row_len HP.out.1.row
      have HV := Px.hid hv
      clear hlt hltz hv
      go_wp2
      go_ret
      rw [HX.out]
      have hL : 0 < ((s.take (p + 1 + 3)).drop p).length ∧ ((s.take (p + 1 + 3)).drop p).length ≤ 4 := by rw [List.length_drop, List.length_take]; have := HP.out.2.2; omega
      exact ⟨_, rfl, owns0 HP.out.1.row, fun k hk => (World.ownsRow.lt HP.out.1.row k hk).1, hL.1, hL.2, HP.out.1.j, HP.out.1.fr⟩
theorem jsgn_any (b p c : Nat) (s : Bytes) (lim : Lim) (vs vo : Value) (hc : Cj s lim) (w : World) (h : Jr w b s lim p vs vo) (hw : D6.want s lim p = .ok c) :
    Calls Tryd.prog 62 #[.pointer (some ⟨b, 0, none⟩)] w (JEsc w b s lim vs vo (signR s p (D6.sign s lim p))) := by
  unfold D6.sign
  rw [hw]
  simp only
  rw [show D6.more c = J6.need c from rfl, show D6.least c = J6.lo c from rfl, show D6.most c = J6.hi c from rfl]
  by_cases h1 : c < 194 ∨ 244 < c
  · rw [J6.need0 h1, if_pos (by decide)]
    rcases h1 with h1 | h1
    · exact jsgn_lo b p c s lim vs vo w h hw h1
    · exact jsgn_hi b p c s lim vs vo w h hw h1
  · by_cases h2 : c ≤ 223
    · rw [J6.need1 ⟨by omega, h2⟩, J6.lo1 ⟨by omega, h2⟩, J6.hi1 ⟨by omega, h2⟩, if_neg (by decide)]
      exact jsgn_one b p c s lim vs vo hc w h hw ⟨by omega, h2⟩
    · by_cases h3 : c ≤ 239
      · by_cases e1 : c = 224
        · subst e1; exact jsgn_e0 b p s lim vs vo hc w h hw
        · by_cases e2 : c = 237
          · subst e2; exact jsgn_ed b p s lim vs vo hc w h hw
          · rw [J6.need2 ⟨by omega, h3⟩, J6.lo2 ⟨by omega, h3⟩, J6.hi2 ⟨by omega, h3⟩, if_neg (by decide), if_neg (by simpa using e1), if_neg (by simpa using e2)]
            exact jsgn_two b p c s lim vs vo hc w h hw ⟨by omega, h3, e1, e2⟩
      · by_cases e1 : c = 240
        · subst e1; exact jsgn_f0 b p s lim vs vo hc w h hw
        · by_cases e2 : c = 244
          · subst e2; exact jsgn_f4 b p s lim vs vo hc w h hw
          · rw [J6.need3 ⟨by omega, by omega⟩, J6.lo3 ⟨by omega, by omega⟩, J6.hi3 ⟨by omega, by omega⟩, if_neg (by decide), if_neg (by simpa using e1), if_neg (by simpa using e2)]
            exact jsgn_three b p c s lim vs vo hc w h hw ⟨by omega, by omega, e1, e2⟩
end Go.Proofs.YtahojodgmjmpnaaDoor
