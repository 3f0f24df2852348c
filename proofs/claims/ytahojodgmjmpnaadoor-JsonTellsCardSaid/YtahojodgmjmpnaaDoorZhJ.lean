/-
  The walk over the reference's sign, layer 16; places behind signs and escapes.
-/
import Derived.Test.YtahojodgmjmpnaaDoorZgJ
import Derived.Test.YtahojodgmjmpnaaDoorZeJ
namespace Go.Proofs.YtahojodgmjmpnaaDoor
open Go.RowKit Go.Px

theorem Ctx.lb {s : Bytes} {lim : Lim} (h : Ctx s lim) : lim.b ≤ 262144 := by
  have hm := h.may
  unfold Lim.may at hm
  simp only [Bool.and_eq_true, decide_eq_true_eq] at hm
  omega
theorem signN_succ (s : Bytes) (lim : Lim) (p m : Nat) (x : R6.St) (q : Nat) : R6.signN s lim p (m + 1) x q = match R6.want s lim x q with
    | (false, y) => (none, y)
    | (true, y) =>
      if R6.utf ((s.take (q + 1)).drop p) == ((s.take (q + 1)).drop p).length then (some (q + 1), y)
      else if !R6.begins ((s.take (q + 1)).drop p) then (none, R6.fault y q 9)
      else R6.signN s lim p m y (q + 1) := rfl
theorem sign_gt (s : Bytes) (lim : Lim) (p : Nat) : ∀ (m : Nat) (x : R6.St) (q r : Nat), (R6.signN s lim p m x q).1 = some r → q < r
  | 0, _, _, _, h => by cases h
  | m + 1, x, q, r, h => by
    rw [signN_succ] at h
    obtain ⟨⟨c, z⟩, hres⟩ : ∃ r, R6.want s lim x q = r := ⟨_, rfl⟩
    rw [hres] at h
    cases c with
    | false => cases h
    | true =>
      simp only at h
      split at h
      · have e : q + 1 = r := Option.some.inj h
        omega
      · split at h
        · cases h
        · have := sign_gt s lim p m z (q + 1) r h
          omega
theorem escape_gt (s : Bytes) (lim : Lim) (x : R6.St) (p : Nat) (l : Bytes) (q : Nat) (h : (R6.escape s lim x p).1 = some (l, q)) : p < q := by
  obtain ⟨⟨c, y⟩, hw⟩ : ∃ r, R6.want s lim x p = r := ⟨_, rfl⟩
  cases c with
  | false => rw [escape_no s lim x y p hw] at h; cases h
  | true =>
    rcases letter_cases (R6.at_ s p) with ⟨k, hk, h1, h2⟩ | hno
    · rw [escape_let s lim x y p k hk hw h1] at h
      simp only [Option.some.injEq, Prod.mk.injEq] at h
      omega
    · by_cases hu : R6.at_ s p = 117
      · rw [escape_u s lim x y p hw (letter_ne _ hno) hu] at h
        obtain ⟨⟨r1, z⟩, hres⟩ : ∃ r, R6.four s lim y (p + 1) = r := ⟨_, rfl⟩
        rw [hres] at h
        cases r1 with
        | none => cases h
        | some n =>
          unfold afterU at h
          simp only at h
          split at h
          · cases h
          · split at h
            · simp only [Option.some.injEq, Prod.mk.injEq] at h
              omega
            · rw [second_on] at h
              obtain ⟨⟨q1, u1⟩, e1⟩ : ∃ r, R6.is s lim z (p + 5) 92 = r := ⟨_, rfl⟩
              rw [e1] at h
              cases q1 with
              | false => cases h
              | true =>
                rw [secOn_true] at h
                obtain ⟨⟨q2, u2⟩, e2⟩ : ∃ r, R6.is s lim u1 (p + 6) 117 = r := ⟨_, rfl⟩
                rw [e2] at h
                cases q2 with
                | false => cases h
                | true =>
                  rw [secOn2_true] at h
                  obtain ⟨⟨r3, v⟩, e3⟩ : ∃ r, R6.four s lim u2 (p + 7) = r := ⟨_, rfl⟩
                  rw [e3] at h
                  cases r3 with
                  | none => cases h
                  | some m =>
                    unfold secOn3 at h
                    simp only at h
                    split at h
                    · cases h
                    · simp only [Option.some.injEq, Prod.mk.injEq] at h
                      omega
      · rw [escape_odd s lim x y p hw (letter_ne _ hno) hu] at h
        cases h
set_option maxRecDepth 100000 in
set_option maxHeartbeats 8000000 in
theorem rsign6 (b p : Nat) (s : Bytes) (lim : Lim) (x : R6.St) (vo : Value) (hc : Ctx s lim) (hp : p ≤ s.length) (w : World) (h : X6 w b s lim x vo) :
    Calls Tryd.prog 67 #[.pointer (some ⟨b, 0, none⟩), .int .i64 (p : Nat)] w (Step6 w b s lim vo (R6.sign s lim x p)) := by
  obtain ⟨R, hR⟩ : ∃ R, R = R6.sign s lim x p := ⟨_, rfl⟩
  rw [← hR]
  have hR2 : R6.signN s lim p (s.length + 1 - p) x p = R := hR.symm
  have H := Px.hid (And.intro h (And.intro hp (And.intro hc hR2)))
  clear h hp hc hR hR2
  go_enter Tryd.func67, Tryd.ntmps67
  go_wp2
  go_loopg [6] (s.length + 1 - p) (fun gk i wr => ∃ k y, i = .int .i64 (k : Nat) ∧ p ≤ k ∧ k ≤ s.length ∧ gk = s.length + 1 - k ∧ X6 wr b s lim y vo ∧ Fr (It b) w wr ∧ R6.signN s lim p gk y k = R)
  case atStart => exact ⟨p, x, rfl, Nat.le_refl _, H.out.2.1, rfl, H.out.1, Fr.refl _ _, H.out.2.2.2⟩
  case round =>
    obtain ⟨k, y, rfl, hpk, hk, hgk, hx, hfr, hps⟩ := hrel
    obtain ⟨g', rfl⟩ : ∃ g', gk = g' + 1 := ⟨gk - 1, by omega⟩
    rw [signN_succ] at hps
    have hlen := H.out.2.2.1.len
    have HC := Px.hid H.out.2.2.1
    have HW := Px.hid (want6 b k s lim y vo HC.out (by omega) wr hx)
    have hlt := fun z => want_lt (s := s) (lim := lim) (x := y) (p := k) (y := z)
    obtain ⟨⟨q, z⟩, hres⟩ : ∃ r, R6.want s lim y k = r := ⟨_, rfl⟩
    have hlt := hlt z
    have hlb := fun h => want_lb (s := s) (lim := lim) (x := y) (p := k) (y := z) h
    rw [hres] at HW hps hlt hlb
    have HF := Px.hid (And.intro hfr (And.intro hgk hpk))
    have hk2 : k ≤ 140737488355327 := by omega
    have hw1 := wrapP k 1 hk2 (by omega)
    clear hres hx H hfr hgk
    cases q with
    | false =>
      have HP := Px.hid hps
      clear hps hlt hlb hlen hpk hk
      go_wp2_with fail
      refine HW.out.mono ?_
      rintro e w' ⟨rfl, h1, h2⟩
      have H1 := Px.hid (And.intro h1 (It.trans HF.out.1 h2))
      clear h1 h2
      go_wp2
      go_ret2
      rw [← HP.out]
      exact ⟨rfl, H1.out.1, H1.out.2, fun q hq => by cases hq⟩
    | true =>
      have hkl := hlt rfl
      have hkb : k ≤ 262144 := by have h1 := hlb rfl; have h2 := HC.out.lb; omega
      clear hlb
      have hsl := slice_S s p (k + 1) (by omega) (by omega)
      obtain ⟨B, hB⟩ : ∃ B, B = (s.take (k + 1)).drop p := ⟨_, rfl⟩
      have hBl : B.length = k + 1 - p := by rw [hB, List.length_drop, List.length_take, Nat.min_eq_left (by omega)]
      simp only [← hB] at hsl
      simp only [← hB] at hps
      have hsl2 : ∀ w, (Instr.slice 9 (S s) (some (.int .i64 (p : Int))) (some (.int .i64 ((k : Int) + 1))) none).run Tryd.prog w = .ok (S B) w := fun w => by
        have := hsl w
        rw [show ((k + 1 : Nat) : Int) = (k : Int) + 1 by omega] at this
        exact this
      have hbs : (ByteArray.mk B.toArray).size = B.length := size_S B
      have HLT := Px.hid (And.intro hkl hBl)
      have hB6 : B.length ≤ 1000001 := by omega
      have HUT := Px.hid (fun w : World => utf_r6 B w (by unfold maxLen; omega))
      have HBG := Px.hid (fun w : World => begins6 B (by omega) (by omega) w)
      obtain ⟨U, hU⟩ : ∃ U, U = R6.utf B := ⟨_, rfl⟩
      obtain ⟨G, hG⟩ : ∃ G, G = R6.begins B := ⟨_, rfl⟩
      simp only [← hU] at HUT
      simp only [← hG] at HBG
      rw [← hU, ← hG] at hps
      obtain ⟨LB, hLB⟩ : ∃ LB, LB = B.length := ⟨_, rfl⟩
      rw [← hLB] at hps hbs hB6
      obtain ⟨e1, he1⟩ : ∃ e, ((U : Int) == (LB : Int)) = e := ⟨_, rfl⟩
      have hue : (U == LB) = e1 := by rw [← he1, Bool.eq_iff_iff, beq_iff_eq, beq_iff_eq]; omega
      rw [hue] at hps
      have HP := Px.hid hps
      clear hps hlt hlen hpk hk hkl hkb hsl hB hBl hU hG hLB hue
      cases e1 with
      | true =>
        go_wp2_with fail
        refine HW.out.mono ?_
        rintro e w1 ⟨rfl, h1, h2⟩
        have c0 := h1.c0
        have H1 := Px.hid (And.intro h1 (It.trans HF.out.1 h2))
        clear h1 h2
        go_wp2_with fail
        refine (HUT.out _).mono ?_
        rintro e w2 ⟨rfl, hs2⟩
        have H2 := Px.hid (And.intro (H1.out.1.same hs2) (It.trans H1.out.2 (hs2.fr _)))
        clear hs2
        go_wp2
        go_ret2
        rw [← HP.out]
        exact ⟨rfl, H2.out.1, H2.out.2, fun q hq => by
          have e : k + 1 = q := Option.some.inj hq
          have := HLT.out.1
          omega⟩
      | false =>
        cases G with
        | false =>
          go_wp2_with fail
          refine HW.out.mono ?_
          rintro e w1 ⟨rfl, h1, h2⟩
          have c0 := h1.c0
          have H1 := Px.hid (And.intro h1 (It.trans HF.out.1 h2))
          clear h1 h2
          go_wp2_with fail
          refine (HUT.out _).mono ?_
          rintro e w2 ⟨rfl, hs2⟩
          have H2 := Px.hid (And.intro (H1.out.1.same hs2) (It.trans H1.out.2 (hs2.fr _)))
          clear hs2
          go_wp2_with fail
          refine (HBG.out _).mono ?_
          rintro e w3 ⟨rfl, hs3⟩
          have H3 := Px.hid (And.intro (H2.out.1.same hs3) (It.trans H2.out.2 (hs3.fr _)))
          clear hs3
          go_wp2_with fail
          refine (fault6 b k 9 s lim z vo _ H3.out.1).mono ?_
          rintro e w4 ⟨rfl, h1, h2⟩
          have H4 := Px.hid (And.intro h1 (It.trans H3.out.2 h2))
          clear h1 h2
          go_wp2
          go_ret2
          rw [← HP.out]
          exact ⟨rfl, H4.out.1, H4.out.2, fun q hq => by cases hq⟩
        | true =>
          go_wp2_with fail
          refine HW.out.mono ?_
          rintro e w1 ⟨rfl, h1, h2⟩
          have c0 := h1.c0
          have H1 := Px.hid (And.intro h1 (It.trans HF.out.1 h2))
          clear h1 h2
          go_wp2_with fail
          refine (HUT.out _).mono ?_
          rintro e w2 ⟨rfl, hs2⟩
          have H2 := Px.hid (And.intro (H1.out.1.same hs2) (It.trans H1.out.2 (hs2.fr _)))
          clear hs2
          go_wp2_with fail
          refine (HBG.out _).mono ?_
          rintro e w3 ⟨rfl, hs3⟩
          have H3 := Px.hid (And.intro (H2.out.1.same hs3) (It.trans H2.out.2 (hs3.fr _)))
          clear hs3
          go_wp2
          go_roundg g'
          case measure => omega
          case rel => exact ⟨k + 1, z, by go_num, by have := HF.out.2.2; omega, HLT.out.1, by have := HF.out.2.1; omega, H3.out.1, H3.out.2, HP.out⟩
end Go.Proofs.YtahojodgmjmpnaaDoor
