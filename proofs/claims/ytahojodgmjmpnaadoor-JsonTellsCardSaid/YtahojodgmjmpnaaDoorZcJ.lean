/-
  The walks over the reference's reader of layer 16: pass, four, word.
-/
import Derived.Test.YtahojodgmjmpnaaDoorZbJ
namespace Go.Proofs.YtahojodgmjmpnaaDoor
open Go.RowKit Go.Px

/-- A place, or none, as two results. -/
def tupV : Option Nat → Value
  | some q => .tuple #[.int .i64 (q : Nat), .bool true]
  | none => .tuple #[.int .i64 0, .bool false]
/-- What a step of the reader leaves. -/
def Step6 (w : World) (b : Nat) (s : Bytes) (lim : Lim) (vo : Value) (res : Option Nat × R6.St) (r : Ending) (w' : World) : Prop :=
  r = .returned (tupV res.1) ∧ X6 w' b s lim res.2 vo ∧ Fr (It b) w w' ∧ ∀ q, res.1 = some q → q ≤ s.length
theorem It.trans {b : Nat} {w w1 w2 : World} (h : Fr (It b) w w1) (k : Fr (It b) w1 w2) : Fr (It b) w w2 := Fr.trans h k fun _ _ x => x
theorem passN_succ (s : Bytes) (lim : Lim) (m : Nat) (x : R6.St) (p : Nat) : R6.passN s lim (m + 1) x p = match R6.want s lim x p with
    | (false, y) => (none, y)
    | (true, y) => if R6.blank (R6.at_ s p) then R6.passN s lim m y (p + 1) else (some p, y) := rfl

set_option maxRecDepth 100000 in
set_option maxHeartbeats 4000000 in
theorem pass6 (b p : Nat) (s : Bytes) (lim : Lim) (x : R6.St) (vo : Value) (hc : Ctx s lim) (hp : p ≤ s.length) (w : World) (h : X6 w b s lim x vo) :
    Calls Tryd.prog 34 #[.pointer (some ⟨b, 0, none⟩), .int .i64 (p : Nat)] w (Step6 w b s lim vo (R6.pass s lim x p)) := by
  have H := Px.hid (And.intro h (And.intro hp hc))
  clear h hp hc
  go_enter Tryd.func34, Tryd.ntmps34
  go_wp2
  go_loopg [1] (s.length + 1 - p) (fun gk i wr => ∃ k y, i = .int .i64 (k : Nat) ∧ k ≤ s.length ∧ gk = s.length + 1 - k ∧ X6 wr b s lim y vo ∧ Fr (It b) w wr ∧ R6.passN s lim gk y k = R6.pass s lim x p)
  case atStart => exact ⟨p, x, rfl, H.out.2.1, rfl, H.out.1, Fr.refl _ _, rfl⟩
  case round =>
    obtain ⟨k, y, rfl, hk, hgk, hx, hfr, hps⟩ := hrel
    obtain ⟨g', rfl⟩ : ∃ g', gk = g' + 1 := ⟨gk - 1, by omega⟩
    rw [passN_succ] at hps
    have hlen := H.out.2.2.len
    have HW := Px.hid (want6 b k s lim y vo H.out.2.2 (by omega) wr hx)
    have hlt := fun z => want_lt (s := s) (lim := lim) (x := y) (p := k) (y := z)
    obtain ⟨⟨q, z⟩, hres⟩ : ∃ r, R6.want s lim y k = r := ⟨_, rfl⟩
    have hlt := hlt z
    rw [hres] at HW hps hlt
    have HC := Px.hid H.out.2.2
    have HF := Px.hid (And.intro hfr hgk)
    have hk2 : k ≤ 140737488355327 := by omega
    clear hres hx H hfr hlen hgk
    cases q with
    | false =>
      have HP := Px.hid hps
      clear hps hlt
      go_wp2_with fail
      refine HW.out.mono ?_
      rintro e w' ⟨rfl, h1, h2⟩
      have H1 := Px.hid (And.intro h1 (It.trans HF.out.1 h2))
      clear h1 h2
      go_wp2
      go_ret2
      rw [← HP.out]
      exact ⟨rfl, H1.out.1, H1.out.2, fun q hq => by cases hq⟩
    | true =>
      have hix := idx6 s k (hlt rfl)
      have HLT := Px.hid (hlt rfl)
      have HP := Px.hid hps
      clear hlt hps
      obtain ⟨t, ht⟩ : ∃ t, R6.at_ s k = t := ⟨_, rfl⟩
      simp only [ht] at hix
      rw [ht] at HP
      clear ht
      cases hbl : R6.blank t with
      | true =>
        have HP := Px.hid ((if_pos (c := R6.blank t = true) (t := R6.passN s lim g' z (k + 1)) (e := (some k, z)) hbl).symm.trans HP.out)
        have HB := Px.hid (fun w : World => (by have := blank6 t w; rw [hbl] at this; exact this : Calls Tryd.prog 37 #[.int .u8 (t : Nat)] w fun r w' => r = .returned (.bool true) ∧ w = w'))
        clear hbl
        go_wp2_with fail
        refine HW.out.mono ?_
        rintro e w' ⟨rfl, h1, h2⟩
        have c0 := h1.c0
        have H1 := Px.hid (And.intro h1 (It.trans HF.out.1 h2))
        clear h1 h2
        go_wp2_with fail
        refine (HB.out _).mono ?_
        rintro e w2 ⟨rfl, rfl⟩
        go_wp2
        go_roundg g'
        case measure => omega
        case rel => exact ⟨k + 1, z, by go_num, HLT.out, by have := HF.out.2; omega, H1.out.1, H1.out.2, HP.out⟩
      | false =>
        have HP := Px.hid ((if_neg (c := R6.blank t = true) (t := R6.passN s lim g' z (k + 1)) (e := (some k, z)) (by rw [hbl]; simp)).symm.trans HP.out)
        have HB := Px.hid (fun w : World => (by have := blank6 t w; rw [hbl] at this; exact this : Calls Tryd.prog 37 #[.int .u8 (t : Nat)] w fun r w' => r = .returned (.bool false) ∧ w = w'))
        clear hbl
        go_wp2_with fail
        refine HW.out.mono ?_
        rintro e w' ⟨rfl, h1, h2⟩
        have c0 := h1.c0
        have H1 := Px.hid (And.intro h1 (It.trans HF.out.1 h2))
        clear h1 h2
        go_wp2_with fail
        refine (HB.out _).mono ?_
        rintro e w2 ⟨rfl, rfl⟩
        go_wp2
        go_ret2
        rw [← HP.out]
        exact ⟨rfl, H1.out.1, H1.out.2, fun q hq => by cases hq; exact hk⟩
/-- Where a place stands that is handed back. -/
theorem pass_lt (s : Bytes) (lim : Lim) : ∀ (m : Nat) (x : R6.St) (p q : Nat), (R6.passN s lim m x p).1 = some q → q < s.length
  | 0, _, _, _, h => by cases h
  | m + 1, x, p, q, h => by
    rw [passN_succ] at h
    have hlt := fun z => want_lt (s := s) (lim := lim) (x := x) (p := p) (y := z)
    obtain ⟨⟨c, z⟩, hres⟩ : ∃ r, R6.want s lim x p = r := ⟨_, rfl⟩
    have hlt := hlt z
    rw [hres] at h hlt
    cases c with
    | false => cases h
    | true =>
      simp only at h
      split at h
      · exact pass_lt s lim m z (p + 1) q h
      · have e : p = q := Option.some.inj h
        rw [← e]
        exact hlt rfl

theorem fourN_succ (s : Bytes) (lim : Lim) (m : Nat) (x : R6.St) (p n : Nat) : R6.fourN s lim (m + 1) x p n = match R6.want s lim x p with
    | (false, y) => (none, y)
    | (true, y) => match R6.hex (R6.at_ s p) with
      | none => (none, R6.fault y p 9)
      | some h => R6.fourN s lim m y (p + 1) (16 * n + h) := rfl
/-- What four leaves. -/
def Four6 (w : World) (b : Nat) (s : Bytes) (lim : Lim) (vo : Value) (p : Nat) (res : Option Nat × R6.St) (r : Ending) (w' : World) : Prop :=
  r = .returned (tupV res.1) ∧ X6 w' b s lim res.2 vo ∧ Fr (It b) w w' ∧ ∀ q, res.1 = some q → q < 65536 ∧ p + 4 ≤ s.length
set_option maxRecDepth 100000 in
set_option maxHeartbeats 4000000 in
theorem four6 (b p : Nat) (s : Bytes) (lim : Lim) (x : R6.St) (vo : Value) (hc : Ctx s lim) (hp : p ≤ 140737488355427) (w : World) (h : X6 w b s lim x vo) :
    Calls Tryd.prog 74 #[.pointer (some ⟨b, 0, none⟩), .int .i64 (p : Nat)] w (Four6 w b s lim vo p (R6.four s lim x p)) := by
  have H := Px.hid (And.intro h hc)
  clear h hc
  go_enter Tryd.func74, Tryd.ntmps74
  go_wp2
  go_loopg [6, 7] 5 (fun gk n i wr => ∃ k N y, n = .int .i64 (N : Nat) ∧ i = .int .i64 (k : Nat) ∧ gk = 5 - k ∧ k ≤ 4 ∧ N < 16 ^ k ∧ (0 < k → p + k ≤ s.length) ∧ X6 wr b s lim y vo ∧ Fr (It b) w wr ∧ R6.fourN s lim (4 - k) y (p + k) N = R6.four s lim x p)
  case atStart => exact ⟨0, 0, x, rfl, rfl, rfl, by omega, by decide, fun e => absurd e (by omega), H.out.1, Fr.refl _ _, rfl⟩
  case round =>
    obtain ⟨k, N, y, rfl, rfl, hgk, hk, hN, hpk, hx, hfr, hps⟩ := hrel
    have HC := Px.hid H.out.2
    have HF := Px.hid (And.intro hfr (And.intro hgk (And.intro hN hpk)))
    have hN2 : N ≤ 1048576 := by
      have : (16 : Nat) ^ k ≤ 16 ^ 4 := Nat.pow_le_pow_right (by decide) hk
      omega
    have HX := Px.hid hx
    clear H hfr hgk hN hpk hx
    by_cases hk4 : k < 4
    · obtain ⟨m, hm⟩ : ∃ m, 4 - k = m + 1 := ⟨3 - k, by omega⟩
      rw [hm, fourN_succ] at hps
      have hkz : (k : Int) < 4 := by omega
      have HW := Px.hid (want6 b (p + k) s lim y vo HC.out (by omega) wr HX.out)
      have hlt := fun z => want_lt (s := s) (lim := lim) (x := y) (p := p + k) (y := z)
      obtain ⟨⟨q, z⟩, hres⟩ : ∃ r, R6.want s lim y (p + k) = r := ⟨_, rfl⟩
      have hlt := hlt z
      rw [hres] at HW hps hlt
      clear hres
      obtain ⟨t, ht⟩ : ∃ t, p + k = t := ⟨_, rfl⟩
      have hsum : (p : Int) + (k : Int) = (t : Nat) := by omega
      have hw1 : IntKind.i64.wrap ((p : Int) + (k : Int)) = (t : Nat) := by rw [hsum]; exact IntWalk.i64_in _ ⟨by omega, by omega⟩
      rw [ht] at hps HW hlt
      have HM := Px.hid (And.intro hm (And.intro ht hsum))
      clear hm ht hsum
      have HP := Px.hid hps
      clear hps
      cases q with
      | false =>
        clear hlt
        go_wp2_with fail
        refine HW.out.mono ?_
        rintro e w' ⟨rfl, h1, h2⟩
        have H1 := Px.hid (And.intro h1 (It.trans HF.out.1 h2))
        clear h1 h2
        go_wp2
        go_ret2
        rw [← HP.out]
        exact ⟨rfl, H1.out.1, H1.out.2, fun q hq => by cases hq⟩
      | true =>
        have hix := idx6 s t (hlt rfl)
        have HLT := Px.hid (hlt rfl)
        clear hlt
        have hby := at_lt s t
        obtain ⟨c, hcc⟩ : ∃ c, R6.at_ s t = c := ⟨_, rfl⟩
        simp only [hcc] at hix
        rw [hcc] at HP hby
        clear hcc
        have HH := Px.hid (fun w : World => hex6 c hby w)
        clear hby
        cases hh : R6.hex c with
        | none =>
          rw [hh] at HP HH
          clear hh
          go_wp2_with fail
          refine HW.out.mono ?_
          rintro e w' ⟨rfl, h1, h2⟩
          have c0 := h1.c0
          have H1 := Px.hid (And.intro h1 (It.trans HF.out.1 h2))
          clear h1 h2
          go_wp2_with fail
          refine (HH.out _).mono ?_
          rintro e w2 ⟨rfl, rfl⟩
          unfold hexV
          go_wp2_with fail
          refine (fault6 b t 9 s lim z vo _ H1.out.1).mono ?_
          rintro e w3 ⟨rfl, h1, h2⟩
          have H2 := Px.hid (And.intro h1 (It.trans H1.out.2 h2))
          clear h1 h2
          go_wp2
          go_ret2
          rw [← HP.out]
          exact ⟨rfl, H2.out.1, H2.out.2, fun q hq => by cases hq⟩
        | some g =>
          have hg16 := hex_lt hh
          rw [hh] at HP HH
          clear hh
          have hw2 : IntKind.i64.wrap (16 * (N : Int)) = 16 * (N : Int) := IntWalk.i64_in _ ⟨by omega, by omega⟩
          have hw3 : IntKind.i64.wrap (16 * (N : Int) + (g : Int)) = 16 * (N : Int) + (g : Int) := IntWalk.i64_in _ ⟨by omega, by omega⟩
          have hg0 : decide ((g : Int) < 0) = false := by simp
          have HG := Px.hid hg16
          clear hg16
          go_wp2_with fail
          refine HW.out.mono ?_
          rintro e w' ⟨rfl, h1, h2⟩
          have c0 := h1.c0
          have H1 := Px.hid (And.intro h1 (It.trans HF.out.1 h2))
          clear h1 h2
          go_wp2_with fail
          refine (HH.out _).mono ?_
          rintro e w2 ⟨rfl, rfl⟩
          unfold hexV
          go_wp2
          go_roundg (4 - k)
          case measure => have := HF.out.2.1; omega
          case rel =>
            refine ⟨k + 1, 16 * N + g, z, by go_num, by go_num, by have := HF.out.2.1; omega, by omega, ?_, fun _ => ?_, H1.out.1, H1.out.2, ?_⟩
            · have := HF.out.2.2.1
              have := HG.out
              rw [Nat.pow_succ]
              omega
            · have := HLT.out
              have := HM.out.2.1
              omega
            · have e1 : 4 - (k + 1) = m := by have := HM.out.1; omega
              have e2 : p + (k + 1) = t + 1 := by have := HM.out.2.1; omega
              rw [e1, e2]
              exact HP.out
    · have hk4' : k = 4 := by omega
      subst hk4'
      have HP := Px.hid hps
      clear hps hk4
      go_wp2
      go_ret2
      rw [← HP.out]
      exact ⟨rfl, HX.out, HF.out.1, fun q hq => by
        have e : N = q := Option.some.inj hq
        have h1 := HF.out.2.2.1
        have h2 := HF.out.2.2.2 (by omega)
        rw [← e]
        exact ⟨h1, h2⟩⟩

set_option maxRecDepth 100000 in
set_option maxHeartbeats 4000000 in
theorem word6 (b p : Nat) (s l : Bytes) (lim : Lim) (x : R6.St) (vo : Value) (hc : Ctx s lim) (hp : p ≤ s.length) (hl : l.length ≤ 5) (w : World) (h : X6 w b s lim x vo) :
    Calls Tryd.prog 54 #[.pointer (some ⟨b, 0, none⟩), .int .i64 (p : Nat), S l] w (Step6 w b s lim vo (R6.wordN s lim l x p)) := by
  have H := Px.hid (And.intro h (And.intro hc hp))
  have hlen := hc.len
  have hp2 : p ≤ 140737488355327 := by omega
  have hsz : (ByteArray.mk l.toArray).size = l.length := size_S l
  clear h hc hp hlen
  go_enter Tryd.func54, Tryd.ntmps54
  go_wp2
  go_loopw [8] (fun i wr => ∃ k y, i = .int .i64 (k : Nat) ∧ k ≤ l.length ∧ p + k ≤ s.length ∧ X6 wr b s lim y vo ∧ Fr (It b) w wr ∧ R6.wordN s lim (l.drop k) y (p + k) = R6.wordN s lim l x p) (fun i _ => l.length - (intOf i).toNat)
  case atStart => exact ⟨0, x, rfl, Nat.zero_le _, H.out.2.2, H.out.1, Fr.refl _ _, by simp⟩
  case round =>
    obtain ⟨k, y, rfl, hk, hpk, hx, hfr, hps⟩ := hrel
    have HC := Px.hid H.out.2.1
    have HX := Px.hid hx
    have HF := Px.hid (And.intro hfr hpk)
    clear H hx hfr hpk
    by_cases hlt : k < l.length
    · have hltz : (k : Int) < (l.length : Int) := by omega
      rw [List.drop_eq_getElem_cons hlt] at hps
      obtain ⟨c, hcc⟩ : ∃ c, l[k] = c := ⟨_, rfl⟩
      rw [hcc] at hps
      have hidx : ∀ w', (Instr.index 9 (S l) (.int .i64 (k : Int))).run Tryd.prog w' = .ok (.int .u8 c.toNat) w' := fun w' => by
        have e := idx_S l k hlt w'
        have hg : l.getD k 0 = c := by rw [← hcc]; simp [hlt]
        rw [hg] at e
        exact e
      have hps : (match R6.is s lim y (p + k) c.toNat with
        | (false, z) => (none, z)
        | (true, z) => R6.wordN s lim (l.drop (k + 1)) z (p + k + 1)) = R6.wordN s lim l x p := hps
      have HI := Px.hid (is6 b (p + k) c.toNat s lim y vo HC.out (by omega) wr HX.out)
      have hil : ∀ z, R6.is s lim y (p + k) c.toNat = (true, z) → p + k < s.length := fun z hz => by
        unfold R6.is at hz
        have hl2 := fun z => want_lt (s := s) (lim := lim) (x := y) (p := p + k) (y := z)
        obtain ⟨⟨q, z2⟩, hres⟩ : ∃ r, R6.want s lim y (p + k) = r := ⟨_, rfl⟩
        rw [hres] at hz
        cases q with
        | false => cases hz
        | true => exact hl2 z2 hres
      obtain ⟨⟨q, z⟩, hres⟩ : ∃ r, R6.is s lim y (p + k) c.toNat = r := ⟨_, rfl⟩
      have hil := hil z
      rw [hres] at hps HI hil
      clear hres
      obtain ⟨t, ht⟩ : ∃ t, p + k = t := ⟨_, rfl⟩
      have hsum : (p : Int) + (k : Int) = (t : Nat) := by omega
      have hw1 : IntKind.i64.wrap ((p : Int) + (k : Int)) = (t : Nat) := by rw [hsum]; exact IntWalk.i64_in _ ⟨by omega, by omega⟩
      rw [ht] at hps HI hil
      have HP := Px.hid (And.intro hps (And.intro ht hlt))
      clear hps ht hsum hlt hcc
      cases q with
      | false =>
        clear hil
        go_wp2_with fail
        refine HI.out.mono ?_
        rintro e w' ⟨rfl, h1, h2⟩
        have H1 := Px.hid (And.intro h1 (It.trans HF.out.1 h2))
        clear h1 h2
        go_wp2
        go_ret2
        rw [← HP.out.1]
        exact ⟨rfl, H1.out.1, H1.out.2, fun q hq => by cases hq⟩
      | true =>
        have HL := Px.hid (hil rfl)
        clear hil
        go_wp2_with fail
        refine HI.out.mono ?_
        rintro e w' ⟨rfl, h1, h2⟩
        have H1 := Px.hid (And.intro h1 (It.trans HF.out.1 h2))
        clear h1 h2
        go_wp2
        go_roundw
        case rel =>
          refine ⟨k + 1, z, by go_num, HP.out.2.2, ?_, H1.out.1, H1.out.2, ?_⟩
          · have := HL.out; have := HP.out.2.1; omega
          · rw [show p + (k + 1) = t + 1 by have := HP.out.2.1; omega]
            exact HP.out.1
        case measure => have := HP.out.2.2; simp [intOf]; omega
    · have hlt' : ¬ (k : Int) < (l.length : Int) := by omega
      have hkl : k = l.length := by omega
      subst hkl
      rw [List.drop_length] at hps
      have HP := Px.hid hps
      have hw1 : IntKind.i64.wrap ((p : Int) + (l.length : Int)) = (p : Int) + (l.length : Int) := IntWalk.i64_in _ ⟨by omega, by omega⟩
      clear hps hlt
      go_wp2
      go_ret2
      rw [← HP.out]
      refine ⟨?_, HX.out, HF.out.1, fun q hq => ?_⟩
      · show _ = Ending.returned (.tuple #[.int .i64 ((p + l.length : Nat) : Int), .bool true])
        rw [show ((p + l.length : Nat) : Int) = (p : Int) + (l.length : Int) by omega]
        rfl
      · have e : p + l.length = q := Option.some.inj hq
        rw [← e]
        exact HF.out.2
end Go.Proofs.YtahojodgmjmpnaaDoor
