/-
  The walks over the reference's reader of layer 16: Want, fault, blank, digit, hex, is, pass, four, word.
-/
import Derived.Test.YtahojodgmjmpnaaDoorZaJ
import Derived.Test.YtahojodgmjmpnaaDoorGdJ
namespace Go.Proofs.YtahojodgmjmpnaaDoor
open Go.RowKit Go.Px

/-- How a reader of layer 16 lies in memory. -/
structure X6 (w : World) (b : Nat) (s : Bytes) (lim : Lim) (x : R6.St) (vo : Value) : Prop where
  rd : Rd w b 82 s lim x.r (.slice none 0 0) [vo]
  out : Owns w 58 3 cVal vo x.out
  ob : Apart vo.ownBlock (some b)
/-- A text and limits that may be. -/
structure Ctx (s : Bytes) (lim : Lim) : Prop where
  len : s.length ≤ 140737488355327
  may : lim.may = true
section
variable {w w' : World} {b : Nat} {s : Bytes} {lim : Lim} {x : R6.St} {vo : Value}
theorem X6.fr (h : X6 w b s lim x vo) {r' : R5.St} (hr : Rd w' b 82 s lim r' (.slice none 0 0) [vo]) (hf : Fr (It b) w w') : X6 w' b s lim { x with r := r' } vo :=
  ⟨hr, h.out.fr hf (fun k hk e => h.ob k hk (by rw [show k = b from e])), h.ob⟩
theorem X6.same (h : X6 w b s lim x vo) (hs : Same w w') : X6 w' b s lim x vo := ⟨h.rd.same hs, Owns.same h.out hs, h.ob⟩
theorem X6.drewN (h : X6 w b s lim x vo) (n : Nat) : X6 (w.drewN n) b s lim x vo := ⟨h.rd.drewN n, h.out.drewN n, h.ob⟩
theorem X6.alloc (h : X6 w b s lim x vo) (o : Obj) : X6 (w.alloc o) b s lim x vo := ⟨h.rd.alloc o, h.out.alloc o, h.ob⟩
theorem X6.lt (h : X6 w b s lim x vo) : b < w.heap.size := h.rd.lt
theorem X6.c0 (h : X6 w b s lim x vo) : w.cell? ⟨b, 0, none⟩ = some (S s) := h.rd.cells.1
end
theorem Ctx.b {s : Bytes} {lim : Lim} (h : Ctx s lim) : 1 ≤ lim.b ∧ lim.b ≤ 262144 := by
  have hm := h.may
  unfold Lim.may at hm
  simp only [Bool.and_eq_true, decide_eq_true_eq] at hm
  omega
theorem want6 (b p : Nat) (s : Bytes) (lim : Lim) (x : R6.St) (vo : Value) (hc : Ctx s lim) (hp : p ≤ 140737490355327) (w : World) (h : X6 w b s lim x vo) :
    Calls Tryd.prog 36 #[.pointer (some ⟨b, 0, none⟩), .int .i64 (p : Nat)] w fun r w' => r = .returned (.bool (R6.want s lim x p).1) ∧ X6 w' b s lim (R6.want s lim x p).2 vo ∧ Fr (It b) w w' := by
  refine (rwant_any b _ p s lim x.r _ _ w h.rd (by have := hc.len; unfold maxLen; omega) hc.b.1 hc.b.2 (by unfold maxLen; omega)).mono ?_
  rintro r w' ⟨rfl, h1, h2⟩
  exact ⟨rfl, h.fr h1 h2, h2⟩
theorem take6 (b p : Nat) (s : Bytes) (lim : Lim) (x : R6.St) (vo : Value) (w : World) (h : X6 w b s lim x vo) :
    Calls Tryd.prog 55 #[.pointer (some ⟨b, 0, none⟩), .int .i64 (p : Nat)] w fun r w' => r = .returned (.tuple #[]) ∧ X6 w' b s lim (R6.take x p) vo ∧ Fr (It b) w w' := by
  refine (rtake_any b _ p s lim x.r _ _ w h.rd).mono ?_
  rintro r w' ⟨rfl, h1, h2⟩
  exact ⟨rfl, h.fr h1 h2, h2⟩
theorem fault6 (b : Nat) (p e : Int) (s : Bytes) (lim : Lim) (x : R6.St) (vo : Value) (w : World) (h : X6 w b s lim x vo) :
    Calls Tryd.prog 38 #[.pointer (some ⟨b, 0, none⟩), .int .i64 p, .int .i64 e] w fun r w' => r = .returned (.bool false) ∧ X6 w' b s lim (R6.fault x p e) vo ∧ Fr (It b) w w' := by
  obtain ⟨_, _, _, _, c6, c7, _, _, _⟩ := h.rd.cells
  have f6 := h.rd.free 6
  have f7 := h.rd.free 7
  have h1 := (h.rd.setErr e).setPlace p
  have h2 : Fr (It b) w ((w.setCell ⟨b, 6, none⟩ (.int .i64 e)).setCell ⟨b, 7, none⟩ (.int .i64 p)) := (It.set _).trans (It.set _) (fun _ _ h => h)
  have H := Px.hid (And.intro (h.fr h1 h2) h2)
  clear h h1 h2
  go_enter Tryd.func38, Tryd.ntmps38
  go_wp2
  go_ret
  exact ⟨rfl, H.out.1, H.out.2⟩
theorem blank6 (z : Nat) (w : World) : Calls Tryd.prog 37 #[.int .u8 (z : Nat)] w fun r w' => r = .returned (.bool (R6.blank z)) ∧ w = w' := by
  have hb : R6.blank z = (((z : Int) == 32) || ((z : Int) == 9) || ((z : Int) == 10) || ((z : Int) == 13)) := by
    unfold R6.blank
    have e : ∀ k : Nat, (z == k) = ((z : Int) == (k : Int)) := fun k => by rw [Bool.eq_iff_iff, beq_iff_eq, beq_iff_eq]; omega
    rw [e 32, e 9, e 10, e 13]
    rfl
  rw [hb]
  clear hb
  obtain ⟨q1, h1⟩ : ∃ q, ((z : Int) == 32) = q := ⟨_, rfl⟩
  obtain ⟨q2, h2⟩ : ∃ q, ((z : Int) == 9) = q := ⟨_, rfl⟩
  obtain ⟨q3, h3⟩ : ∃ q, ((z : Int) == 10) = q := ⟨_, rfl⟩
  obtain ⟨q4, h4⟩ : ∃ q, ((z : Int) == 13) = q := ⟨_, rfl⟩
  rw [h1, h2, h3, h4]
  cases q1 <;> cases q2 <;> cases q3 <;> cases q4 <;>
    (go_enter Tryd.func37, Tryd.ntmps37
     go_wp2
     go_ret
     exact ⟨rfl, rfl⟩)
theorem digit6 (z : Nat) (w : World) : Calls Tryd.prog 50 #[.int .u8 (z : Nat)] w fun r w' => r = .returned (.bool (R6.digit z)) ∧ w = w' := by
  by_cases h1 : 48 ≤ z
  · have d1 : (48 : Int) ≤ (z : Int) := by omega
    by_cases h2 : z ≤ 57
    · have d2 : (z : Int) ≤ 57 := by omega
      have HR := Px.hid (show R6.digit z = true by unfold R6.digit; simp [h1, h2])
      clear h1 h2
      go_enter Tryd.func50, Tryd.ntmps50
      go_wp2
      go_ret
      rw [HR.out]
      exact ⟨rfl, rfl⟩
    · have d2 : decide ((z : Int) ≤ 57) = false := by simp; omega
      have HR := Px.hid (show R6.digit z = false by unfold R6.digit; simp [h2])
      clear h1 h2
      go_enter Tryd.func50, Tryd.ntmps50
      go_wp2
      go_ret
      rw [HR.out]
      exact ⟨rfl, rfl⟩
  · have d1 : decide ((48 : Int) ≤ (z : Int)) = false := by simp; omega
    have HR := Px.hid (show R6.digit z = false by unfold R6.digit; simp [h1])
    clear h1
    go_enter Tryd.func50, Tryd.ntmps50
    go_wp2
    go_ret
    rw [HR.out]
    exact ⟨rfl, rfl⟩
/-- A hexadecimal digit's number, or -1. -/
def hexV : Option Nat → Int
  | some h => (h : Nat)
  | none => -1
theorem hex6 (z : Nat) (hz : z < 256) (w : World) : Calls Tryd.prog 79 #[.int .u8 (z : Nat)] w fun r w' => r = .returned (.int .i64 (hexV (R6.hex z))) ∧ w = w' := by
  cases hd : R6.digit z with
  | true =>
    have hb : 48 ≤ z ∧ z ≤ 57 := by unfold R6.digit at hd; simpa using hd
    have HR := Px.hid (show hexV (R6.hex z) = (z : Int) - 48 by unfold R6.hex; rw [if_pos hd]; show ((z - 48 : Nat) : Int) = _; omega)
    have hw : IntKind.u8.wrap ((z : Int) - 48) = (z : Int) - 48 := IntWalk.u8_in _ ⟨by omega, by omega⟩
    have hw2 : IntKind.i64.wrap ((z : Int) - 48) = (z : Int) - 48 := IntWalk.i64_in _ ⟨by omega, by omega⟩
    have HD := Px.hid (digit6 z w)
    rw [hd] at HD
    clear hd hb
    go_enter Tryd.func79, Tryd.ntmps79
    go_wp2_with fail
    refine HD.out.mono ?_
    rintro e w' ⟨rfl, rfl⟩
    go_wp2
    go_ret
    rw [HR.out]
    exact ⟨rfl, rfl⟩
  | false =>
    have HD := Px.hid (digit6 z w)
    rw [hd] at HD
    have hnd : ¬ (R6.digit z = true) := by rw [hd]; simp
    by_cases h1 : 97 ≤ z ∧ z ≤ 102
    · have HR := Px.hid (show hexV (R6.hex z) = (z : Int) - 97 + 10 by unfold R6.hex; rw [if_neg hnd, if_pos (by simp [h1])]; show ((z - 87 : Nat) : Int) = _; omega)
      have hw : IntKind.u8.wrap ((z : Int) - 97) = (z : Int) - 97 := IntWalk.u8_in _ ⟨by omega, by omega⟩
      have hw2 : IntKind.i64.wrap ((z : Int) - 97) = (z : Int) - 97 := IntWalk.i64_in _ ⟨by omega, by omega⟩
      have hw3 : IntKind.i64.wrap ((z : Int) - 97 + 10) = (z : Int) - 97 + 10 := IntWalk.i64_in _ ⟨by omega, by omega⟩
      have d1 : (97 : Int) ≤ (z : Int) := by omega
      have d2 : (z : Int) ≤ 102 := by omega
      clear hd hnd h1
      go_enter Tryd.func79, Tryd.ntmps79
      go_wp2_with fail
      refine HD.out.mono ?_
      rintro e w' ⟨rfl, rfl⟩
      go_wp2
      go_ret
      rw [HR.out]
      exact ⟨rfl, rfl⟩
    · by_cases h2 : 65 ≤ z ∧ z ≤ 70
      · have HR := Px.hid (show hexV (R6.hex z) = (z : Int) - 65 + 10 by unfold R6.hex; rw [if_neg hnd, if_neg (by simpa using h1), if_pos (by simp [h2])]; show ((z - 55 : Nat) : Int) = _; omega)
        have hw : IntKind.u8.wrap ((z : Int) - 65) = (z : Int) - 65 := IntWalk.u8_in _ ⟨by omega, by omega⟩
        have hw2 : IntKind.i64.wrap ((z : Int) - 65) = (z : Int) - 65 := IntWalk.i64_in _ ⟨by omega, by omega⟩
        have hw3 : IntKind.i64.wrap ((z : Int) - 65 + 10) = (z : Int) - 65 + 10 := IntWalk.i64_in _ ⟨by omega, by omega⟩
        have d0 : decide ((97 : Int) ≤ (z : Int)) = false := by simp; omega
        have d1 : (65 : Int) ≤ (z : Int) := by omega
        have d2 : (z : Int) ≤ 70 := by omega
        clear hd hnd h1 h2
        go_enter Tryd.func79, Tryd.ntmps79
        go_wp2_with fail
        refine HD.out.mono ?_
        rintro e w' ⟨rfl, rfl⟩
        go_wp2
        go_ret
        rw [HR.out]
        exact ⟨rfl, rfl⟩
      · have HR := Px.hid (show hexV (R6.hex z) = -1 by unfold R6.hex; rw [if_neg hnd, if_neg (by simpa using h1), if_neg (by simpa using h2)]; rfl)
        have g1 : decide ((97 : Int) ≤ (z : Int)) = false ∨ ((97 : Int) ≤ (z : Int) ∧ decide ((z : Int) ≤ 102) = false) := by
          by_cases e : 97 ≤ z
          · exact .inr ⟨by omega, by simp; omega⟩
          · exact .inl (by simp; omega)
        have g2 : decide ((65 : Int) ≤ (z : Int)) = false ∨ ((65 : Int) ≤ (z : Int) ∧ decide ((z : Int) ≤ 70) = false) := by
          by_cases e : 65 ≤ z
          · exact .inr ⟨by omega, by simp; omega⟩
          · exact .inl (by simp; omega)
        clear hd hnd h1 h2
        rcases g1 with g1 | ⟨g1, g1'⟩ <;> rcases g2 with g2 | ⟨g2, g2'⟩ <;>
          (go_enter Tryd.func79, Tryd.ntmps79
           go_wp2_with fail
           refine HD.out.mono ?_
           rintro e w' ⟨rfl, rfl⟩
           go_wp2
           go_ret
           rw [HR.out]
           exact ⟨rfl, rfl⟩)
theorem want_lb {s : Bytes} {lim : Lim} {x : R6.St} {p : Nat} {y : R6.St} (h : R6.want s lim x p = (true, y)) : (p : Int) < lim.b := by
  unfold R6.want R5.want at h
  by_cases h1 : p < s.length ∧ (p : Int) < lim.b
  · exact h1.2
  · rw [if_neg h1] at h
    split at h <;> simp at h
theorem want_lt {s : Bytes} {lim : Lim} {x : R6.St} {p : Nat} {y : R6.St} (h : R6.want s lim x p = (true, y)) : p < s.length := by
  unfold R6.want R5.want at h
  by_cases h1 : p < s.length ∧ (p : Int) < lim.b
  · exact h1.1
  · rw [if_neg h1] at h
    split at h <;> simp at h
theorem idx6 (s : Bytes) (p : Nat) (hp : p < s.length) (w : World) : (Instr.index 9 (S s) (.int .i64 (p : Int))).run Tryd.prog w = .ok (.int .u8 (R6.at_ s p : Nat)) w := idx_S s p hp w
theorem at_lt (s : Bytes) (p : Nat) : R6.at_ s p < 256 := UInt8.toNat_lt _
set_option maxHeartbeats 1000000 in
theorem is6 (b p c : Nat) (s : Bytes) (lim : Lim) (x : R6.St) (vo : Value) (hc : Ctx s lim) (hp : p ≤ 140737490355327) (w : World) (h : X6 w b s lim x vo) :
    Calls Tryd.prog 68 #[.pointer (some ⟨b, 0, none⟩), .int .i64 (p : Nat), .int .u8 (c : Nat)] w fun r w' => r = .returned (.bool (R6.is s lim x p c).1) ∧ X6 w' b s lim (R6.is s lim x p c).2 vo ∧ Fr (It b) w w' := by
  have HW := Px.hid (want6 b p s lim x vo hc hp w h)
  have hlt := fun y => want_lt (s := s) (lim := lim) (x := x) (p := p) (y := y)
  obtain ⟨⟨q, y⟩, hres⟩ : ∃ r, R6.want s lim x p = r := ⟨_, rfl⟩
  have HR := Px.hid (show R6.is s lim x p c = match (q, y) with
    | (false, y) => (false, y)
    | (true, y) => if R6.at_ s p == c then (true, y) else (false, R6.fault y p 9) by unfold R6.is; rw [hres]; cases q <;> rfl)
  rw [hres] at HW
  have hlt := hlt y
  rw [hres] at hlt
  clear hres h
  cases q with
  | false =>
    clear hlt
    go_enter Tryd.func68, Tryd.ntmps68
    go_wp2_with fail
    refine HW.out.mono ?_
    rintro e w' ⟨rfl, h1, h2⟩
    have H1 := Px.hid (And.intro h1 h2)
    clear h1 h2
    go_wp2
    go_ret
    rw [HR.out]
    exact ⟨rfl, H1.out.1, H1.out.2⟩
  | true =>
    have hix := idx6 s p (hlt rfl)
    clear hlt
    obtain ⟨z, hz⟩ : ∃ z, R6.at_ s p = z := ⟨_, rfl⟩
    rw [hz] at HR
    simp only [hz] at hix
    clear hz
    by_cases hzc : z = c
    · subst hzc
      have HR := Px.hid (HR.out.trans (if_pos (by simp)))
      go_enter Tryd.func68, Tryd.ntmps68
      go_wp2_with fail
      refine HW.out.mono ?_
      rintro e w' ⟨rfl, h1, h2⟩
      have c0 := h1.c0
      have H1 := Px.hid (And.intro h1 h2)
      clear h1 h2
      go_wp2
      go_ret
      rw [HR.out]
      exact ⟨rfl, H1.out.1, H1.out.2⟩
    · have HR := Px.hid (HR.out.trans (if_neg (by simpa using hzc)))
      have hne : ((z : Int) == (c : Int)) = false := by simp; omega
      clear hzc
      go_enter Tryd.func68, Tryd.ntmps68
      go_wp2_with fail
      refine HW.out.mono ?_
      rintro e w' ⟨rfl, h1, h2⟩
      have c0 := h1.c0
      have H1 := Px.hid (And.intro h1 h2)
      clear h1 h2
      go_wp2_with fail
      refine (fault6 b p 9 s lim y vo _ H1.out.1).mono ?_
      rintro e w2 ⟨rfl, h1, h2⟩
      have H2 := Px.hid (And.intro h1 (H1.out.2.trans h2 (fun _ _ x => x)))
      clear h1 h2
      go_wp2
      go_ret
      rw [HR.out]
      exact ⟨rfl, H2.out.1, H2.out.2⟩
end Go.Proofs.YtahojodgmjmpnaaDoor
