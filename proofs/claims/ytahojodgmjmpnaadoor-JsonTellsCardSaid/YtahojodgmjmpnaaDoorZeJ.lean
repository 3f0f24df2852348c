/-
  The walk over the reference's escape, layer 16 (printed by gen_ze.py).
-/
import Derived.Test.YtahojodgmjmpnaaDoorZdJ
import Derived.Test.YtahojodgmjmpnaaDoorGdJ
namespace Go.Proofs.YtahojodgmjmpnaaDoor
open Go.RowKit Go.Px

def escV : Option (Bytes × Nat) → Value
  | some (b, q) => .tuple #[S b, .int .i64 (q : Nat), .bool true]
  | none => .tuple #[.string ⟨#[]⟩, .int .i64 0, .bool false]
/-- What escape and text leave. -/
def Esc6 (w : World) (b : Nat) (s : Bytes) (lim : Lim) (vo : Value) (m : Nat) (res : Option (Bytes × Nat) × R6.St) (r : Ending) (w' : World) : Prop :=
  r = .returned (escV res.1) ∧ X6 w' b s lim res.2 vo ∧ Fr (It b) w w' ∧ ∀ l q, res.1 = some (l, q) → q ≤ s.length ∧ l.length ≤ m
def letL : List UInt8 := [34, 92, 47, 98, 102, 110, 114, 116]
def letB : List UInt8 := [34, 92, 47, 8, 12, 10, 13, 9]
theorem letter_at : ∀ k, k < 8 → R6.letter (letL.getD k 0).toNat = some (letB.getD k 0) := by decide
theorem letter_ne (c : Nat) (h : ∀ k, k < 8 → (letL.getD k 0).toNat ≠ c) : R6.letter c = none := by
  have h0 := h 0 (by omega)
  have h1 := h 1 (by omega)
  have h2 := h 2 (by omega)
  have h3 := h 3 (by omega)
  have h4 := h 4 (by omega)
  have h5 := h 5 (by omega)
  have h6 := h 6 (by omega)
  have h7 := h 7 (by omega)
  simp only [letL, List.getD_cons_zero, List.getD_cons_succ] at h0 h1 h2 h3 h4 h5 h6 h7
  unfold R6.letter
  simp only [beq_iff_eq]
  rw [if_neg (fun e => h0 e.symm), if_neg (fun e => h1 e.symm), if_neg (fun e => h2 e.symm), if_neg (fun e => h3 e.symm), if_neg (fun e => h4 e.symm), if_neg (fun e => h5 e.symm), if_neg (fun e => h6 e.symm), if_neg (fun e => h7 e.symm)]
/-- Where a letter stands, if it is one. -/
theorem letter_cases (c : Nat) : (∃ k, k < 8 ∧ (letL.getD k 0).toNat = c ∧ ∀ j, j < k → (letL.getD j 0).toNat ≠ c) ∨ (∀ k, k < 8 → (letL.getD k 0).toNat ≠ c) := by
  by_cases h : ∃ k, k < 8 ∧ (letL.getD k 0).toNat = c
  · left
    obtain ⟨k, h1, h2⟩ := h
    revert h2 h1
    have inj : ∀ k, k < 8 → ∀ j, j < k → (letL.getD j 0).toNat ≠ (letL.getD k 0).toNat := by decide
    intro h1 h2
    exact ⟨k, h1, h2, fun j hj e => inj k h1 j hj (e.trans h2.symm)⟩
  · right
    exact fun k hk e => h ⟨k, hk, e⟩
theorem let_idx (k : Nat) (hk : k < 8) (w : World) : (Instr.index 9 (.string ⟨#[34, 92, 47, 98, 102, 110, 114, 116]⟩) (.int .i64 (k : Int))).run Tryd.prog w = .ok (.int .u8 ((letL.getD k 0).toNat : Nat)) w := idx_S letL k hk w
theorem let_sl (k : Nat) (hk : k < 8) (w : World) : (Instr.slice 9 (.string ⟨#[34, 92, 47, 8, 12, 10, 13, 9]⟩) (some (.int .i64 (k : Int))) (some (.int .i64 ((k : Int) + 1))) none).run Tryd.prog w = .ok (S [letB.getD k 0]) w := by
  have e := slice_S letB k (k + 1) (by omega) (by show k + 1 ≤ 8; omega) w
  have : (letB.take (k + 1)).drop k = [letB.getD k 0] := by
    have hk' : k = 0 ∨ k = 1 ∨ k = 2 ∨ k = 3 ∨ k = 4 ∨ k = 5 ∨ k = 6 ∨ k = 7 := by omega
    rcases hk' with rfl | rfl | rfl | rfl | rfl | rfl | rfl | rfl <;> rfl
  rw [this] at e
  exact e
theorem escape_no (s : Bytes) (lim : Lim) (x y : R6.St) (p : Nat) (h : R6.want s lim x p = (false, y)) : R6.escape s lim x p = (none, y) := by unfold R6.escape; rw [h]
theorem escape_let (s : Bytes) (lim : Lim) (x y : R6.St) (p k : Nat) (hk : k < 8) (h : R6.want s lim x p = (true, y)) (hc : (letL.getD k 0).toNat = R6.at_ s p) : R6.escape s lim x p = (some ([letB.getD k 0], p + 1), y) := by
  unfold R6.escape
  rw [h]
  simp only
  rw [← hc, letter_at k hk]
theorem escape_odd (s : Bytes) (lim : Lim) (x y : R6.St) (p : Nat) (h : R6.want s lim x p = (true, y)) (hl : R6.letter (R6.at_ s p) = none) (hc : R6.at_ s p ≠ 117) : R6.escape s lim x p = (none, R6.fault y p 9) := by
  unfold R6.escape
  rw [h]
  simp only
  rw [hl]
  simp only
  rw [if_pos (by simpa using hc)]
/-- Behind a u. -/
def afterU (s : Bytes) (lim : Lim) (p : Nat) : Option Nat × R6.St → Option (Bytes × Nat) × R6.St
  | (none, z) => (none, z)
  | (some n, z) =>
    if decide (56320 ≤ n) && decide (n ≤ 57343) then (none, R6.fault z (p + 4 : Nat) 9)
    else if decide (n < 55296) || decide (56319 < n) then (some (R6.sign8 n, p + 5), z)
    else R6.second s lim z (p + 5) n
theorem escape_u (s : Bytes) (lim : Lim) (x y : R6.St) (p : Nat) (h : R6.want s lim x p = (true, y)) (hl : R6.letter (R6.at_ s p) = none) (hc : R6.at_ s p = 117) : R6.escape s lim x p = afterU s lim p (R6.four s lim y (p + 1)) := by
  unfold R6.escape
  rw [h]
  simp only
  rw [hl]
  simp only
  rw [if_neg (by simp [hc])]
  generalize R6.four s lim y (p + 1) = r
  obtain ⟨r1, r2⟩ := r
  cases r1 <;> rfl
/-- The second half, step by step. -/
def secOn3 (p n : Nat) : Option Nat × R6.St → Option (Bytes × Nat) × R6.St
  | (none, v) => (none, v)
  | (some m, v) => if decide (m < 56320) || decide (57343 < m) then (none, R6.fault v (p + 10 : Nat) 9) else (some (R6.sign8 (65536 + (n - 55296) * 1024 + m - 56320), p + 11), v)
def secOn2 (s : Bytes) (lim : Lim) (p n : Nat) : Bool × R6.St → Option (Bytes × Nat) × R6.St
  | (false, u) => (none, u)
  | (true, u) => secOn3 p n (R6.four s lim u (p + 7))
def secOn (s : Bytes) (lim : Lim) (p n : Nat) : Bool × R6.St → Option (Bytes × Nat) × R6.St
  | (false, u) => (none, u)
  | (true, u) => secOn2 s lim p n (R6.is s lim u (p + 6) 117)
theorem secOn_true (s : Bytes) (lim : Lim) (p n : Nat) (u : R6.St) : secOn s lim p n (true, u) = secOn2 s lim p n (R6.is s lim u (p + 6) 117) := rfl
theorem secOn2_true (s : Bytes) (lim : Lim) (p n : Nat) (u : R6.St) : secOn2 s lim p n (true, u) = secOn3 p n (R6.four s lim u (p + 7)) := rfl
theorem second_on (s : Bytes) (lim : Lim) (z : R6.St) (p n : Nat) : R6.second s lim z (p + 5) n = secOn s lim p n (R6.is s lim z (p + 5) 92) := by
  unfold R6.second
  generalize R6.is s lim z (p + 5) 92 = r
  obtain ⟨r1, r2⟩ := r
  cases r1 with
  | false => rfl
  | true =>
    show (match R6.is s lim r2 (p + 5 + 1) 117 with | (false, u) => _ | (true, u) => _ : Option (Bytes × Nat) × R6.St) = secOn2 s lim p n (R6.is s lim r2 (p + 6) 117)
    rw [show p + 5 + 1 = p + 6 from rfl]
    generalize R6.is s lim r2 (p + 6) 117 = r
    obtain ⟨q1, q2⟩ := r
    cases q1 with
    | false => rfl
    | true =>
      show (match R6.four s lim q2 (p + 5 + 2) with | (none, v) => _ | (some m, v) => _ : Option (Bytes × Nat) × R6.St) = secOn3 p n (R6.four s lim q2 (p + 7))
      rw [show p + 5 + 2 = p + 7 from rfl]
      generalize R6.four s lim q2 (p + 7) = r
      obtain ⟨t1, t2⟩ := r
      cases t1 <;> rfl
theorem wrapP (p k : Nat) (hp : p ≤ 140737488355327) (hk : k ≤ 1000) : IntKind.i64.wrap ((p : Int) + (k : Int)) = (p : Int) + (k : Int) := IntWalk.i64_in _ ⟨by omega, by omega⟩
set_option maxRecDepth 100000 in
set_option maxHeartbeats 8000000 in
theorem esc_no (b p : Nat) (s : Bytes) (lim : Lim) (x y : R6.St) (vo : Value) (hc : Ctx s lim) (hp : p ≤ 140737488355327) (hw : R6.want s lim x p = (false, y)) (w : World) (h : X6 w b s lim x vo) :
    Calls Tryd.prog 66 #[.pointer (some ⟨b, 0, none⟩), .int .i64 (p : Nat)] w (Esc6 w b s lim vo 4 (none, y)) := by
  have hW := want6 b p s lim x vo hc (by omega) w h
  rw [hw] at hW
  have HW := Px.hid hW
  clear hW h hw hc
  go_enter Tryd.func66, Tryd.ntmps66
  go_wp2_with fail
  refine HW.out.mono ?_
  rintro e w1 ⟨rfl, h1, h2⟩
  have H1 := Px.hid (And.intro h1 h2)
  clear h1 h2
  go_wp2
  go_ret3
  exact ⟨rfl, H1.out.1, H1.out.2, fun l q hq => by cases hq⟩
set_option maxRecDepth 100000 in
set_option maxHeartbeats 8000000 in
theorem esc_let (b p : Nat) (s : Bytes) (lim : Lim) (x y : R6.St) (vo : Value) (hc : Ctx s lim) (hp : p ≤ 140737488355327) (hw : R6.want s lim x p = (true, y)) (kk : Nat) (hkk8 : kk < 8) (hcc : (letL.getD kk 0).toNat = R6.at_ s p) (hno : ∀ j, j < kk → (letL.getD j 0).toNat ≠ R6.at_ s p) (w : World) (h : X6 w b s lim x vo) :
    Calls Tryd.prog 66 #[.pointer (some ⟨b, 0, none⟩), .int .i64 (p : Nat)] w (Esc6 w b s lim vo 4 (some ([letB.getD kk 0], p + 1), y)) := by
  have hW := want6 b p s lim x vo hc (by omega) w h
  rw [hw] at hW
  have HW := Px.hid hW
  have hlt := want_lt hw
  have hix := idx6 s p hlt
  obtain ⟨c, hc2⟩ : ∃ c, c = R6.at_ s p := ⟨_, rfl⟩
  rw [← hc2] at hcc hno
  simp only [← hc2] at hix
  have HNE := Px.hid hno
  have HCC := Px.hid hcc
  have HLT := Px.hid hlt
  clear hW h hw hc hno hcc hc2 hlt
  go_enter Tryd.func66, Tryd.ntmps66
  go_wp2_with fail
  refine HW.out.mono ?_
  rintro e w1 ⟨rfl, h1, h2⟩
  have H1 := Px.hid (And.intro h1 h2)
  clear h1 h2
  go_wp2
  go_loopw [9] (fun i wr => ∃ k, i = .int .i64 (k : Nat) ∧ k ≤ 8 ∧ k ≤ kk ∧ X6 wr b s lim y vo ∧ Fr (It b) w wr) (fun i _ => 8 - (intOf i).toNat)
  case atStart => exact ⟨0, rfl, by omega, Nat.zero_le _, H1.out.1, H1.out.2⟩
  case round =>
    obtain ⟨k, rfl, hk, hkk, hx, hfr⟩ := hrel
    have c0 := hx.c0
    have hb : b < wr.heap.size := hx.lt
    have HX := Px.hid (And.intro hx hfr)
    clear hx hfr H1
    by_cases hkz : k < kk
    · obtain ⟨lk, hlk⟩ : ∃ lk, lk = (letL.getD k 0).toNat := ⟨_, rfl⟩
      have hli := let_idx k (by omega)
      rw [← hlk] at hli
      have hne : ((lk : Int) == (c : Int)) = false := by have hq := HNE.out k hkz; rw [← hlk] at hq; simp; omega
      have HK := Px.hid hkz
      have hk8 : (k : Int) < 8 := by omega
      clear hlk
      go_wp2_with fail
      go_quiet (fail)
      go_wp2
      go_roundw
      case rel => exact ⟨k + 1, by go_num, by have := HK.out; omega, by have := HK.out; omega, HX.out.1.drewN nq, HX.out.2.drewN nq⟩
      case measure => have := HK.out; simp [intOf]; omega
    · have hke : k = kk := by omega
      subst hke
      obtain ⟨lk, hlk⟩ : ∃ lk, lk = (letL.getD k 0).toNat := ⟨_, rfl⟩
      have hli := let_idx k hkk8
      have hsl := let_sl k hkk8
      rw [← hlk] at hli
      have hlc : lk = c := hlk.trans HCC.out
      subst hlc
      have hk8 : (k : Int) < 8 := by omega
      have hwp := wrapP p 1 hp (by omega)
      clear hlk hkz
      go_wp2_with fail
      go_quiet (fail)
      go_wp2
      go_ret3
      exact ⟨rfl, HX.out.1.drewN nq, HX.out.2.drewN nq, fun l q hq => by cases hq; exact ⟨HLT.out, by simp⟩⟩
set_option maxRecDepth 100000 in
set_option maxHeartbeats 8000000 in
theorem esc_odd (b p : Nat) (s : Bytes) (lim : Lim) (x y : R6.St) (vo : Value) (hc : Ctx s lim) (hp : p ≤ 140737488355327) (hw : R6.want s lim x p = (true, y)) (hno : ∀ j, j < 8 → (letL.getD j 0).toNat ≠ R6.at_ s p) (hu : R6.at_ s p ≠ 117) (w : World) (h : X6 w b s lim x vo) :
    Calls Tryd.prog 66 #[.pointer (some ⟨b, 0, none⟩), .int .i64 (p : Nat)] w (Esc6 w b s lim vo 4 (none, R6.fault y p 9)) := by
  have hW := want6 b p s lim x vo hc (by omega) w h
  rw [hw] at hW
  have HW := Px.hid hW
  have hlt := want_lt hw
  have hix := idx6 s p hlt
  obtain ⟨c, hc2⟩ : ∃ c, c = R6.at_ s p := ⟨_, rfl⟩
  rw [← hc2] at hno hu
  simp only [← hc2] at hix
  have HNE := Px.hid hno
  have hu2 : ((c : Int) != 117) = true := by simp; omega
  clear hW h hw hc hno hu hc2 hlt
  go_enter Tryd.func66, Tryd.ntmps66
  go_wp2_with fail
  refine HW.out.mono ?_
  rintro e w1 ⟨rfl, h1, h2⟩
  have H1 := Px.hid (And.intro h1 h2)
  clear h1 h2
  go_wp2
  go_loopw [9] (fun i wr => ∃ k, i = .int .i64 (k : Nat) ∧ k ≤ 8 ∧  X6 wr b s lim y vo ∧ Fr (It b) w wr) (fun i _ => 8 - (intOf i).toNat)
  case atStart => exact ⟨0, rfl, by omega, H1.out.1, H1.out.2⟩
  case round =>
    obtain ⟨k, rfl, hk, hx, hfr⟩ := hrel
    have c0 := hx.c0
    have hb : b < wr.heap.size := hx.lt
    have HX := Px.hid (And.intro hx hfr)
    clear hx hfr H1
    by_cases hkz : k < 8
    · obtain ⟨lk, hlk⟩ : ∃ lk, lk = (letL.getD k 0).toNat := ⟨_, rfl⟩
      have hli := let_idx k (by omega)
      rw [← hlk] at hli
      have hne : ((lk : Int) == (c : Int)) = false := by have hq := HNE.out k hkz; rw [← hlk] at hq; simp; omega
      have HK := Px.hid hkz
      have hk8 : (k : Int) < 8 := by omega
      clear hlk
      go_wp2_with fail
      go_quiet (fail)
      go_wp2
      go_roundw
      case rel => exact ⟨k + 1, by go_num, by have := HK.out; omega, HX.out.1.drewN nq, HX.out.2.drewN nq⟩
      case measure => have := HK.out; simp [intOf]; omega
    · have hk8 : k = 8 := by omega
      subst hk8
      clear hkz
      go_wp2_with fail
      refine (fault6 b p 9 s lim y vo _ HX.out.1).mono ?_
      rintro e w2 ⟨rfl, h1, h2⟩
      have H2 := Px.hid (And.intro h1 (It.trans HX.out.2 h2))
      clear h1 h2
      go_wp2
      go_ret3
      exact ⟨rfl, H2.out.1, H2.out.2, fun l q hq => by cases hq⟩
set_option maxRecDepth 100000 in
set_option maxHeartbeats 8000000 in
theorem esc_u (b p : Nat) (s : Bytes) (lim : Lim) (x y : R6.St) (vo : Value) (hc : Ctx s lim) (hp : p ≤ 140737488355327) (hw : R6.want s lim x p = (true, y)) (hno : ∀ j, j < 8 → (letL.getD j 0).toNat ≠ R6.at_ s p) (hu : R6.at_ s p = 117) (w : World) (h : X6 w b s lim x vo) :
    Calls Tryd.prog 66 #[.pointer (some ⟨b, 0, none⟩), .int .i64 (p : Nat)] w (Esc6 w b s lim vo 4 (afterU s lim p (R6.four s lim y (p + 1)))) := by
  have hW := want6 b p s lim x vo hc (by omega) w h
  rw [hw] at hW
  have HW := Px.hid hW
  have hlt := want_lt hw
  have hix := idx6 s p hlt
  obtain ⟨R, hR⟩ : ∃ R, R = afterU s lim p (R6.four s lim y (p + 1)) := ⟨_, rfl⟩
  rw [← hR]
  have HRR := Px.hid hR
  rw [hu] at hno
  simp only [hu] at hix
  obtain ⟨c, hc2⟩ : ∃ c, c = 117 := ⟨_, rfl⟩
  rw [← hc2] at hno
  have HNE := Px.hid hno
  have hix2 := hix
  rw [show ((117 : Nat) : Int) = (c : Int) by rw [hc2]] at hix
  clear hix2
  have HC := Px.hid hc
  have hu2 : ((c : Int) != 117) = false := by rw [hc2]; rfl
  clear hW h hw hc hno hu hc2 hlt hR
  go_enter Tryd.func66, Tryd.ntmps66
  go_wp2_with fail
  refine HW.out.mono ?_
  rintro e w1 ⟨rfl, h1, h2⟩
  have H1 := Px.hid (And.intro h1 h2)
  clear h1 h2
  go_wp2
  go_loopw [9] (fun i wr => ∃ k, i = .int .i64 (k : Nat) ∧ k ≤ 8 ∧  X6 wr b s lim y vo ∧ Fr (It b) w wr) (fun i _ => 8 - (intOf i).toNat)
  case atStart => exact ⟨0, rfl, by omega, H1.out.1, H1.out.2⟩
  case round =>
    obtain ⟨k, rfl, hk, hx, hfr⟩ := hrel
    have c0 := hx.c0
    have hb : b < wr.heap.size := hx.lt
    have HX := Px.hid (And.intro hx hfr)
    clear hx hfr H1
    by_cases hkz : k < 8
    · obtain ⟨lk, hlk⟩ : ∃ lk, lk = (letL.getD k 0).toNat := ⟨_, rfl⟩
      have hli := let_idx k (by omega)
      rw [← hlk] at hli
      have hne : ((lk : Int) == (c : Int)) = false := by have hq := HNE.out k hkz; rw [← hlk] at hq; simp; omega
      have HK := Px.hid hkz
      have hk8 : (k : Int) < 8 := by omega
      clear hlk
      go_wp2_with fail
      go_quiet (fail)
      go_wp2
      go_roundw
      case rel => exact ⟨k + 1, by go_num, by have := HK.out; omega, HX.out.1.drewN nq, HX.out.2.drewN nq⟩
      case measure => have := HK.out; simp [intOf]; omega
    · have hk8 : k = 8 := by omega
      subst hk8
      clear hkz
      obtain ⟨⟨r1, z⟩, hres⟩ : ∃ r, R6.four s lim y (p + 1) = r := ⟨_, rfl⟩
      have hF4 := four6 b (p + 1) s lim y vo HC.out (by omega) wr HX.out.1
      rw [hres] at hF4
      have HRR := Px.hid (HRR.out.trans (show afterU s lim p (R6.four s lim y (p + 1)) = afterU s lim p (r1, z) by rw [hres]))
      have H4 := Px.hid hF4
      have hw1 := wrapP p 1 hp (by omega)
      have hw4 := wrapP p 4 hp (by omega)
      have hw5 := wrapP p 5 hp (by omega)
      have hw6 := wrapP p 6 hp (by omega)
      have hw7 := wrapP p 7 hp (by omega)
      have hw10 := wrapP p 10 hp (by omega)
      have hw11 := wrapP p 11 hp (by omega)
      clear hres hF4
      go_wp2_with fail
      refine H4.out.mono ?_
      rintro e w2 ⟨rfl, h1, h2, h3⟩
      have H2 := Px.hid (And.intro h1 (And.intro (It.trans HX.out.2 h2) h3))
      clear h1 h2 h3
      cases r1 with
      | none =>
        unfold tupV
        go_wp2
        go_ret3
        rw [HRR.out]
        exact ⟨rfl, H2.out.1, H2.out.2.1, fun l q hq => by cases hq⟩
      | some n =>
        have hn6 := (H2.out.2.2 n rfl).1
        have HP5 := Px.hid (H2.out.2.2 n rfl).2
        unfold tupV
        by_cases hlow : 56320 ≤ n ∧ n ≤ 57343
        · have HR := Px.hid (show afterU s lim p (some n, z) = (none, R6.fault z (p + 4 : Nat) 9) from if_pos (by simp [hlow]))
          have l1 : (56320 : Int) ≤ (n : Int) := by omega
          have l2 : (n : Int) ≤ 57343 := by omega
          clear hlow
          go_wp2_with fail
          refine (fault6 b ((p : Int) + 4) 9 s lim z vo _ H2.out.1).mono ?_
          rintro e w3 ⟨rfl, h1, h2⟩
          have H3 := Px.hid (And.intro h1 (It.trans H2.out.2.1 h2))
          clear h1 h2
          go_wp2
          go_ret3
          rw [HRR.out, HR.out]
          exact ⟨rfl, H3.out.1, H3.out.2, fun l q hq => by cases hq⟩
        · have hl1 : decide ((56320 : Int) ≤ (n : Int)) = false ∨ ((56320 : Int) ≤ (n : Int) ∧ decide ((n : Int) ≤ 57343) = false) := by
            by_cases e : 56320 ≤ n
            · exact .inr ⟨by omega, by simp; omega⟩
            · exact .inl (by simp; omega)
          by_cases hone : n < 55296 ∨ 56319 < n
          · have HR := Px.hid (show afterU s lim p (some n, z) = (some (R6.sign8 n, p + 5), z) from (if_neg (by simpa using hlow)).trans (if_pos (by simpa using hone)))
            have HLen := Px.hid (J6.sign8_len n)
            have HSG := Px.hid (fun w : World => sign6 n (by omega) w)
            have HRR := Px.hid (HRR.out.trans HR.out)
            obtain ⟨LL, hLL⟩ : ∃ LL, R6.sign8 n = LL := ⟨_, rfl⟩
            rw [hLL] at HLen HRR
            simp only [hLL] at HSG
            have hl2 : (n : Int) < 55296 ∨ (decide ((n : Int) < 55296) = false ∧ (56319 : Int) < (n : Int)) := by
              by_cases e : n < 55296
              · exact .inl (by omega)
              · exact .inr ⟨by simp; omega, by omega⟩
            clear hlow hone HR hLL
            rcases hl1 with l1 | ⟨l1, l2⟩ <;> rcases hl2 with m1 | ⟨m1, m2⟩ <;>
              first
              | (exfalso; simp at l1; omega)
              | (go_wp2_with fail
                 refine (HSG.out _).mono ?_
                 rintro e w3 ⟨rfl, hs⟩
                 have H3 := Px.hid (And.intro (H2.out.1.same hs) (It.trans H2.out.2.1 (hs.fr _)))
                 clear hs
                 go_wp2
                 go_ret3
                 rw [HRR.out]
                 exact ⟨rfl, H3.out.1, H3.out.2, fun l q hq => by cases hq; exact ⟨by have := HP5.out; omega, HLen.out⟩⟩)
          · have HR := Px.hid (show afterU s lim p (some n, z) = R6.second s lim z (p + 5) n from (if_neg (by simpa using hlow)).trans (if_neg (by simpa using hone)))
            have hb1 : 55296 ≤ n := by omega
            have hb2 : n ≤ 56319 := by omega
            have l1 : decide ((56320 : Int) ≤ (n : Int)) = false := by simp; omega
            have m1 : decide ((n : Int) < 55296) = false := by simp; omega
            have m2 : decide ((56319 : Int) < (n : Int)) = false := by simp; omega
            have HB := Px.hid (And.intro hb1 hb2)
            clear hlow hone hl1 hb1 hb2
            have HRR := Px.hid (HRR.out.trans HR.out)
            have hI1 := is6 b (p + 5) 92 s lim z vo HC.out (by omega) w2 H2.out.1
            have hS : R6.second s lim z (p + 5) n = secOn s lim p n (R6.is s lim z (p + 5) 92) := second_on s lim z p n
            have HRR := Px.hid (HRR.out.trans hS)
            obtain ⟨⟨q1, u1⟩, e1⟩ : ∃ r, R6.is s lim z (p + 5) 92 = r := ⟨_, rfl⟩
            rw [e1] at hI1 HRR
            have HI1 := Px.hid hI1
            clear hI1 e1 hS
            cases q1 with
            | false =>
              go_wp2_with fail
              refine HI1.out.mono ?_
              rintro e w3 ⟨rfl, h1, h2⟩
              have H3 := Px.hid (And.intro h1 (It.trans H2.out.2.1 h2))
              clear h1 h2
              go_wp2
              go_ret3
              rw [HRR.out]
              exact ⟨rfl, H3.out.1, H3.out.2, fun l q hq => by cases hq⟩
            | true =>
              have HI2 := Px.hid (fun (w : World) (h : X6 w b s lim u1 vo) => is6 b (p + 6) 117 s lim u1 vo HC.out (by omega) w h)
              have HRR := Px.hid (HRR.out.trans (secOn_true s lim p n u1))
              obtain ⟨⟨q2, u2⟩, e2⟩ : ∃ r, R6.is s lim u1 (p + 6) 117 = r := ⟨_, rfl⟩
              rw [e2] at HRR
              simp only [e2] at HI2
              clear e2
              cases q2 with
              | false =>
                go_wp2_with fail
                refine HI1.out.mono ?_
                rintro e w3 ⟨rfl, h1, h2⟩
                have H3 := Px.hid (And.intro h1 (It.trans H2.out.2.1 h2))
                clear h1 h2
                go_wp2_with fail
                refine (HI2.out _ H3.out.1).mono ?_
                rintro e w4 ⟨rfl, h1, h2⟩
                have H4b := Px.hid (And.intro h1 (It.trans H3.out.2 h2))
                clear h1 h2
                go_wp2
                go_ret3
                rw [HRR.out]
                exact ⟨rfl, H4b.out.1, H4b.out.2, fun l q hq => by cases hq⟩
              | true =>
                have HF5 := Px.hid (fun (w : World) (h : X6 w b s lim u2 vo) => four6 b (p + 7) s lim u2 vo HC.out (by omega) w h)
                have HRR := Px.hid (HRR.out.trans (secOn2_true s lim p n u2))
                obtain ⟨⟨r3, v⟩, e3⟩ : ∃ r, R6.four s lim u2 (p + 7) = r := ⟨_, rfl⟩
                rw [e3] at HRR
                simp only [e3] at HF5
                clear e3
                go_wp2_with fail
                refine HI1.out.mono ?_
                rintro e w3 ⟨rfl, h1, h2⟩
                have H3 := Px.hid (And.intro h1 (It.trans H2.out.2.1 h2))
                clear h1 h2
                go_wp2_with fail
                refine (HI2.out _ H3.out.1).mono ?_
                rintro e w4 ⟨rfl, h1, h2⟩
                have H4b := Px.hid (And.intro h1 (It.trans H3.out.2 h2))
                clear h1 h2
                go_wp2_with fail
                refine (HF5.out _ H4b.out.1).mono ?_
                rintro e w5 ⟨rfl, h1, h2, h3⟩
                have H5 := Px.hid (And.intro h1 (And.intro (It.trans H4b.out.2 h2) h3))
                clear h1 h2 h3
                cases r3 with
                | none =>
                  unfold tupV
                  go_wp2
                  go_ret3
                  rw [HRR.out]
                  exact ⟨rfl, H5.out.1, H5.out.2.1, fun l q hq => by cases hq⟩
                | some m =>
                  have hm6 := (H5.out.2.2 m rfl).1
                  have HP11 := Px.hid (H5.out.2.2 m rfl).2
                  unfold tupV
                  by_cases hbad : m < 56320 ∨ 57343 < m
                  · have HR2 := Px.hid (show secOn3 p n (some m, v) = (none, R6.fault v (p + 10 : Nat) 9) from if_pos (by simpa using hbad))
                    have HRR := Px.hid (HRR.out.trans HR2.out)
                    have hl2 : (m : Int) < 56320 ∨ (decide ((m : Int) < 56320) = false ∧ (57343 : Int) < (m : Int)) := by
                      by_cases e : m < 56320
                      · exact .inl (by omega)
                      · exact .inr ⟨by simp; omega, by omega⟩
                    clear hbad
                    rcases hl2 with k1 | ⟨k1, k2⟩ <;>
                      (go_wp2_with fail
                       refine (fault6 b ((p : Int) + 10) 9 s lim v vo _ H5.out.1).mono ?_
                       rintro e w6 ⟨rfl, h1, h2⟩
                       have H6 := Px.hid (And.intro h1 (It.trans H5.out.2.1 h2))
                       clear h1 h2
                       go_wp2
                       go_ret3
                       rw [HRR.out]
                       exact ⟨rfl, H6.out.1, H6.out.2, fun l q hq => by cases hq⟩)
                  · have HR2 := Px.hid (show secOn3 p n (some m, v) = (some (R6.sign8 (65536 + (n - 55296) * 1024 + m - 56320), p + 11), v) from if_neg (by simpa using hbad))
                    have HRR := Px.hid (HRR.out.trans HR2.out)
                    have k1 : decide ((m : Int) < 56320) = false := by simp; omega
                    have k2 : decide ((57343 : Int) < (m : Int)) = false := by simp; omega
                    obtain ⟨N, hN, hN2⟩ : ∃ N : Nat, 65536 + (n - 55296) * 1024 + m - 56320 = N ∧ N ≤ 1114111 := ⟨_, rfl, by have := HB.out; omega⟩
                    rw [hN] at HRR
                    have a1 : IntKind.i64.wrap ((n : Int) - 55296) = (n : Int) - 55296 := IntWalk.i64_in _ ⟨by omega, by omega⟩
                    have a2 : IntKind.i64.wrap (((n : Int) - 55296) * 1024) = ((n : Int) - 55296) * 1024 := IntWalk.i64_in _ ⟨by omega, by omega⟩
                    have a3 : IntKind.i64.wrap (65536 + ((n : Int) - 55296) * 1024) = 65536 + ((n : Int) - 55296) * 1024 := IntWalk.i64_in _ ⟨by omega, by omega⟩
                    have a4 : IntKind.i64.wrap (65536 + ((n : Int) - 55296) * 1024 + (m : Int)) = 65536 + ((n : Int) - 55296) * 1024 + (m : Int) := IntWalk.i64_in _ ⟨by omega, by omega⟩
                    have a5 : IntKind.i64.wrap (65536 + ((n : Int) - 55296) * 1024 + (m : Int) - 56320) = (N : Nat) := by
                      have e : (65536 + ((n : Int) - 55296) * 1024 + (m : Int) - 56320) = (N : Nat) := by have := HB.out; omega
                      rw [e]
                      exact IntWalk.i64_in _ ⟨by omega, by omega⟩
                    have HSG := Px.hid (fun w : World => sign6 N hN2 w)
                    have HLen := Px.hid (J6.sign8_len N)
                    obtain ⟨LL, hLL⟩ : ∃ LL, R6.sign8 N = LL := ⟨_, rfl⟩
                    rw [hLL] at HLen HRR
                    simp only [hLL] at HSG
                    clear hbad hN hN2 HR2 hLL
                    go_wp2_with fail
                    refine (HSG.out _).mono ?_
                    rintro e w6 ⟨rfl, hs⟩
                    have H6 := Px.hid (And.intro (H5.out.1.same hs) (It.trans H5.out.2.1 (hs.fr _)))
                    clear hs
                    go_wp2
                    go_ret3
                    rw [HRR.out]
                    exact ⟨rfl, H6.out.1, H6.out.2, fun l q hq => by cases hq; exact ⟨by have := HP11.out; omega, HLen.out⟩⟩
theorem escape6 (b p : Nat) (s : Bytes) (lim : Lim) (x : R6.St) (vo : Value) (hc : Ctx s lim) (hp : p ≤ 140737488355327) (w : World) (h : X6 w b s lim x vo) :
    Calls Tryd.prog 66 #[.pointer (some ⟨b, 0, none⟩), .int .i64 (p : Nat)] w (Esc6 w b s lim vo 4 (R6.escape s lim x p)) := by
  obtain ⟨⟨q, y⟩, hw⟩ : ∃ r, R6.want s lim x p = r := ⟨_, rfl⟩
  cases q with
  | false =>
    rw [escape_no s lim x y p hw]
    exact esc_no b p s lim x y vo hc hp hw w h
  | true =>
    rcases letter_cases (R6.at_ s p) with ⟨k, hk, h1, h2⟩ | hno
    · rw [escape_let s lim x y p k hk hw h1]
      exact esc_let b p s lim x y vo hc hp hw k hk h1 h2 w h
    · by_cases hu : R6.at_ s p = 117
      · rw [escape_u s lim x y p hw (letter_ne _ hno) hu]
        exact esc_u b p s lim x y vo hc hp hw hno hu w h
      · rw [escape_odd s lim x y p hw (letter_ne _ hno) hu]
        exact esc_odd b p s lim x y vo hc hp hw hno hu w h
end Go.Proofs.YtahojodgmjmpnaaDoor
