/-
  The walk over the program's argument (package cbor).
-/
import Derived.Test.YtddiabaagpmkgaaDoorDr
namespace Go.Proofs.YtddiabaagpmkgaaDoor
open Go.RowKit Go.Px

/-- The argument behind a head's first byte. -/
def argD (s : Bytes) (lim : Lim) (p a at_ : Nat) : Except D7.Flt Nat :=
  if a < 24 then .ok a else match D7.argN s lim (2 ^ (a - 24)) at_ 0 with
    | .error e => .error e
    | .ok n => if n < Cf.least a then .error (p, 9) else .ok n
def ArgPost (w : World) (b : Nat) (s : Bytes) (lim : Lim) (x : D7.Dx) (vs vo : Value) (W : Nat) (res : Except D7.Flt Nat) (r : Ending) (w' : World) : Prop :=
  match res with
  | .error e => r = panics e ∧ Fr (It b) w w'
  | .ok n => r = .returned (.int .u64 (n : Nat)) ∧ DrRep w' b s lim { x with at_ := x.at_ + W } vs vo ∧ Fr (It b) w w'
theorem arg_small (b p a : Nat) (s : Bytes) (lim : Lim) (x : D7.Dx) (vs vo : Value) (w : World) (h : DrRep w b s lim x vs vo) (ha : a < 24) :
    Calls Tryd.prog 70 #[.pointer (some ⟨b, 0, none⟩), .int .i64 (p : Nat), .int .u8 (a : Nat)] w fun r w' => ArgPost w b s lim x vs vo 0 (argD s lim p a x.at_) r w' := by
  have H := Px.hid (And.intro h (show argD s lim p a x.at_ = .ok a by unfold argD; rw [if_pos ha]))
  have hz : (a : Int) < 24 := by omega
  clear h ha
  go_enter Tryd.func70, Tryd.ntmps70
  go_wp2
  go_ret
  rw [H.out.2]
  exact ⟨rfl, H.out.1, Fr.refl _ _⟩

set_option maxRecDepth 100000 in
set_option maxHeartbeats 2000000 in
theorem arg_24 (b p : Nat) (s : Bytes) (lim : Lim) (x : D7.Dx) (vs vo : Value) (w : World) (h : DrRep w b s lim x vs vo) (hx : x.at_ ≤ 1000000) :
    Calls Tryd.prog 70 #[.pointer (some ⟨b, 0, none⟩), .int .i64 (p : Nat), .int .u8 24] w fun r w' => ArgPost w b s lim x vs vo 1 (argD s lim p 24 x.at_) r w' := by
  have HA := Px.hid (show argD s lim p 24 x.at_ = (match D7.argN s lim 1 x.at_ 0 with | .error e => .error e | .ok n => if n < 24 then .error (p, 9) else .ok n) from rfl)
  have H := Px.hid h
  clear h
  go_enter Tryd.func70, Tryd.ntmps70
  go_wp2
  go_loopw [7, 15] (fun nn i wr => ∃ j n : Nat, j ≤ 1 ∧ i = .int .i64 (j : Nat) ∧ nn = .int .u64 (n : Nat) ∧ Hid (n < 256 ^ j ∧ DrRep wr b s lim { x with at_ := x.at_ + j } vs vo ∧ Fr (It b) w wr ∧ D7.argN s lim 1 x.at_ 0 = D7.argN s lim (1 - j) (x.at_ + j) n)) (fun _ i _ => 1 - (intOf i).toNat)
  case atStart => exact ⟨0, 0, Nat.zero_le _, rfl, rfl, Px.hid ⟨by simp, H.out, Fr.refl _ _, rfl⟩⟩
  case round =>
    clear H
    obtain ⟨j, n, hj, rfl, rfl, HR⟩ := hrel
    obtain ⟨hn, hrep, hfr, harg⟩ := HR.out
    by_cases hlt : j < 1
    · have hltz : (j : Int) < 1 := by omega
      have hn7 : n < 72057594037927936 := Nat.lt_of_lt_of_le hn (by have : 256 ^ j ≤ 256 ^ 7 := Nat.pow_le_pow_right (by omega) (by omega); simpa using this)
      obtain ⟨_, _, _, _, c5, _, _⟩ := hrep.cells
      have f5 := hrep.free 5
      have hpj : ((x.at_ + j : Nat) : Int) = (x.at_ : Int) + j := by omega
      rw [hpj] at c5
      have hs1 : D7.argN s lim (1 - j) (x.at_ + j) n = match D7.want s lim (x.at_ + j) with | .error e => .error e | .ok c => D7.argN s lim (1 - (j + 1)) (x.at_ + j + 1) (n * 256 + c) := by
        rw [show 1 - j = (1 - (j + 1)) + 1 by omega]
        rfl
      cases hw : D7.want s lim (x.at_ + j) with
      | error e =>
        rw [hw] at hs1
        have HE := Px.hid (show argD s lim p 24 x.at_ = .error e by rw [HA.out, harg, hs1])
        have hc := dwant_no b (x.at_ + j) s lim _ vs vo wr hrep e hw
        rw [hpj] at hc
        have HC := Px.hid hc
        have hwn : IntKind.u64.wrap ((n : Int) * 256) = (n : Int) * 256 := IntWalk.u64_in _ ⟨by omega, by omega⟩
        clear hc hw hs1 harg hrep hn hn7 hpj hfr
        go_wp2_with fail
        refine HC.out.mono ?_
        rintro r w1 ⟨rfl, rfl⟩
        unfold panics
        go_wp2
        rw [HE.out]
        exact ⟨rfl, rfl, HR.out.2.2.1⟩
      | ok c =>
        rw [hw] at hs1
        have hcb : c < 256 := by
          unfold D7.want at hw
          by_cases q1 : s.length ≤ x.at_ + j
          · rw [if_pos q1] at hw; cases hw
          · rw [if_neg q1] at hw
            by_cases q2 : lim.b ≤ ((x.at_ + j : Nat) : Int)
            · rw [if_pos q2] at hw; cases hw
            · rw [if_neg q2] at hw
              simp only [Except.ok.injEq] at hw
              rw [← hw]; exact UInt8.toNat_lt _
        have hc := dwant_yes b (x.at_ + j) s lim _ vs vo wr hrep c hw
        rw [hpj] at hc
        have HC := Px.hid hc
        have hwn : IntKind.u64.wrap ((n : Int) * 256) = (n : Int) * 256 := IntWalk.u64_in _ ⟨by omega, by omega⟩
        have hor := or_byte n c hcb (by omega)
        have HN := Px.hid (And.intro (show n * 256 + c < 256 ^ (j + 1) by rw [Nat.pow_succ]; omega) (harg.trans hs1))
        have hmv := hrep.move (x.at_ + (j + 1))
        have hpj1 : ((x.at_ + (j + 1) : Nat) : Int) = (x.at_ : Int) + j + 1 := by omega
        rw [hpj1] at hmv
        have HMV := Px.hid (And.intro hmv (hfr.trans (It.set (b := b) (i := 5) (w := wr) (.int .i64 ((x.at_ : Int) + j + 1))) (fun _ _ h => h)))
        clear hc hw hs1 harg hrep hn hn7 hpj hpj1 hmv hfr
        go_wp2_with fail
        refine HC.out.mono ?_
        rintro r w1 ⟨rfl, rfl⟩
        go_wp2
        go_roundw
        case rel => exact ⟨j + 1, n * 256 + c, by omega, by go_num, by go_num, Px.hid ⟨HN.out.1, HMV.out.1, HMV.out.2, HN.out.2⟩⟩
        case measure => simp [intOf]; omega
    · have hltz : ¬ (j : Int) < 1 := by omega
      have hje : j = 1 := by omega
      subst hje
      have hok : D7.argN s lim 1 x.at_ 0 = .ok n := by rw [harg]; rfl
      have HK := Px.hid (And.intro hrep hfr)
      clear harg hrep hfr hn hlt hj
      by_cases hl : n < 24
      · have HE := Px.hid (show argD s lim p 24 x.at_ = .error (p, 9) by rw [HA.out, hok]; simp only; rw [if_pos hl])
        have z1 : (n : Int) < 24 := by omega
        clear hl hok
        go_wp2
        rw [HE.out]
        exact ⟨rfl, rfl, HK.out.2⟩
      · have HE := Px.hid (show argD s lim p 24 x.at_ = .ok n by rw [HA.out, hok]; simp only; rw [if_neg hl])
        have z1 : ¬ (n : Int) < 24 := by omega
        clear hl hok
        go_wp2
        go_ret
        rw [HE.out]
        exact ⟨rfl, HK.out.1, HK.out.2⟩

set_option maxRecDepth 100000 in
set_option maxHeartbeats 2000000 in
theorem arg_25 (b p : Nat) (s : Bytes) (lim : Lim) (x : D7.Dx) (vs vo : Value) (w : World) (h : DrRep w b s lim x vs vo) (hx : x.at_ ≤ 1000000) :
    Calls Tryd.prog 70 #[.pointer (some ⟨b, 0, none⟩), .int .i64 (p : Nat), .int .u8 25] w fun r w' => ArgPost w b s lim x vs vo 2 (argD s lim p 25 x.at_) r w' := by
  have HA := Px.hid (show argD s lim p 25 x.at_ = (match D7.argN s lim 2 x.at_ 0 with | .error e => .error e | .ok n => if n < 256 then .error (p, 9) else .ok n) from rfl)
  have H := Px.hid h
  clear h
  go_enter Tryd.func70, Tryd.ntmps70
  go_wp2
  go_loopw [7, 15] (fun nn i wr => ∃ j n : Nat, j ≤ 2 ∧ i = .int .i64 (j : Nat) ∧ nn = .int .u64 (n : Nat) ∧ Hid (n < 256 ^ j ∧ DrRep wr b s lim { x with at_ := x.at_ + j } vs vo ∧ Fr (It b) w wr ∧ D7.argN s lim 2 x.at_ 0 = D7.argN s lim (2 - j) (x.at_ + j) n)) (fun _ i _ => 2 - (intOf i).toNat)
  case atStart => exact ⟨0, 0, Nat.zero_le _, rfl, rfl, Px.hid ⟨by simp, H.out, Fr.refl _ _, rfl⟩⟩
  case round =>
    clear H
    obtain ⟨j, n, hj, rfl, rfl, HR⟩ := hrel
    obtain ⟨hn, hrep, hfr, harg⟩ := HR.out
    by_cases hlt : j < 2
    · have hltz : (j : Int) < 2 := by omega
      have hn7 : n < 72057594037927936 := Nat.lt_of_lt_of_le hn (by have : 256 ^ j ≤ 256 ^ 7 := Nat.pow_le_pow_right (by omega) (by omega); simpa using this)
      obtain ⟨_, _, _, _, c5, _, _⟩ := hrep.cells
      have f5 := hrep.free 5
      have hpj : ((x.at_ + j : Nat) : Int) = (x.at_ : Int) + j := by omega
      rw [hpj] at c5
      have hs1 : D7.argN s lim (2 - j) (x.at_ + j) n = match D7.want s lim (x.at_ + j) with | .error e => .error e | .ok c => D7.argN s lim (2 - (j + 1)) (x.at_ + j + 1) (n * 256 + c) := by
        rw [show 2 - j = (2 - (j + 1)) + 1 by omega]
        rfl
      cases hw : D7.want s lim (x.at_ + j) with
      | error e =>
        rw [hw] at hs1
        have HE := Px.hid (show argD s lim p 25 x.at_ = .error e by rw [HA.out, harg, hs1])
        have hc := dwant_no b (x.at_ + j) s lim _ vs vo wr hrep e hw
        rw [hpj] at hc
        have HC := Px.hid hc
        have hwn : IntKind.u64.wrap ((n : Int) * 256) = (n : Int) * 256 := IntWalk.u64_in _ ⟨by omega, by omega⟩
        clear hc hw hs1 harg hrep hn hn7 hpj hfr
        go_wp2_with fail
        refine HC.out.mono ?_
        rintro r w1 ⟨rfl, rfl⟩
        unfold panics
        go_wp2
        rw [HE.out]
        exact ⟨rfl, rfl, HR.out.2.2.1⟩
      | ok c =>
        rw [hw] at hs1
        have hcb : c < 256 := by
          unfold D7.want at hw
          by_cases q1 : s.length ≤ x.at_ + j
          · rw [if_pos q1] at hw; cases hw
          · rw [if_neg q1] at hw
            by_cases q2 : lim.b ≤ ((x.at_ + j : Nat) : Int)
            · rw [if_pos q2] at hw; cases hw
            · rw [if_neg q2] at hw
              simp only [Except.ok.injEq] at hw
              rw [← hw]; exact UInt8.toNat_lt _
        have hc := dwant_yes b (x.at_ + j) s lim _ vs vo wr hrep c hw
        rw [hpj] at hc
        have HC := Px.hid hc
        have hwn : IntKind.u64.wrap ((n : Int) * 256) = (n : Int) * 256 := IntWalk.u64_in _ ⟨by omega, by omega⟩
        have hor := or_byte n c hcb (by omega)
        have HN := Px.hid (And.intro (show n * 256 + c < 256 ^ (j + 1) by rw [Nat.pow_succ]; omega) (harg.trans hs1))
        have hmv := hrep.move (x.at_ + (j + 1))
        have hpj1 : ((x.at_ + (j + 1) : Nat) : Int) = (x.at_ : Int) + j + 1 := by omega
        rw [hpj1] at hmv
        have HMV := Px.hid (And.intro hmv (hfr.trans (It.set (b := b) (i := 5) (w := wr) (.int .i64 ((x.at_ : Int) + j + 1))) (fun _ _ h => h)))
        clear hc hw hs1 harg hrep hn hn7 hpj hpj1 hmv hfr
        go_wp2_with fail
        refine HC.out.mono ?_
        rintro r w1 ⟨rfl, rfl⟩
        go_wp2
        go_roundw
        case rel => exact ⟨j + 1, n * 256 + c, by omega, by go_num, by go_num, Px.hid ⟨HN.out.1, HMV.out.1, HMV.out.2, HN.out.2⟩⟩
        case measure => simp [intOf]; omega
    · have hltz : ¬ (j : Int) < 2 := by omega
      have hje : j = 2 := by omega
      subst hje
      have hok : D7.argN s lim 2 x.at_ 0 = .ok n := by rw [harg]; rfl
      have HK := Px.hid (And.intro hrep hfr)
      clear harg hrep hfr hn hlt hj
      by_cases hl : n < 256
      · have HE := Px.hid (show argD s lim p 25 x.at_ = .error (p, 9) by rw [HA.out, hok]; simp only; rw [if_pos hl])
        have z1 : ((n : Int) / 256 == 0) = true := by simp; omega
        clear hl hok
        go_wp2
        rw [HE.out]
        exact ⟨rfl, rfl, HK.out.2⟩
      · have HE := Px.hid (show argD s lim p 25 x.at_ = .ok n by rw [HA.out, hok]; simp only; rw [if_neg hl])
        have z1 : ((n : Int) / 256 == 0) = false := by simp; omega
        clear hl hok
        go_wp2
        go_ret
        rw [HE.out]
        exact ⟨rfl, HK.out.1, HK.out.2⟩

set_option maxRecDepth 100000 in
set_option maxHeartbeats 2000000 in
theorem arg_26 (b p : Nat) (s : Bytes) (lim : Lim) (x : D7.Dx) (vs vo : Value) (w : World) (h : DrRep w b s lim x vs vo) (hx : x.at_ ≤ 1000000) :
    Calls Tryd.prog 70 #[.pointer (some ⟨b, 0, none⟩), .int .i64 (p : Nat), .int .u8 26] w fun r w' => ArgPost w b s lim x vs vo 4 (argD s lim p 26 x.at_) r w' := by
  have HA := Px.hid (show argD s lim p 26 x.at_ = (match D7.argN s lim 4 x.at_ 0 with | .error e => .error e | .ok n => if n < 65536 then .error (p, 9) else .ok n) from rfl)
  have H := Px.hid h
  clear h
  go_enter Tryd.func70, Tryd.ntmps70
  go_wp2
  go_loopw [7, 15] (fun nn i wr => ∃ j n : Nat, j ≤ 4 ∧ i = .int .i64 (j : Nat) ∧ nn = .int .u64 (n : Nat) ∧ Hid (n < 256 ^ j ∧ DrRep wr b s lim { x with at_ := x.at_ + j } vs vo ∧ Fr (It b) w wr ∧ D7.argN s lim 4 x.at_ 0 = D7.argN s lim (4 - j) (x.at_ + j) n)) (fun _ i _ => 4 - (intOf i).toNat)
  case atStart => exact ⟨0, 0, Nat.zero_le _, rfl, rfl, Px.hid ⟨by simp, H.out, Fr.refl _ _, rfl⟩⟩
  case round =>
    clear H
    obtain ⟨j, n, hj, rfl, rfl, HR⟩ := hrel
    obtain ⟨hn, hrep, hfr, harg⟩ := HR.out
    by_cases hlt : j < 4
    · have hltz : (j : Int) < 4 := by omega
      have hn7 : n < 72057594037927936 := Nat.lt_of_lt_of_le hn (by have : 256 ^ j ≤ 256 ^ 7 := Nat.pow_le_pow_right (by omega) (by omega); simpa using this)
      obtain ⟨_, _, _, _, c5, _, _⟩ := hrep.cells
      have f5 := hrep.free 5
      have hpj : ((x.at_ + j : Nat) : Int) = (x.at_ : Int) + j := by omega
      rw [hpj] at c5
      have hs1 : D7.argN s lim (4 - j) (x.at_ + j) n = match D7.want s lim (x.at_ + j) with | .error e => .error e | .ok c => D7.argN s lim (4 - (j + 1)) (x.at_ + j + 1) (n * 256 + c) := by
        rw [show 4 - j = (4 - (j + 1)) + 1 by omega]
        rfl
      cases hw : D7.want s lim (x.at_ + j) with
      | error e =>
        rw [hw] at hs1
        have HE := Px.hid (show argD s lim p 26 x.at_ = .error e by rw [HA.out, harg, hs1])
        have hc := dwant_no b (x.at_ + j) s lim _ vs vo wr hrep e hw
        rw [hpj] at hc
        have HC := Px.hid hc
        have hwn : IntKind.u64.wrap ((n : Int) * 256) = (n : Int) * 256 := IntWalk.u64_in _ ⟨by omega, by omega⟩
        clear hc hw hs1 harg hrep hn hn7 hpj hfr
        go_wp2_with fail
        refine HC.out.mono ?_
        rintro r w1 ⟨rfl, rfl⟩
        unfold panics
        go_wp2
        rw [HE.out]
        exact ⟨rfl, rfl, HR.out.2.2.1⟩
      | ok c =>
        rw [hw] at hs1
        have hcb : c < 256 := by
          unfold D7.want at hw
          by_cases q1 : s.length ≤ x.at_ + j
          · rw [if_pos q1] at hw; cases hw
          · rw [if_neg q1] at hw
            by_cases q2 : lim.b ≤ ((x.at_ + j : Nat) : Int)
            · rw [if_pos q2] at hw; cases hw
            · rw [if_neg q2] at hw
              simp only [Except.ok.injEq] at hw
              rw [← hw]; exact UInt8.toNat_lt _
        have hc := dwant_yes b (x.at_ + j) s lim _ vs vo wr hrep c hw
        rw [hpj] at hc
        have HC := Px.hid hc
        have hwn : IntKind.u64.wrap ((n : Int) * 256) = (n : Int) * 256 := IntWalk.u64_in _ ⟨by omega, by omega⟩
        have hor := or_byte n c hcb (by omega)
        have HN := Px.hid (And.intro (show n * 256 + c < 256 ^ (j + 1) by rw [Nat.pow_succ]; omega) (harg.trans hs1))
        have hmv := hrep.move (x.at_ + (j + 1))
        have hpj1 : ((x.at_ + (j + 1) : Nat) : Int) = (x.at_ : Int) + j + 1 := by omega
        rw [hpj1] at hmv
        have HMV := Px.hid (And.intro hmv (hfr.trans (It.set (b := b) (i := 5) (w := wr) (.int .i64 ((x.at_ : Int) + j + 1))) (fun _ _ h => h)))
        clear hc hw hs1 harg hrep hn hn7 hpj hpj1 hmv hfr
        go_wp2_with fail
        refine HC.out.mono ?_
        rintro r w1 ⟨rfl, rfl⟩
        go_wp2
        go_roundw
        case rel => exact ⟨j + 1, n * 256 + c, by omega, by go_num, by go_num, Px.hid ⟨HN.out.1, HMV.out.1, HMV.out.2, HN.out.2⟩⟩
        case measure => simp [intOf]; omega
    · have hltz : ¬ (j : Int) < 4 := by omega
      have hje : j = 4 := by omega
      subst hje
      have hok : D7.argN s lim 4 x.at_ 0 = .ok n := by rw [harg]; rfl
      have HK := Px.hid (And.intro hrep hfr)
      clear harg hrep hfr hn hlt hj
      by_cases hl : n < 65536
      · have HE := Px.hid (show argD s lim p 26 x.at_ = .error (p, 9) by rw [HA.out, hok]; simp only; rw [if_pos hl])
        have z1 : ((n : Int) / 65536 == 0) = true := by simp; omega
        clear hl hok
        go_wp2
        rw [HE.out]
        exact ⟨rfl, rfl, HK.out.2⟩
      · have HE := Px.hid (show argD s lim p 26 x.at_ = .ok n by rw [HA.out, hok]; simp only; rw [if_neg hl])
        have z1 : ((n : Int) / 65536 == 0) = false := by simp; omega
        clear hl hok
        go_wp2
        go_ret
        rw [HE.out]
        exact ⟨rfl, HK.out.1, HK.out.2⟩

set_option maxRecDepth 100000 in
set_option maxHeartbeats 2000000 in
theorem arg_27 (b p : Nat) (s : Bytes) (lim : Lim) (x : D7.Dx) (vs vo : Value) (w : World) (h : DrRep w b s lim x vs vo) (hx : x.at_ ≤ 1000000) :
    Calls Tryd.prog 70 #[.pointer (some ⟨b, 0, none⟩), .int .i64 (p : Nat), .int .u8 27] w fun r w' => ArgPost w b s lim x vs vo 8 (argD s lim p 27 x.at_) r w' := by
  have HA := Px.hid (show argD s lim p 27 x.at_ = (match D7.argN s lim 8 x.at_ 0 with | .error e => .error e | .ok n => if n < 4294967296 then .error (p, 9) else .ok n) from rfl)
  have H := Px.hid h
  clear h
  go_enter Tryd.func70, Tryd.ntmps70
  go_wp2
  go_loopw [7, 15] (fun nn i wr => ∃ j n : Nat, j ≤ 8 ∧ i = .int .i64 (j : Nat) ∧ nn = .int .u64 (n : Nat) ∧ Hid (n < 256 ^ j ∧ DrRep wr b s lim { x with at_ := x.at_ + j } vs vo ∧ Fr (It b) w wr ∧ D7.argN s lim 8 x.at_ 0 = D7.argN s lim (8 - j) (x.at_ + j) n)) (fun _ i _ => 8 - (intOf i).toNat)
  case atStart => exact ⟨0, 0, Nat.zero_le _, rfl, rfl, Px.hid ⟨by simp, H.out, Fr.refl _ _, rfl⟩⟩
  case round =>
    clear H
    obtain ⟨j, n, hj, rfl, rfl, HR⟩ := hrel
    obtain ⟨hn, hrep, hfr, harg⟩ := HR.out
    by_cases hlt : j < 8
    · have hltz : (j : Int) < 8 := by omega
      have hn7 : n < 72057594037927936 := Nat.lt_of_lt_of_le hn (by have : 256 ^ j ≤ 256 ^ 7 := Nat.pow_le_pow_right (by omega) (by omega); simpa using this)
      obtain ⟨_, _, _, _, c5, _, _⟩ := hrep.cells
      have f5 := hrep.free 5
      have hpj : ((x.at_ + j : Nat) : Int) = (x.at_ : Int) + j := by omega
      rw [hpj] at c5
      have hs1 : D7.argN s lim (8 - j) (x.at_ + j) n = match D7.want s lim (x.at_ + j) with | .error e => .error e | .ok c => D7.argN s lim (8 - (j + 1)) (x.at_ + j + 1) (n * 256 + c) := by
        rw [show 8 - j = (8 - (j + 1)) + 1 by omega]
        rfl
      cases hw : D7.want s lim (x.at_ + j) with
      | error e =>
        rw [hw] at hs1
        have HE := Px.hid (show argD s lim p 27 x.at_ = .error e by rw [HA.out, harg, hs1])
        have hc := dwant_no b (x.at_ + j) s lim _ vs vo wr hrep e hw
        rw [hpj] at hc
        have HC := Px.hid hc
        have hwn : IntKind.u64.wrap ((n : Int) * 256) = (n : Int) * 256 := IntWalk.u64_in _ ⟨by omega, by omega⟩
        clear hc hw hs1 harg hrep hn hn7 hpj hfr
        go_wp2_with fail
        refine HC.out.mono ?_
        rintro r w1 ⟨rfl, rfl⟩
        unfold panics
        go_wp2
        rw [HE.out]
        exact ⟨rfl, rfl, HR.out.2.2.1⟩
      | ok c =>
        rw [hw] at hs1
        have hcb : c < 256 := by
          unfold D7.want at hw
          by_cases q1 : s.length ≤ x.at_ + j
          · rw [if_pos q1] at hw; cases hw
          · rw [if_neg q1] at hw
            by_cases q2 : lim.b ≤ ((x.at_ + j : Nat) : Int)
            · rw [if_pos q2] at hw; cases hw
            · rw [if_neg q2] at hw
              simp only [Except.ok.injEq] at hw
              rw [← hw]; exact UInt8.toNat_lt _
        have hc := dwant_yes b (x.at_ + j) s lim _ vs vo wr hrep c hw
        rw [hpj] at hc
        have HC := Px.hid hc
        have hwn : IntKind.u64.wrap ((n : Int) * 256) = (n : Int) * 256 := IntWalk.u64_in _ ⟨by omega, by omega⟩
        have hor := or_byte n c hcb (by omega)
        have HN := Px.hid (And.intro (show n * 256 + c < 256 ^ (j + 1) by rw [Nat.pow_succ]; omega) (harg.trans hs1))
        have hmv := hrep.move (x.at_ + (j + 1))
        have hpj1 : ((x.at_ + (j + 1) : Nat) : Int) = (x.at_ : Int) + j + 1 := by omega
        rw [hpj1] at hmv
        have HMV := Px.hid (And.intro hmv (hfr.trans (It.set (b := b) (i := 5) (w := wr) (.int .i64 ((x.at_ : Int) + j + 1))) (fun _ _ h => h)))
        clear hc hw hs1 harg hrep hn hn7 hpj hpj1 hmv hfr
        go_wp2_with fail
        refine HC.out.mono ?_
        rintro r w1 ⟨rfl, rfl⟩
        go_wp2
        go_roundw
        case rel => exact ⟨j + 1, n * 256 + c, by omega, by go_num, by go_num, Px.hid ⟨HN.out.1, HMV.out.1, HMV.out.2, HN.out.2⟩⟩
        case measure => simp [intOf]; omega
    · have hltz : ¬ (j : Int) < 8 := by omega
      have hje : j = 8 := by omega
      subst hje
      have hok : D7.argN s lim 8 x.at_ 0 = .ok n := by rw [harg]; rfl
      have HK := Px.hid (And.intro hrep hfr)
      clear harg hrep hfr hn hlt hj
      by_cases hl : n < 4294967296
      · have HE := Px.hid (show argD s lim p 27 x.at_ = .error (p, 9) by rw [HA.out, hok]; simp only; rw [if_pos hl])
        have z1 : ((n : Int) / 4294967296 == 0) = true := by simp; omega
        clear hl hok
        go_wp2
        rw [HE.out]
        exact ⟨rfl, rfl, HK.out.2⟩
      · have HE := Px.hid (show argD s lim p 27 x.at_ = .ok n by rw [HA.out, hok]; simp only; rw [if_neg hl])
        have z1 : ((n : Int) / 4294967296 == 0) = false := by simp; omega
        clear hl hok
        go_wp2
        go_ret
        rw [HE.out]
        exact ⟨rfl, HK.out.1, HK.out.2⟩

theorem arg_any (b p a : Nat) (s : Bytes) (lim : Lim) (x : D7.Dx) (vs vo : Value) (w : World) (h : DrRep w b s lim x vs vo) (hx : x.at_ ≤ 1000000) (ha : a ≤ 27) :
    Calls Tryd.prog 70 #[.pointer (some ⟨b, 0, none⟩), .int .i64 (p : Nat), .int .u8 (a : Nat)] w fun r w' => ArgPost w b s lim x vs vo (if a < 24 then 0 else 2 ^ (a - 24)) (argD s lim p a x.at_) r w' := by
  by_cases h24 : a < 24
  · rw [if_pos h24]; exact arg_small b p a s lim x vs vo w h h24
  · rw [if_neg h24]
    have h4 : a = 24 ∨ a = 25 ∨ a = 26 ∨ a = 27 := by omega
    rcases h4 with rfl | rfl | rfl | rfl
    · exact arg_24 b p s lim x vs vo w h hx
    · exact arg_25 b p s lim x vs vo w h hx
    · exact arg_26 b p s lim x vs vo w h hx
    · exact arg_27 b p s lim x vs vo w h hx
end Go.Proofs.YtddiabaagpmkgaaDoor
