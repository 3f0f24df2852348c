/-
 Several texts in one: The walk over the program's argument (package cbor). The walk over the program's ended (package cbor); the innermost item in memory. The walk over the program's begin (package cbor), case by case. The walk over the program's begin (package cbor) where an item is read, kind by kind. The walk over the program's begin (package cbor) where an item is begun that holds others. The walk over the program's begin (package cbor) where an item is a text. The walk over the program's begin (package cbor), all its cases joined.
-/
import Derived.Test.YtddiabaagpmkgaaDoorXC
import Derived.WalkLawsBesides
import Derived.WalkSpells
/-! The walk over the program's argument (package cbor). -/
namespace Go.Proofs.YtddiabaagpmkgaaDoor
open Go.RowKit Go.Px

/-- The argument behind a head's first byte. -/
def argD (s : Bytes) (lim : Lim) (p a at_ : Nat) : Except D7.Flt Nat :=
 if a < 24 then .ok a else match D7.argN s lim (2 ^ (a - 24)) at_ 0 with
  | .error e => .error e
  | .ok n => if n < Cf.least a then .error (p, 9) else .ok n
def ArgPost (w : World) (b : Nat) (s : Bytes) (lim : Lim) (x : D7.Dx) (vs vo : Value) (W : Nat) (res : Except D7.Flt Nat) (r : Ending) (w' : World) : Prop :=
 match res with
 | .error e => r = panics e ∧ Fr (It b) w w'
 | .ok n => r = .returned (.int .u64 (n : Nat)) ∧ DrRep w' b s lim { x with at_ := x.at_ + W } vs vo ∧ Fr (It b) w w'
theorem arg_small (b p a : Nat) (s : Bytes) (lim : Lim) (x : D7.Dx) (vs vo : Value) (w : World) (h : DrRep w b s lim x vs vo) (ha : a < 24) :
  Calls Tryd.prog 70 #[.pointer (some ⟨b, 0, none⟩), .int .i64 (p : Nat), .int .u8 (a : Nat)] w fun r w' => ArgPost w b s lim x vs vo 0 (argD s lim p a x.at_) r w' := by
 have H := Px.hid (And.intro h (show argD s lim p a x.at_ = .ok a by unfold argD; rw [if_pos ha]))
 have hz : (a : Int) < 24 := by omega
 clear h ha
 go_enter Tryd.func70, Tryd.ntmps70
 go_wp2
 go_ret
 rw [H.out.2]
 exact ⟨rfl, H.out.1, Fr.refl _ _⟩

set_option maxRecDepth 100000 in
set_option maxHeartbeats 2000000 in
theorem arg_24 (b p : Nat) (s : Bytes) (lim : Lim) (x : D7.Dx) (vs vo : Value) (w : World) (h : DrRep w b s lim x vs vo) (hx : x.at_ ≤ 1000000) :
  Calls Tryd.prog 70 #[.pointer (some ⟨b, 0, none⟩), .int .i64 (p : Nat), .int .u8 24] w fun r w' => ArgPost w b s lim x vs vo 1 (argD s lim p 24 x.at_) r w' := by
 have HA := Px.hid (show argD s lim p 24 x.at_ = (match D7.argN s lim 1 x.at_ 0 with | .error e => .error e | .ok n => if n < 24 then .error (p, 9) else .ok n) from rfl)
 have H := Px.hid h
 clear h
 go_enter Tryd.func70, Tryd.ntmps70
 go_wp2
 go_loopw [7, 15] (fun nn i wr => ∃ j n : Nat, j ≤ 1 ∧ i = .int .i64 (j : Nat) ∧ nn = .int .u64 (n : Nat) ∧ Hid (n < 256 ^ j ∧ DrRep wr b s lim { x with at_ := x.at_ + j } vs vo ∧ Fr (It b) w wr ∧ D7.argN s lim 1 x.at_ 0 = D7.argN s lim (1 - j) (x.at_ + j) n)) (fun _ i _ => 1 - (intOf i).toNat)
 case atStart => exact ⟨0, 0, Nat.zero_le _, rfl, rfl, Px.hid ⟨by simp, H.out, Fr.refl _ _, rfl⟩⟩
 case round =>
  clear H
  obtain ⟨j, n, hj, rfl, rfl, HR⟩ := hrel
  obtain ⟨hn, hrep, hfr, harg⟩ := HR.out
  by_cases hlt : j < 1
  ·have hltz : (j : Int) < 1 := by omega
   have hn7 : n < 72057594037927936 := Nat.lt_of_lt_of_le hn (by have : 256 ^ j ≤ 256 ^ 7 := Nat.pow_le_pow_right (by omega) (by omega); simpa using this)
   obtain ⟨_, _, _, _, c5, _, _⟩ := hrep.cells
   have f5 := hrep.free 5
   have hpj : ((x.at_ + j : Nat) : Int) = (x.at_ : Int) + j := by omega
   rw [hpj] at c5
   have hs1 : D7.argN s lim (1 - j) (x.at_ + j) n = match D7.want s lim (x.at_ + j) with | .error e => .error e | .ok c => D7.argN s lim (1 - (j + 1)) (x.at_ + j + 1) (n * 256 + c) := by
    rw [show 1 - j = (1 - (j + 1)) + 1 by omega]
    rfl
   cases hw : D7.want s lim (x.at_ + j) with
   | error e =>
    rw [hw] at hs1
    have HE := Px.hid (show argD s lim p 24 x.at_ = .error e by rw [HA.out, harg, hs1])
    have hc := dwant_no b (x.at_ + j) s lim _ vs vo wr hrep e hw
    rw [hpj] at hc
    have HC := Px.hid hc
    have hwn : IntKind.u64.wrap ((n : Int) * 256) = (n : Int) * 256 := IntWalk.u64_in _ ⟨by omega, by omega⟩
    clear hc hw hs1 harg hrep hn hn7 hpj hfr
    go_wp2_with fail
    refine HC.out.mono ?_
    rintro r w1 ⟨rfl, rfl⟩
    unfold panics
    go_wp2
    rw [HE.out]
    exact ⟨rfl, rfl, HR.out.2.2.1⟩
   | ok c =>
    rw [hw] at hs1
    have hcb : c < 256 := by
     unfold D7.want at hw
     by_cases q1 : s.length ≤ x.at_ + j
     ·rw [if_pos q1] at hw; cases hw
     ·rw [if_neg q1] at hw
      by_cases q2 : lim.b ≤ ((x.at_ + j : Nat) : Int)
      ·rw [if_pos q2] at hw; cases hw
      ·rw [if_neg q2] at hw
       simp only [Except.ok.injEq] at hw
       rw [← hw]; exact UInt8.toNat_lt _
    have hc := dwant_yes b (x.at_ + j) s lim _ vs vo wr hrep c hw
    rw [hpj] at hc
    have HC := Px.hid hc
    have hwn : IntKind.u64.wrap ((n : Int) * 256) = (n : Int) * 256 := IntWalk.u64_in _ ⟨by omega, by omega⟩
    have hor := or_byte n c hcb (by omega)
    have HN := Px.hid (And.intro (show n * 256 + c < 256 ^ (j + 1) by rw [Nat.pow_succ]; omega) (harg.trans hs1))
    have hmv := hrep.move (x.at_ + (j + 1))
    have hpj1 : ((x.at_ + (j + 1) : Nat) : Int) = (x.at_ : Int) + j + 1 := by omega
    rw [hpj1] at hmv
    have HMV := Px.hid (And.intro hmv (hfr.trans (It.set (b := b) (i := 5) (w := wr) (.int .i64 ((x.at_ : Int) + j + 1))) (fun _ _ h => h)))
    clear hc hw hs1 harg hrep hn hn7 hpj hpj1 hmv hfr
    go_wp2_with fail
    refine HC.out.mono ?_
    rintro r w1 ⟨rfl, rfl⟩
    go_wp2
    go_roundw
    case rel => exact ⟨j + 1, n * 256 + c, by omega, by go_num, by go_num, Px.hid ⟨HN.out.1, HMV.out.1, HMV.out.2, HN.out.2⟩⟩
    case measure => simp [intOf]; omega
  ·have hltz : ¬ (j : Int) < 1 := by omega
   have hje : j = 1 := by omega
   subst hje
   have hok : D7.argN s lim 1 x.at_ 0 = .ok n := by rw [harg]; rfl
   have HK := Px.hid (And.intro hrep hfr)
   clear harg hrep hfr hn hlt hj
   by_cases hl : n < 24
   ·have HE := Px.hid (show argD s lim p 24 x.at_ = .error (p, 9) by rw [HA.out, hok]; simp only; rw [if_pos hl])
    have z1 : (n : Int) < 24 := by omega
    clear hl hok
    go_wp2
    rw [HE.out]
    exact ⟨rfl, rfl, HK.out.2⟩
   ·have HE := Px.hid (show argD s lim p 24 x.at_ = .ok n by rw [HA.out, hok]; simp only; rw [if_neg hl])
    have z1 : ¬ (n : Int) < 24 := by omega
    clear hl hok
    go_wp2
    go_ret
    rw [HE.out]
    exact ⟨rfl, HK.out.1, HK.out.2⟩

set_option maxRecDepth 100000 in
set_option maxHeartbeats 2000000 in
theorem arg_25 (b p : Nat) (s : Bytes) (lim : Lim) (x : D7.Dx) (vs vo : Value) (w : World) (h : DrRep w b s lim x vs vo) (hx : x.at_ ≤ 1000000) :
  Calls Tryd.prog 70 #[.pointer (some ⟨b, 0, none⟩), .int .i64 (p : Nat), .int .u8 25] w fun r w' => ArgPost w b s lim x vs vo 2 (argD s lim p 25 x.at_) r w' := by
 have HA := Px.hid (show argD s lim p 25 x.at_ = (match D7.argN s lim 2 x.at_ 0 with | .error e => .error e | .ok n => if n < 256 then .error (p, 9) else .ok n) from rfl)
 have H := Px.hid h
 clear h
 go_enter Tryd.func70, Tryd.ntmps70
 go_wp2
 go_loopw [7, 15] (fun nn i wr => ∃ j n : Nat, j ≤ 2 ∧ i = .int .i64 (j : Nat) ∧ nn = .int .u64 (n : Nat) ∧ Hid (n < 256 ^ j ∧ DrRep wr b s lim { x with at_ := x.at_ + j } vs vo ∧ Fr (It b) w wr ∧ D7.argN s lim 2 x.at_ 0 = D7.argN s lim (2 - j) (x.at_ + j) n)) (fun _ i _ => 2 - (intOf i).toNat)
 case atStart => exact ⟨0, 0, Nat.zero_le _, rfl, rfl, Px.hid ⟨by simp, H.out, Fr.refl _ _, rfl⟩⟩
 case round =>
  clear H
  obtain ⟨j, n, hj, rfl, rfl, HR⟩ := hrel
  obtain ⟨hn, hrep, hfr, harg⟩ := HR.out
  by_cases hlt : j < 2
  ·have hltz : (j : Int) < 2 := by omega
   have hn7 : n < 72057594037927936 := Nat.lt_of_lt_of_le hn (by have : 256 ^ j ≤ 256 ^ 7 := Nat.pow_le_pow_right (by omega) (by omega); simpa using this)
   obtain ⟨_, _, _, _, c5, _, _⟩ := hrep.cells
   have f5 := hrep.free 5
   have hpj : ((x.at_ + j : Nat) : Int) = (x.at_ : Int) + j := by omega
   rw [hpj] at c5
   have hs1 : D7.argN s lim (2 - j) (x.at_ + j) n = match D7.want s lim (x.at_ + j) with | .error e => .error e | .ok c => D7.argN s lim (2 - (j + 1)) (x.at_ + j + 1) (n * 256 + c) := by
    rw [show 2 - j = (2 - (j + 1)) + 1 by omega]
    rfl
   cases hw : D7.want s lim (x.at_ + j) with
   | error e =>
    rw [hw] at hs1
    have HE := Px.hid (show argD s lim p 25 x.at_ = .error e by rw [HA.out, harg, hs1])
    have hc := dwant_no b (x.at_ + j) s lim _ vs vo wr hrep e hw
    rw [hpj] at hc
    have HC := Px.hid hc
    have hwn : IntKind.u64.wrap ((n : Int) * 256) = (n : Int) * 256 := IntWalk.u64_in _ ⟨by omega, by omega⟩
    clear hc hw hs1 harg hrep hn hn7 hpj hfr
    go_wp2_with fail
    refine HC.out.mono ?_
    rintro r w1 ⟨rfl, rfl⟩
    unfold panics
    go_wp2
    rw [HE.out]
    exact ⟨rfl, rfl, HR.out.2.2.1⟩
   | ok c =>
    rw [hw] at hs1
    have hcb : c < 256 := by
     unfold D7.want at hw
     by_cases q1 : s.length ≤ x.at_ + j
     ·rw [if_pos q1] at hw; cases hw
     ·rw [if_neg q1] at hw
      by_cases q2 : lim.b ≤ ((x.at_ + j : Nat) : Int)
      ·rw [if_pos q2] at hw; cases hw
      ·rw [if_neg q2] at hw
       simp only [Except.ok.injEq] at hw
       rw [← hw]; exact UInt8.toNat_lt _
    have hc := dwant_yes b (x.at_ + j) s lim _ vs vo wr hrep c hw
    rw [hpj] at hc
    have HC := Px.hid hc
    have hwn : IntKind.u64.wrap ((n : Int) * 256) = (n : Int) * 256 := IntWalk.u64_in _ ⟨by omega, by omega⟩
    have hor := or_byte n c hcb (by omega)
    have HN := Px.hid (And.intro (show n * 256 + c < 256 ^ (j + 1) by rw [Nat.pow_succ]; omega) (harg.trans hs1))
    have hmv := hrep.move (x.at_ + (j + 1))
    have hpj1 : ((x.at_ + (j + 1) : Nat) : Int) = (x.at_ : Int) + j + 1 := by omega
    rw [hpj1] at hmv
    have HMV := Px.hid (And.intro hmv (hfr.trans (It.set (b := b) (i := 5) (w := wr) (.int .i64 ((x.at_ : Int) + j + 1))) (fun _ _ h => h)))
    clear hc hw hs1 harg hrep hn hn7 hpj hpj1 hmv hfr
    go_wp2_with fail
    refine HC.out.mono ?_
    rintro r w1 ⟨rfl, rfl⟩
    go_wp2
    go_roundw
    case rel => exact ⟨j + 1, n * 256 + c, by omega, by go_num, by go_num, Px.hid ⟨HN.out.1, HMV.out.1, HMV.out.2, HN.out.2⟩⟩
    case measure => simp [intOf]; omega
  ·have hltz : ¬ (j : Int) < 2 := by omega
   have hje : j = 2 := by omega
   subst hje
   have hok : D7.argN s lim 2 x.at_ 0 = .ok n := by rw [harg]; rfl
   have HK := Px.hid (And.intro hrep hfr)
   clear harg hrep hfr hn hlt hj
   by_cases hl : n < 256
   ·have HE := Px.hid (show argD s lim p 25 x.at_ = .error (p, 9) by rw [HA.out, hok]; simp only; rw [if_pos hl])
    have z1 : ((n : Int) / 256 == 0) = true := by simp; omega
    clear hl hok
    go_wp2
    rw [HE.out]
    exact ⟨rfl, rfl, HK.out.2⟩
   ·have HE := Px.hid (show argD s lim p 25 x.at_ = .ok n by rw [HA.out, hok]; simp only; rw [if_neg hl])
    have z1 : ((n : Int) / 256 == 0) = false := by simp; omega
    clear hl hok
    go_wp2
    go_ret
    rw [HE.out]
    exact ⟨rfl, HK.out.1, HK.out.2⟩

set_option maxRecDepth 100000 in
set_option maxHeartbeats 2000000 in
theorem arg_26 (b p : Nat) (s : Bytes) (lim : Lim) (x : D7.Dx) (vs vo : Value) (w : World) (h : DrRep w b s lim x vs vo) (hx : x.at_ ≤ 1000000) :
  Calls Tryd.prog 70 #[.pointer (some ⟨b, 0, none⟩), .int .i64 (p : Nat), .int .u8 26] w fun r w' => ArgPost w b s lim x vs vo 4 (argD s lim p 26 x.at_) r w' := by
 have HA := Px.hid (show argD s lim p 26 x.at_ = (match D7.argN s lim 4 x.at_ 0 with | .error e => .error e | .ok n => if n < 65536 then .error (p, 9) else .ok n) from rfl)
 have H := Px.hid h
 clear h
 go_enter Tryd.func70, Tryd.ntmps70
 go_wp2
 go_loopw [7, 15] (fun nn i wr => ∃ j n : Nat, j ≤ 4 ∧ i = .int .i64 (j : Nat) ∧ nn = .int .u64 (n : Nat) ∧ Hid (n < 256 ^ j ∧ DrRep wr b s lim { x with at_ := x.at_ + j } vs vo ∧ Fr (It b) w wr ∧ D7.argN s lim 4 x.at_ 0 = D7.argN s lim (4 - j) (x.at_ + j) n)) (fun _ i _ => 4 - (intOf i).toNat)
 case atStart => exact ⟨0, 0, Nat.zero_le _, rfl, rfl, Px.hid ⟨by simp, H.out, Fr.refl _ _, rfl⟩⟩
 case round =>
  clear H
  obtain ⟨j, n, hj, rfl, rfl, HR⟩ := hrel
  obtain ⟨hn, hrep, hfr, harg⟩ := HR.out
  by_cases hlt : j < 4
  ·have hltz : (j : Int) < 4 := by omega
   have hn7 : n < 72057594037927936 := Nat.lt_of_lt_of_le hn (by have : 256 ^ j ≤ 256 ^ 7 := Nat.pow_le_pow_right (by omega) (by omega); simpa using this)
   obtain ⟨_, _, _, _, c5, _, _⟩ := hrep.cells
   have f5 := hrep.free 5
   have hpj : ((x.at_ + j : Nat) : Int) = (x.at_ : Int) + j := by omega
   rw [hpj] at c5
   have hs1 : D7.argN s lim (4 - j) (x.at_ + j) n = match D7.want s lim (x.at_ + j) with | .error e => .error e | .ok c => D7.argN s lim (4 - (j + 1)) (x.at_ + j + 1) (n * 256 + c) := by
    rw [show 4 - j = (4 - (j + 1)) + 1 by omega]
    rfl
   cases hw : D7.want s lim (x.at_ + j) with
   | error e =>
    rw [hw] at hs1
    have HE := Px.hid (show argD s lim p 26 x.at_ = .error e by rw [HA.out, harg, hs1])
    have hc := dwant_no b (x.at_ + j) s lim _ vs vo wr hrep e hw
    rw [hpj] at hc
    have HC := Px.hid hc
    have hwn : IntKind.u64.wrap ((n : Int) * 256) = (n : Int) * 256 := IntWalk.u64_in _ ⟨by omega, by omega⟩
    clear hc hw hs1 harg hrep hn hn7 hpj hfr
    go_wp2_with fail
    refine HC.out.mono ?_
    rintro r w1 ⟨rfl, rfl⟩
    unfold panics
    go_wp2
    rw [HE.out]
    exact ⟨rfl, rfl, HR.out.2.2.1⟩
   | ok c =>
    rw [hw] at hs1
    have hcb : c < 256 := by
     unfold D7.want at hw
     by_cases q1 : s.length ≤ x.at_ + j
     ·rw [if_pos q1] at hw; cases hw
     ·rw [if_neg q1] at hw
      by_cases q2 : lim.b ≤ ((x.at_ + j : Nat) : Int)
      ·rw [if_pos q2] at hw; cases hw
      ·rw [if_neg q2] at hw
       simp only [Except.ok.injEq] at hw
       rw [← hw]; exact UInt8.toNat_lt _
    have hc := dwant_yes b (x.at_ + j) s lim _ vs vo wr hrep c hw
    rw [hpj] at hc
    have HC := Px.hid hc
    have hwn : IntKind.u64.wrap ((n : Int) * 256) = (n : Int) * 256 := IntWalk.u64_in _ ⟨by omega, by omega⟩
    have hor := or_byte n c hcb (by omega)
    have HN := Px.hid (And.intro (show n * 256 + c < 256 ^ (j + 1) by rw [Nat.pow_succ]; omega) (harg.trans hs1))
    have hmv := hrep.move (x.at_ + (j + 1))
    have hpj1 : ((x.at_ + (j + 1) : Nat) : Int) = (x.at_ : Int) + j + 1 := by omega
    rw [hpj1] at hmv
    have HMV := Px.hid (And.intro hmv (hfr.trans (It.set (b := b) (i := 5) (w := wr) (.int .i64 ((x.at_ : Int) + j + 1))) (fun _ _ h => h)))
    clear hc hw hs1 harg hrep hn hn7 hpj hpj1 hmv hfr
    go_wp2_with fail
    refine HC.out.mono ?_
    rintro r w1 ⟨rfl, rfl⟩
    go_wp2
    go_roundw
    case rel => exact ⟨j + 1, n * 256 + c, by omega, by go_num, by go_num, Px.hid ⟨HN.out.1, HMV.out.1, HMV.out.2, HN.out.2⟩⟩
    case measure => simp [intOf]; omega
  ·have hltz : ¬ (j : Int) < 4 := by omega
   have hje : j = 4 := by omega
   subst hje
   have hok : D7.argN s lim 4 x.at_ 0 = .ok n := by rw [harg]; rfl
   have HK := Px.hid (And.intro hrep hfr)
   clear harg hrep hfr hn hlt hj
   by_cases hl : n < 65536
   ·have HE := Px.hid (show argD s lim p 26 x.at_ = .error (p, 9) by rw [HA.out, hok]; simp only; rw [if_pos hl])
    have z1 : ((n : Int) / 65536 == 0) = true := by simp; omega
    clear hl hok
    go_wp2
    rw [HE.out]
    exact ⟨rfl, rfl, HK.out.2⟩
   ·have HE := Px.hid (show argD s lim p 26 x.at_ = .ok n by rw [HA.out, hok]; simp only; rw [if_neg hl])
    have z1 : ((n : Int) / 65536 == 0) = false := by simp; omega
    clear hl hok
    go_wp2
    go_ret
    rw [HE.out]
    exact ⟨rfl, HK.out.1, HK.out.2⟩

set_option maxRecDepth 100000 in
set_option maxHeartbeats 2000000 in
theorem arg_27 (b p : Nat) (s : Bytes) (lim : Lim) (x : D7.Dx) (vs vo : Value) (w : World) (h : DrRep w b s lim x vs vo) (hx : x.at_ ≤ 1000000) :
  Calls Tryd.prog 70 #[.pointer (some ⟨b, 0, none⟩), .int .i64 (p : Nat), .int .u8 27] w fun r w' => ArgPost w b s lim x vs vo 8 (argD s lim p 27 x.at_) r w' := by
 have HA := Px.hid (show argD s lim p 27 x.at_ = (match D7.argN s lim 8 x.at_ 0 with | .error e => .error e | .ok n => if n < 4294967296 then .error (p, 9) else .ok n) from rfl)
 have H := Px.hid h
 clear h
 go_enter Tryd.func70, Tryd.ntmps70
 go_wp2
 go_loopw [7, 15] (fun nn i wr => ∃ j n : Nat, j ≤ 8 ∧ i = .int .i64 (j : Nat) ∧ nn = .int .u64 (n : Nat) ∧ Hid (n < 256 ^ j ∧ DrRep wr b s lim { x with at_ := x.at_ + j } vs vo ∧ Fr (It b) w wr ∧ D7.argN s lim 8 x.at_ 0 = D7.argN s lim (8 - j) (x.at_ + j) n)) (fun _ i _ => 8 - (intOf i).toNat)
 case atStart => exact ⟨0, 0, Nat.zero_le _, rfl, rfl, Px.hid ⟨by simp, H.out, Fr.refl _ _, rfl⟩⟩
 case round =>
  clear H
  obtain ⟨j, n, hj, rfl, rfl, HR⟩ := hrel
  obtain ⟨hn, hrep, hfr, harg⟩ := HR.out
  by_cases hlt : j < 8
  ·have hltz : (j : Int) < 8 := by omega
   have hn7 : n < 72057594037927936 := Nat.lt_of_lt_of_le hn (by have : 256 ^ j ≤ 256 ^ 7 := Nat.pow_le_pow_right (by omega) (by omega); simpa using this)
   obtain ⟨_, _, _, _, c5, _, _⟩ := hrep.cells
   have f5 := hrep.free 5
   have hpj : ((x.at_ + j : Nat) : Int) = (x.at_ : Int) + j := by omega
   rw [hpj] at c5
   have hs1 : D7.argN s lim (8 - j) (x.at_ + j) n = match D7.want s lim (x.at_ + j) with | .error e => .error e | .ok c => D7.argN s lim (8 - (j + 1)) (x.at_ + j + 1) (n * 256 + c) := by
    rw [show 8 - j = (8 - (j + 1)) + 1 by omega]
    rfl
   cases hw : D7.want s lim (x.at_ + j) with
   | error e =>
    rw [hw] at hs1
    have HE := Px.hid (show argD s lim p 27 x.at_ = .error e by rw [HA.out, harg, hs1])
    have hc := dwant_no b (x.at_ + j) s lim _ vs vo wr hrep e hw
    rw [hpj] at hc
    have HC := Px.hid hc
    have hwn : IntKind.u64.wrap ((n : Int) * 256) = (n : Int) * 256 := IntWalk.u64_in _ ⟨by omega, by omega⟩
    clear hc hw hs1 harg hrep hn hn7 hpj hfr
    go_wp2_with fail
    refine HC.out.mono ?_
    rintro r w1 ⟨rfl, rfl⟩
    unfold panics
    go_wp2
    rw [HE.out]
    exact ⟨rfl, rfl, HR.out.2.2.1⟩
   | ok c =>
    rw [hw] at hs1
    have hcb : c < 256 := by
     unfold D7.want at hw
     by_cases q1 : s.length ≤ x.at_ + j
     ·rw [if_pos q1] at hw; cases hw
     ·rw [if_neg q1] at hw
      by_cases q2 : lim.b ≤ ((x.at_ + j : Nat) : Int)
      ·rw [if_pos q2] at hw; cases hw
      ·rw [if_neg q2] at hw
       simp only [Except.ok.injEq] at hw
       rw [← hw]; exact UInt8.toNat_lt _
    have hc := dwant_yes b (x.at_ + j) s lim _ vs vo wr hrep c hw
    rw [hpj] at hc
    have HC := Px.hid hc
    have hwn : IntKind.u64.wrap ((n : Int) * 256) = (n : Int) * 256 := IntWalk.u64_in _ ⟨by omega, by omega⟩
    have hor := or_byte n c hcb (by omega)
    have HN := Px.hid (And.intro (show n * 256 + c < 256 ^ (j + 1) by rw [Nat.pow_succ]; omega) (harg.trans hs1))
    have hmv := hrep.move (x.at_ + (j + 1))
    have hpj1 : ((x.at_ + (j + 1) : Nat) : Int) = (x.at_ : Int) + j + 1 := by omega
    rw [hpj1] at hmv
    have HMV := Px.hid (And.intro hmv (hfr.trans (It.set (b := b) (i := 5) (w := wr) (.int .i64 ((x.at_ : Int) + j + 1))) (fun _ _ h => h)))
    clear hc hw hs1 harg hrep hn hn7 hpj hpj1 hmv hfr
    go_wp2_with fail
    refine HC.out.mono ?_
    rintro r w1 ⟨rfl, rfl⟩
    go_wp2
    go_roundw
    case rel => exact ⟨j + 1, n * 256 + c, by omega, by go_num, by go_num, Px.hid ⟨HN.out.1, HMV.out.1, HMV.out.2, HN.out.2⟩⟩
    case measure => simp [intOf]; omega
  ·have hltz : ¬ (j : Int) < 8 := by omega
   have hje : j = 8 := by omega
   subst hje
   have hok : D7.argN s lim 8 x.at_ 0 = .ok n := by rw [harg]; rfl
   have HK := Px.hid (And.intro hrep hfr)
   clear harg hrep hfr hn hlt hj
   by_cases hl : n < 4294967296
   ·have HE := Px.hid (show argD s lim p 27 x.at_ = .error (p, 9) by rw [HA.out, hok]; simp only; rw [if_pos hl])
    have z1 : ((n : Int) / 4294967296 == 0) = true := by simp; omega
    clear hl hok
    go_wp2
    rw [HE.out]
    exact ⟨rfl, rfl, HK.out.2⟩
   ·have HE := Px.hid (show argD s lim p 27 x.at_ = .ok n by rw [HA.out, hok]; simp only; rw [if_neg hl])
    have z1 : ((n : Int) / 4294967296 == 0) = false := by simp; omega
    clear hl hok
    go_wp2
    go_ret
    rw [HE.out]
    exact ⟨rfl, HK.out.1, HK.out.2⟩

theorem arg_any (b p a : Nat) (s : Bytes) (lim : Lim) (x : D7.Dx) (vs vo : Value) (w : World) (h : DrRep w b s lim x vs vo) (hx : x.at_ ≤ 1000000) (ha : a ≤ 27) :
  Calls Tryd.prog 70 #[.pointer (some ⟨b, 0, none⟩), .int .i64 (p : Nat), .int .u8 (a : Nat)] w fun r w' => ArgPost w b s lim x vs vo (if a < 24 then 0 else 2 ^ (a - 24)) (argD s lim p a x.at_) r w' := by
 by_cases h24 : a < 24
 ·rw [if_pos h24]; exact arg_small b p a s lim x vs vo w h h24
 ·rw [if_neg h24]
  have h4 : a = 24 ∨ a = 25 ∨ a = 26 ∨ a = 27 := by omega
  rcases h4 with rfl | rfl | rfl | rfl
  ·exact arg_24 b p s lim x vs vo w h hx
  ·exact arg_25 b p s lim x vs vo w h hx
  ·exact arg_26 b p s lim x vs vo w h hx
  ·exact arg_27 b p s lim x vs vo w h hx
end Go.Proofs.YtddiabaagpmkgaaDoor

/-! The walk over the program's ended (package cbor); the innermost item in memory. -/
namespace Go.Proofs.YtddiabaagpmkgaaDoor
open Go.RowKit Go.Px

section
variable {w w' : World} {b : Nat} {s : Bytes} {lim : Lim} {x : D7.Dx} {vs vo : Value}
theorem DrRep.stackLen (h : DrRep w b s lim x vs vo) : ∃ a cap, vs = .slice a x.stack.length cap := by
 obtain ⟨a, cap, hv, _⟩ := h.stack.len
 exact ⟨a, cap, by simpa using hv⟩
/-- The innermost one, open. -/
theorem DrRep.top {f : D7.Fm} {rest : List D7.Fm} (h : DrRep w b s lim x vs vo) (hs : x.stack = f :: rest) :
  ∃ g cap, vs = .slice (some ⟨g, 0, none⟩) (rest.length + 1) cap ∧ rest.length + 1 ≤ cap ∧ cap ≤ maxLen ∧
   w.cell? ⟨g, rest.length * 5, none⟩ = some (.int .i64 f.kind) ∧ w.cell? ⟨g, rest.length * 5 + 1, none⟩ = some (.int .i64 (f.at_ : Nat)) ∧
   w.cell? ⟨g, rest.length * 5 + 2, none⟩ = some (.int .u64 (f.left : Nat)) ∧ w.cell? ⟨g, rest.length * 5 + 3, none⟩ = some (S f.key) ∧ w.cell? ⟨g, rest.length * 5 + 4, none⟩ = some (.bool f.any) ∧
   (∀ i, w.frozen? ⟨g, i, none⟩ = false) := by
 have h' : Owns w 108 5 cFm vs (rest.reverse ++ [f]) := by have := h.stack; rw [hs] at this; simpa using this
 obtain ⟨g, cap, h1, h2, h3, h4, h5⟩ := h'.last cFm_len
 rw [List.length_reverse] at h1 h2 h4
 exact ⟨g, cap, h1, h2, h3, h4 0 _ rfl, h4 1 _ rfl, h4 2 _ rfl, h4 3 _ rfl, h4 4 _ rfl, h5⟩
/-- A cell of the innermost one is written. -/
theorem DrRep.setTop {f y : D7.Fm} {rest : List D7.Fm} {g cap : Nat} (h : DrRep w b s lim x (.slice (some ⟨g, 0, none⟩) (rest.length + 1) cap) vo) (hs : x.stack = f :: rest) (i : Nat) (u : Value) (hc : cFm y = (cFm f).set i u) :
  DrRep (w.setCell ⟨g, rest.length * 5 + i, none⟩ u) b s lim { x with stack := y :: rest } (.slice (some ⟨g, 0, none⟩) (rest.length + 1) cap) vo := by
 have h' : Owns w 108 5 cFm (.slice (some ⟨g, 0, none⟩) (rest.reverse.length + 1) cap) (rest.reverse ++ [f]) := by have := h.stack; rw [hs] at this; simpa using this
 have k := h'.setLast cFm_len i u hc
 rw [List.length_reverse] at k
 refine ⟨?_, by simpa using k, h.out.setCell (p := ⟨g, _, none⟩) (fun e => h.so g rfl e) u, h.sb, h.ob, h.so⟩
 rw [heap_setCell_other _ _ _ _ (fun e => h.sb g rfl (by rw [e]))]
 exact h.blk
/-- The innermost one is taken off. -/
theorem DrRep.pop {f : D7.Fm} {rest : List D7.Fm} {g cap : Nat} (h : DrRep w b s lim x (.slice (some ⟨g, 0, none⟩) (rest.length + 1) cap) vo) (hs : x.stack = f :: rest) :
  DrRep (w.setCell ⟨b, 6, none⟩ (.slice (some ⟨g, 0, none⟩) rest.length cap)) b s lim { x with stack := rest } (.slice (some ⟨g, 0, none⟩) rest.length cap) vo := by
 have h' : Owns w 108 5 cFm (.slice (some ⟨g, 0, none⟩) (rest.reverse.length + 1) cap) (rest.reverse ++ [f]) := by have := h.stack; rw [hs] at this; simpa using this
 have k := h'.pop cFm_len
 rw [List.length_reverse] at k
 refine ⟨by rw [heap_setCell_same w b 6 _ _ _ h.blk]; rfl, ?_, h.out.setCell (p := ⟨b, 6, none⟩) h.ob.ne _, h.sb, h.ob, h.so⟩
 have := k.setCell (p := ⟨b, 6, none⟩) h.sb.ne (.slice (some ⟨g, 0, none⟩) rest.length cap)
 have e : ({ x with stack := rest } : D7.Dx).stack.reverse = rest.reverse := rfl
 rw [e]
 unfold Owns at this ⊢
 rw [List.length_reverse] at this ⊢
 exact this
end

def EndPost (w : World) (b : Nat) (s : Bytes) (lim : Lim) (F : Nat → Prop) (res : Except D7.Flt D7.Dx) (r : Ending) (w' : World) : Prop :=
 match res with
 | .error e => r = panics e ∧ Fr F w w'
 | .ok y => r = .returned (.tuple #[]) ∧ DrAt w' b s lim y F ∧ Fr F w w'

set_option maxRecDepth 100000 in
set_option maxHeartbeats 2000000 in
theorem dended_any (b p : Nat) (s : Bytes) (lim : Lim) (x : D7.Dx) (F : Nat → Prop) (w : World) (h : DrAt w b s lim x F) (hp : p ≤ x.at_) (hx : x.at_ ≤ s.length) (hl : ∀ f rest, x.stack = f :: rest → 0 < f.left ∧ f.left < 18446744073709551616) (hst : x.stack.length ≤ 1000) :
  Calls Tryd.prog 52 #[.pointer (some ⟨b, 0, none⟩), .int .i64 (p : Nat)] w fun r w' => EndPost w b s lim F (D7.ended s x p) r w' := by
 obtain ⟨vs, vo, h, rfl⟩ := h
 obtain ⟨a, cap, hv⟩ := h.stackLen
 obtain ⟨_, _, _, _, _, c6, _⟩ := h.cells
 rw [hv] at c6
 rcases hs : x.stack with _ | ⟨f, rest⟩
 ·rw [hs] at c6
  have hr : D7.ended s x p = .ok x := by simp [D7.ended, hs]
  have H := Px.hid (And.intro h hr)
  clear hr h hs hp hl hv
  go_enter Tryd.func52, Tryd.ntmps52
  go_wp2
  refine bodyPost_ret (results_none rfl _ _ _) rfl ?_
  rw [H.out.2]
  exact ⟨rfl, ⟨_, _, H.out.1, rfl⟩, Fr.refl _ _⟩
 ·obtain ⟨hl1, hl2⟩ := hl f rest hs
  clear c6 hv
  obtain ⟨c0, _, _, _, c5, c6, _⟩ := h.cells
  obtain ⟨g, cap', hv, hc1, hc2, k0, k1, k2, k3, k4, kf⟩ := h.top hs
  subst hv
  rw [hs] at hst
  simp at hst
  unfold maxLen at hc2
  have n0 : ((rest.length : Int) + 1 == 0) = false := by simp; omega
  have en : ((f.left - 1 : Nat) : Int) = (f.left : Int) - 1 := by omega
  have hsz : (ByteArray.mk s.toArray).size = s.length := size_S s
  have hslc := fun w => slice_S s p x.at_ hp hx w
  obtain ⟨key, hkey⟩ : ∃ key, key = (s.take x.at_).drop p := ⟨_, rfl⟩
  have hr : D7.ended s x p = if f.kind == 5 && f.left % 2 == 0 then (if f.any && leB key f.key then .error (p, 9) else .ok { x with stack := { f with key := key, any := true, left := f.left - 1 } :: rest }) else .ok { x with stack := { f with left := f.left - 1 } :: rest } := by simp [D7.ended, hs, hkey]
  rw [← hkey] at hslc
  clear hkey
  rw [hr]
  by_cases hk : (f.kind == 5 && f.left % 2 == 0) = true
  ·rw [if_pos hk]
   simp only [Bool.and_eq_true, beq_iff_eq] at hk
   obtain ⟨hk5, hk2⟩ := hk
   have hk5' : (f.kind == 5) = true := by simpa using hk5
   have hk2' : ((f.left : Int) % 2 == 0) = true := by simp; omega
   by_cases hle : (f.any && leB key f.key) = true
   ·rw [if_pos hle]
    simp only [leB, Bool.and_eq_true] at hle
    obtain ⟨ha, hle⟩ := hle
    have H := Px.hid h
    have H5 := Px.hid hk5
    clear hk5 hr h hs
    go_enter Tryd.func52, Tryd.ntmps52
    go_wp2_with fail
    go_quiet (fail)
    go_wp2
    exact ⟨rfl, rfl, (Fr.refl _ w).drewN nq⟩
   ·rw [if_neg hle]
    have e1 := fun W (hh : DrRep W b s lim x (.slice (some ⟨g, 0, none⟩) (rest.length + 1) cap') vo) => ((hh.setTop (y := { f with key := key }) hs 3 (S key) rfl).setTop (y := { f with key := key, any := true }) rfl 4 (.bool true) rfl).setTop (y := { f with key := key, any := true, left := f.left - 1 }) rfl 2 (.int .u64 (f.left - 1 : Nat)) rfl
    have hfo : dfoot b (.slice (some ⟨g, 0, none⟩) (rest.length + 1) cap') vo g := .inr (.inl rfl)
    have fr1 := fun n => (((Fr.drewN (Fr.refl (dfoot b (.slice (some ⟨g, 0, none⟩) (rest.length + 1) cap') vo) w) n).setCell (p := ⟨g, rest.length * 5 + 3, none⟩) (.inl hfo) (S key)).setCell (p := ⟨g, rest.length * 5 + 4, none⟩) (.inl hfo) (.bool true)).setCell (p := ⟨g, rest.length * 5 + 2, none⟩) (.inl hfo) (.int .u64 (f.left - 1 : Nat))
    rw [en] at e1 fr1
    have H := Px.hid (And.intro h (And.intro e1 fr1))
    have H5 := Px.hid hk5
    clear e1 fr1 hr h hs hk5 hfo
    by_cases ha : f.any = true
    ·have hle' : (Op.bytesLess key f.key || key == f.key) = false := by
      simp only [ha, leB, Bool.true_and] at hle
      exact Bool.eq_false_iff.2 hle
     clear hle
     go_enter Tryd.func52, Tryd.ntmps52
     go_wp2_with fail
     go_quiet (fail)
     go_wp2
     refine bodyPost_ret (results_none rfl _ _ _) rfl ?_
     exact ⟨rfl, ⟨_, _, H.out.2.1 _ (H.out.1.drewN nq), rfl⟩, H.out.2.2 nq⟩
    ·have ha' : f.any = false := by simpa using ha
     clear ha hle
     go_enter Tryd.func52, Tryd.ntmps52
     go_wp2_with fail
     go_quiet (fail)
     go_wp2
     refine bodyPost_ret (results_none rfl _ _ _) rfl ?_
     exact ⟨rfl, ⟨_, _, H.out.2.1 _ (H.out.1.drewN nq), rfl⟩, H.out.2.2 nq⟩
  ·have e1 := h.setTop (y := { f with left := f.left - 1 }) hs 2 (.int .u64 (f.left - 1 : Nat)) rfl
   rw [if_neg hk]
   have fr1 := (Fr.refl (dfoot b (.slice (some ⟨g, 0, none⟩) (rest.length + 1) cap') vo) w).setCell (p := ⟨g, rest.length * 5 + 2, none⟩) (.inl (.inr (.inl rfl))) (.int .u64 (f.left - 1 : Nat))
   rw [en] at e1 fr1
   have H := Px.hid (And.intro e1 fr1)
   clear e1 fr1 hr h hs hslc
   by_cases hk5 : f.kind = 5
   ·have hk5' : (f.kind == 5) = true := by simpa using hk5
    have hk2 : ((f.left : Int) % 2 == 0) = false := by
     simp only [hk5', Bool.true_and, beq_iff_eq] at hk
     simp; omega
    have H5 := Px.hid hk5
    clear hk hk5
    go_enter Tryd.func52, Tryd.ntmps52
    go_wp2
    refine bodyPost_ret (results_none rfl _ _ _) rfl ?_
    exact ⟨rfl, ⟨_, _, H.out.1, rfl⟩, H.out.2⟩
   ·have hk5' : (f.kind == 5) = false := by simpa using hk5
    clear hk
    go_enter Tryd.func52, Tryd.ntmps52
    go_wp2
    refine bodyPost_ret (results_none rfl _ _ _) rfl ?_
    exact ⟨rfl, ⟨_, _, H.out.1, rfl⟩, H.out.2⟩
end Go.Proofs.YtddiabaagpmkgaaDoor

/-! The walk over the program's begin (package cbor), case by case. -/
namespace Go.Proofs.YtddiabaagpmkgaaDoor
open Go.RowKit Go.Px

/-- What a head that was read tells. -/
theorem head_ok {s : Bytes} {lim : Lim} {o p k n q : Nat} (h : D7.head s lim o p = .ok (k, n, q)) :
  ∃ c, D7.want s lim p = .ok c ∧ c < 256 ∧ c / 32 = k ∧ ¬ (o : Int) = lim.i ∧ c % 32 ≤ 27 ∧ (k = 7 → 20 ≤ c % 32 ∧ c % 32 ≤ 23) ∧ argD s lim p (c % 32) (p + 1) = .ok n ∧ q = p + 1 + (if c % 32 < 24 then 0 else 2 ^ (c % 32 - 24)) := by
 unfold D7.head at h
 cases hw : D7.want s lim p with
 | error e => rw [hw] at h; cases h
 | ok c =>
  rw [hw] at h
  simp only at h
  have hc : c < 256 := by
   unfold D7.want at hw
   by_cases q1 : s.length ≤ p
   ·rw [if_pos q1] at hw; cases hw
   ·rw [if_neg q1] at hw
    by_cases q2 : lim.b ≤ p
    ·rw [if_pos q2] at hw; cases hw
    ·rw [if_neg q2] at hw
     simp only [Except.ok.injEq] at hw
     rw [← hw]; exact UInt8.toNat_lt _
  refine ⟨c, rfl, hc, ?_⟩
  by_cases h1 : (o : Int) = lim.i
  ·rw [if_pos h1] at h; cases h
  ·rw [if_neg h1] at h
   by_cases h2 : 27 < c % 32
   ·rw [if_pos h2] at h; cases h
   ·rw [if_neg h2] at h
    by_cases h3 : (c / 32 == 7 && (decide (c % 32 < 20) || decide (23 < c % 32))) = true
    ·rw [if_pos h3] at h; cases h
    ·rw [if_neg h3] at h
     have h7 : c / 32 = 7 → 20 ≤ c % 32 ∧ c % 32 ≤ 23 := by
      intro e
      simp only [Bool.and_eq_true, beq_iff_eq, Bool.or_eq_true, decide_eq_true_eq, not_and, not_or] at h3
      have := h3 e
      omega
     by_cases h4 : c % 32 < 24
     ·rw [if_pos h4] at h
      simp only [Except.ok.injEq, Prod.mk.injEq] at h
      obtain ⟨rfl, rfl, rfl⟩ := h
      exact ⟨rfl, h1, by omega, h7, by unfold argD; rw [if_pos h4], by rw [if_pos h4]⟩
     ·rw [if_neg h4] at h
      cases ha : D7.argN s lim (2 ^ (c % 32 - 24)) (p + 1) 0 with
      | error e => rw [ha] at h; cases h
      | ok v =>
       rw [ha] at h
       simp only at h
       by_cases h5 : v < Cf.least (c % 32)
       ·rw [if_pos h5] at h; cases h
       ·rw [if_neg h5] at h
        simp only [Except.ok.injEq, Prod.mk.injEq] at h
        obtain ⟨rfl, rfl, rfl⟩ := h
        exact ⟨rfl, h1, by omega, h7, by unfold argD; rw [if_neg h4, ha]; simp only; rw [if_neg h5], by rw [if_neg h4]⟩
/-- What a head that can't be read tells: where it stops. -/
theorem head_bad {s : Bytes} {lim : Lim} {o p : Nat} {e : D7.Flt} (h : D7.head s lim o p = .error e) :
  D7.want s lim p = .error e ∨ ∃ c, D7.want s lim p = .ok c ∧ c < 256 ∧
   (((o : Int) = lim.i ∧ e = ((p : Int), 10)) ∨ (¬ (o : Int) = lim.i ∧ ((27 < c % 32 ∧ e = ((p : Int), 9)) ∨ (c % 32 ≤ 27 ∧ ((c / 32 = 7 ∧ (c % 32 < 20 ∨ 23 < c % 32) ∧ e = ((p : Int), 11)) ∨
    ((c / 32 = 7 → 20 ≤ c % 32 ∧ c % 32 ≤ 23) ∧ argD s lim p (c % 32) (p + 1) = .error e)))))) := by
 unfold D7.head at h
 cases hw : D7.want s lim p with
 | error e2 => rw [hw] at h; left; simpa using h
 | ok c =>
  right
  rw [hw] at h
  simp only at h
  have hc : c < 256 := by
   unfold D7.want at hw
   by_cases q1 : s.length ≤ p
   ·rw [if_pos q1] at hw; cases hw
   ·rw [if_neg q1] at hw
    by_cases q2 : lim.b ≤ p
    ·rw [if_pos q2] at hw; cases hw
    ·rw [if_neg q2] at hw
     simp only [Except.ok.injEq] at hw
     rw [← hw]; exact UInt8.toNat_lt _
  refine ⟨c, rfl, hc, ?_⟩
  by_cases h1 : (o : Int) = lim.i
  ·rw [if_pos h1] at h
   simp only [Except.error.injEq] at h
   exact .inl ⟨h1, h.symm⟩
  ·rw [if_neg h1] at h
   refine .inr ⟨h1, ?_⟩
   by_cases h2 : 27 < c % 32
   ·rw [if_pos h2] at h
    simp only [Except.error.injEq] at h
    exact .inl ⟨h2, h.symm⟩
   ·rw [if_neg h2] at h
    refine .inr ⟨by omega, ?_⟩
    by_cases h3 : (c / 32 == 7 && (decide (c % 32 < 20) || decide (23 < c % 32))) = true
    ·rw [if_pos h3] at h
     simp only [Except.error.injEq] at h
     simp only [Bool.and_eq_true, beq_iff_eq, Bool.or_eq_true, decide_eq_true_eq] at h3
     exact .inl ⟨h3.1, h3.2, h.symm⟩
    ·rw [if_neg h3] at h
     refine .inr ⟨?_, ?_⟩
     ·intro e
      simp only [Bool.and_eq_true, beq_iff_eq, Bool.or_eq_true, decide_eq_true_eq, not_and, not_or] at h3
      have := h3 e
      omega
     ·by_cases h4 : c % 32 < 24
      ·rw [if_pos h4] at h; cases h
      ·rw [if_neg h4] at h
       unfold argD
       rw [if_neg h4]
       cases ha : D7.argN s lim (2 ^ (c % 32 - 24)) (p + 1) 0 with
       | error e2 => rw [ha] at h; simpa using h
       | ok v =>
        rw [ha] at h
        simp only at h ⊢
        by_cases h5 : v < Cf.least (c % 32)
        ·rw [if_pos h5] at h ⊢; simpa using h
        ·rw [if_neg h5] at h; cases h

def BegPost (w : World) (b : Nat) (s : Bytes) (lim : Lim) (F : Nat → Prop) (res : Except D7.Flt D7.Dx) (r : Ending) (w' : World) : Prop :=
 match res with
 | .error e => r = panics e ∧ Fr F w w'
 | .ok y => r = .returned (.tuple #[]) ∧ ∃ F', DrAt w' b s lim y F' ∧ Fr F w w' ∧ Fresh w F F'
theorem It.dfoot {b : Nat} {w w' : World} {vs vo : Value} (hf : Fr (It b) w w') : Fr (dfoot b vs vo) w w' := hf.mono fun _ e => .inl e

set_option maxRecDepth 100000 in
set_option maxHeartbeats 2000000 in
theorem begin_want (s : Bytes) (lim : Lim) (b : Nat) (x : D7.Dx) (vs vo : Value) (w : World) (h : DrRep w b s lim x vs vo) (e : D7.Flt) (he : D7.want s lim x.at_ = .error e) :
  Calls Tryd.prog 51 #[.pointer (some ⟨b, 0, none⟩)] w fun r w' => r = panics e ∧ Fr (It b) w w' := by
 have hw := dwant_no b x.at_ s lim x vs vo w h e he
 have HW := Px.hid hw
 obtain ⟨_, _, _, _, c5, _, _⟩ := h.cells
 clear hw he h
 go_enter Tryd.func51, Tryd.ntmps51
 go_wp2_with fail
 refine HW.out.mono ?_
 rintro r w1 ⟨rfl, rfl⟩
 unfold panics
 go_wp2
 exact ⟨rfl, rfl, Fr.refl _ _⟩

set_option maxRecDepth 100000 in
set_option maxHeartbeats 2000000 in
theorem begin_full (s : Bytes) (lim : Lim) (b : Nat) (x : D7.Dx) (vs vo : Value) (w : World) (h : DrRep w b s lim x vs vo) (c : Nat) (hc : D7.want s lim x.at_ = .ok c) (hi : (x.out.length : Int) = lim.i) :
  Calls Tryd.prog 51 #[.pointer (some ⟨b, 0, none⟩)] w fun r w' => r = panics (x.at_, 10) ∧ Fr (It b) w w' := by
 have hw := dwant_yes b x.at_ s lim x vs vo w h c hc
 have HW := Px.hid hw
 obtain ⟨_, _, c2, _, c5, _, c7⟩ := h.cells
 obtain ⟨oa, oc, hov, _⟩ := h.out.len
 rw [hov] at c7
 have hib : ((x.out.length : Int) == lim.i) = true := by simpa using hi
 clear hw hc h hov hi
 go_enter Tryd.func51, Tryd.ntmps51
 go_wp2_with fail
 refine HW.out.mono ?_
 rintro r w1 ⟨rfl, rfl⟩
 go_wp2_with fail
 go_quiet (fail)
 go_wp2
 exact ⟨rfl, rfl, (Fr.refl _ _).drewN nq⟩

set_option maxRecDepth 100000 in
set_option maxHeartbeats 2000000 in
theorem begin_form (s : Bytes) (lim : Lim) (b : Nat) (x : D7.Dx) (vs vo : Value) (w : World) (h : DrRep w b s lim x vs vo) (c : Nat) (hc : D7.want s lim x.at_ = .ok c) (hcb : c < 256) (hi : ¬ (x.out.length : Int) = lim.i) (h27 : 27 < c % 32) :
  Calls Tryd.prog 51 #[.pointer (some ⟨b, 0, none⟩)] w fun r w' => r = panics (x.at_, 9) ∧ Fr (It b) w w' := by
 have hw := dwant_yes b x.at_ s lim x vs vo w h c hc
 have HW := Px.hid hw
 have HH := Px.hid h
 obtain ⟨_, _, c2, _, c5, _, c7⟩ := h.cells
 obtain ⟨oa, oc, hov, _⟩ := h.out.len
 rw [hov] at c7
 have HOV := Px.hid hov
 obtain ⟨k, hk⟩ : ∃ k, k = c / 32 := ⟨_, rfl⟩
 obtain ⟨a, ha⟩ : ∃ a, a = c % 32 := ⟨_, rfl⟩
 have hq : (c : Int) / 32 = (k : Int) := by omega
 have hmd : (c : Int) % 32 = (a : Int) := by omega
 have hk8 : k < 8 := by omega
 have ha32 : a < 32 := by omega
 rw [← ha] at h27
 clear hk ha hw hc h hov
 have hib : ((x.out.length : Int) == lim.i) = false := by simpa using hi
 have z27 : (27 : Int) < a := by omega
 clear hi
 go_enter Tryd.func51, Tryd.ntmps51
 go_wp2_with fail
 refine HW.out.mono ?_
 rintro r w1 ⟨rfl, rfl⟩
 go_wp2_with fail
 go_quiet (fail)
 go_wp2
 exact ⟨rfl, rfl, (Fr.refl _ _).drewN nq⟩

set_option maxRecDepth 100000 in
set_option maxHeartbeats 2000000 in
theorem begin_kind1 (s : Bytes) (lim : Lim) (b : Nat) (x : D7.Dx) (vs vo : Value) (w : World) (h : DrRep w b s lim x vs vo) (c : Nat) (hc : D7.want s lim x.at_ = .ok c) (hcb : c < 256) (hi : ¬ (x.out.length : Int) = lim.i) (h27 : c % 32 ≤ 27) (h7 : c / 32 = 7) (h20 : c % 32 < 20) :
  Calls Tryd.prog 51 #[.pointer (some ⟨b, 0, none⟩)] w fun r w' => r = panics (x.at_, 11) ∧ Fr (It b) w w' := by
 have hw := dwant_yes b x.at_ s lim x vs vo w h c hc
 have HW := Px.hid hw
 have HH := Px.hid h
 obtain ⟨_, _, c2, _, c5, _, c7⟩ := h.cells
 obtain ⟨oa, oc, hov, _⟩ := h.out.len
 rw [hov] at c7
 have HOV := Px.hid hov
 obtain ⟨k, hk⟩ : ∃ k, k = c / 32 := ⟨_, rfl⟩
 obtain ⟨a, ha⟩ : ∃ a, a = c % 32 := ⟨_, rfl⟩
 have hq : (c : Int) / 32 = (k : Int) := by omega
 have hmd : (c : Int) % 32 = (a : Int) := by omega
 have hk8 : k < 8 := by omega
 have ha32 : a < 32 := by omega
 rw [← ha] at h27 h20
 rw [← hk] at h7
 clear hk ha hw hc h hov
 have hib : ((x.out.length : Int) == lim.i) = false := by simpa using hi
 have z27 : ¬ (27 : Int) < a := by omega
 have z7 : ((k : Int) == 7) = true := by simp; omega
 have z20 : (a : Int) < 20 := by omega
 clear h7
 clear hi
 go_enter Tryd.func51, Tryd.ntmps51
 go_wp2_with fail
 refine HW.out.mono ?_
 rintro r w1 ⟨rfl, rfl⟩
 go_wp2_with fail
 go_quiet (fail)
 go_wp2
 exact ⟨rfl, rfl, (Fr.refl _ _).drewN nq⟩

set_option maxRecDepth 100000 in
set_option maxHeartbeats 2000000 in
theorem begin_kind2 (s : Bytes) (lim : Lim) (b : Nat) (x : D7.Dx) (vs vo : Value) (w : World) (h : DrRep w b s lim x vs vo) (c : Nat) (hc : D7.want s lim x.at_ = .ok c) (hcb : c < 256) (hi : ¬ (x.out.length : Int) = lim.i) (h27 : c % 32 ≤ 27) (h7 : c / 32 = 7) (h23 : 23 < c % 32) :
  Calls Tryd.prog 51 #[.pointer (some ⟨b, 0, none⟩)] w fun r w' => r = panics (x.at_, 11) ∧ Fr (It b) w w' := by
 have hw := dwant_yes b x.at_ s lim x vs vo w h c hc
 have HW := Px.hid hw
 have HH := Px.hid h
 obtain ⟨_, _, c2, _, c5, _, c7⟩ := h.cells
 obtain ⟨oa, oc, hov, _⟩ := h.out.len
 rw [hov] at c7
 have HOV := Px.hid hov
 obtain ⟨k, hk⟩ : ∃ k, k = c / 32 := ⟨_, rfl⟩
 obtain ⟨a, ha⟩ : ∃ a, a = c % 32 := ⟨_, rfl⟩
 have hq : (c : Int) / 32 = (k : Int) := by omega
 have hmd : (c : Int) % 32 = (a : Int) := by omega
 have hk8 : k < 8 := by omega
 have ha32 : a < 32 := by omega
 rw [← ha] at h27 h23
 rw [← hk] at h7
 clear hk ha hw hc h hov
 have hib : ((x.out.length : Int) == lim.i) = false := by simpa using hi
 have z27 : ¬ (27 : Int) < a := by omega
 have z7 : ((k : Int) == 7) = true := by simp; omega
 have z20 : ¬ (a : Int) < 20 := by omega
 have z23 : (23 : Int) < a := by omega
 clear h7
 clear hi
 go_enter Tryd.func51, Tryd.ntmps51
 go_wp2_with fail
 refine HW.out.mono ?_
 rintro r w1 ⟨rfl, rfl⟩
 go_wp2_with fail
 go_quiet (fail)
 go_wp2
 exact ⟨rfl, rfl, (Fr.refl _ _).drewN nq⟩

set_option maxRecDepth 100000 in
set_option maxHeartbeats 4000000 in
theorem begin_arg (s : Bytes) (lim : Lim) (hs : s.length ≤ 140737488355327) (b : Nat) (x : D7.Dx) (vs vo : Value) (w : World) (h : DrRep w b s lim x vs vo) (hx : x.at_ ≤ 262144) (c : Nat) (hc : D7.want s lim x.at_ = .ok c) (hcb : c < 256) (hi : ¬ (x.out.length : Int) = lim.i) (h27 : c % 32 ≤ 27) (h7 : c / 32 = 7 → 20 ≤ c % 32 ∧ c % 32 ≤ 23) (e : D7.Flt) (he : argD s lim x.at_ (c % 32) (x.at_ + 1) = .error e) :
  Calls Tryd.prog 51 #[.pointer (some ⟨b, 0, none⟩)] w fun r w' => r = panics e ∧ Fr (It b) w w' := by
 have hw := dwant_yes b x.at_ s lim x vs vo w h c hc
 have HW := Px.hid hw
 have HH := Px.hid h
 obtain ⟨_, _, c2, _, c5, _, c7⟩ := h.cells
 obtain ⟨oa, oc, hov, _⟩ := h.out.len
 rw [hov] at c7
 have HOV := Px.hid hov
 obtain ⟨k, hk⟩ : ∃ k, k = c / 32 := ⟨_, rfl⟩
 obtain ⟨a, ha⟩ : ∃ a, a = c % 32 := ⟨_, rfl⟩
 have hq : (c : Int) / 32 = (k : Int) := by omega
 have hmd : (c : Int) % 32 = (a : Int) := by omega
 have hk8 : k < 8 := by omega
 have ha32 : a < 32 := by omega
 rw [← ha] at h27 h7 he
 rw [← hk] at h7
 clear hk ha hw hc h hov
 have hib : ((x.out.length : Int) == lim.i) = false := by simpa using hi
 have z27 : ¬ (27 : Int) < a := by omega
 have z7 : (((k : Int) == 7) = false) ∨ (((k : Int) == 7) = true ∧ ¬ (a : Int) < 20 ∧ ¬ (23 : Int) < a) := by
  by_cases e : k = 7
  ·have := h7 e
   exact .inr ⟨by simp; omega, by omega, by omega⟩
  ·exact .inl (by simp; omega)
 have ep1 : ((x.at_ + 1 : Nat) : Int) = (x.at_ : Int) + 1 := by omega
 have f5 := HH.out.free 5
 have HE := Px.hid he
 have HX := Px.hid (And.intro hs (And.intro hx h27))
 clear hi he h7 h27 hs
 rcases z7 with z7 | ⟨z7, z20, z23⟩
 all_goals
  go_enter Tryd.func51, Tryd.ntmps51
  go_wp2_with fail
  refine HW.out.mono ?_
  rintro r w1 ⟨rfl, rfl⟩
  go_wp2_with fail
  go_quiet (fail)
  have hmv := (HH.out.drewN nq).move (x.at_ + 1)
  rw [ep1] at hmv
  have HMV := Px.hid (And.intro hmv ((Fr.drewN (Fr.refl (It b) w1) nq).setCell (p := ⟨b, 5, none⟩) (.inl rfl) (.int .i64 ((x.at_ : Int) + 1))))
  clear hmv
  go_wp2_with fail
  refine (arg_any b x.at_ a s lim _ vs vo _ HMV.out.1 (by have := HX.out.2.1; show x.at_ + 1 ≤ 1000000; omega) HX.out.2.2).mono ?_
  intro r w2 hpost
  unfold ArgPost at hpost
  rw [show argD s lim x.at_ a ({ x with at_ := x.at_ + 1 } : D7.Dx).at_ = .error e from HE.out] at hpost
  obtain ⟨rfl, hf⟩ := hpost
  unfold panics
  go_wp2
  exact ⟨rfl, rfl, HMV.out.2.trans hf (fun _ _ h => h)⟩

end Go.Proofs.YtddiabaagpmkgaaDoor

/-! The walk over the program's begin (package cbor) where an item is read, kind by kind. -/
namespace Go.Proofs.YtddiabaagpmkgaaDoor
open Go.RowKit Go.Px

section
variable {w w' : World} {b : Nat} {s : Bytes} {lim : Lim} {x : D7.Dx} {vs vo : Value}
theorem DrRep.alloc (h : DrRep w b s lim x vs vo) (o : Obj) : DrRep (w.alloc o) b s lim x vs vo := h.keep fun k hk => Below.heap_alloc w o k (h.footLt k hk)
def DAfter (w w' : World) (b : Nat) (s : Bytes) (lim : Lim) (x : D7.Dx) (a : Atom) (vs vo : Value) : Prop :=
 ∃ vo', DrRep w' b s lim { x with out := x.out ++ [a] } vs vo' ∧ Fr (dfoot b vs vo) w w' ∧ Fresh w (dfoot b vs vo) (dfoot b vs vo')
theorem DrRep.afterOut (h : DrRep w b s lim x vs vo) {g cap : Nat} {a : Atom}
  (hown : w'.ownsRow 0 62 3 (.slice (some ⟨g, 0, none⟩) (x.out.length + 1) cap) (x.out.length + 1) (x.out.flatMap cAtom ++ cAtom a))
  (hg : w.grownBy w' vo.ownBlock) (hat : vo.ownBlock = some g ∨ w.heap.size ≤ g) :
  DAfter w (w'.setCell ⟨b, 7, none⟩ (.slice (some ⟨g, 0, none⟩) (x.out.length + 1) cap)) b s lim x a vs vo := by
 have hgb : g ≠ b := by rcases hat with e | e; exact fun x => h.ob g e (by rw [x]); have := h.lt; omega
 have hb' : w'.heap[b]? = some (.cells (drCells s lim x.at_ vs vo) 83 (0, 0)) := (hg.block b h.lt (fun e => h.ob b e.symm rfl)).trans h.blk
 refine ⟨.slice (some ⟨g, 0, none⟩) (x.out.length + 1) cap, ⟨?_, ?_, ?_, h.sb, ?_, ?_⟩, ((Fr.refl _ w).grown hg (fun k e => .inl (.inr (.inr e)))).setCell (.inl (.inl rfl)) _, ?_⟩
 ·rw [heap_setCell_same w' b 7 _ _ _ hb']; rfl
 ·exact (h.stack.grown hg h.so).setCell (p := ⟨b, 7, none⟩) h.sb.ne _
 ·exact (owns_append hown).setCell (p := ⟨b, 7, none⟩) (by simpa [Value.ownBlock] using hgb) _
 ·intro k hk; simp [Value.ownBlock] at hk; subst hk; simpa using Ne.symm hgb
 ·intro k hk e
  rcases hat with y | y
  ·exact h.so k hk (by rw [y]; exact e)
  ·have := h.stack.lt hk; simp [Value.ownBlock] at e; omega
 ·rintro k (rfl | hk | hk)
  ·exact .inl (.inl rfl)
  ·exact .inl (.inr (.inl hk))
  ·simp only [Value.ownBlock, Option.some.injEq] at hk
   subst hk
   rcases hat with e | e
   ·exact .inl (.inr (.inr e))
   ·exact .inr e
def DPush (w w' : World) (b : Nat) (s : Bytes) (lim : Lim) (x : D7.Dx) (a : D7.Fm) (vs vo : Value) : Prop :=
 ∃ vs', DrRep w' b s lim { x with stack := a :: x.stack } vs' vo ∧ Fr (dfoot b vs vo) w w' ∧ Fresh w (dfoot b vs vo) (dfoot b vs' vo)
theorem DrRep.afterPush (h : DrRep w b s lim x vs vo) {g cap : Nat} {a : D7.Fm}
  (hown : w'.ownsRow 0 108 5 (.slice (some ⟨g, 0, none⟩) (x.stack.length + 1) cap) (x.stack.length + 1) (x.stack.reverse.flatMap cFm ++ cFm a))
  (hg : w.grownBy w' vs.ownBlock) (hat : vs.ownBlock = some g ∨ w.heap.size ≤ g) :
  DPush w (w'.setCell ⟨b, 6, none⟩ (.slice (some ⟨g, 0, none⟩) (x.stack.length + 1) cap)) b s lim x a vs vo := by
 have hgb : g ≠ b := by rcases hat with e | e; exact fun x => h.sb g e (by rw [x]); have := h.lt; omega
 have hb' : w'.heap[b]? = some (.cells (drCells s lim x.at_ vs vo) 83 (0, 0)) := (hg.block b h.lt (fun e => h.sb b e.symm rfl)).trans h.blk
 have hrl : x.stack.reverse.length = x.stack.length := List.length_reverse
 refine ⟨.slice (some ⟨g, 0, none⟩) (x.stack.length + 1) cap, ⟨?_, ?_, ?_, ?_, h.ob, ?_⟩, ((Fr.refl _ w).grown hg (fun k e => .inl (.inr (.inl e)))).setCell (.inl (.inl rfl)) _, ?_⟩
 ·rw [heap_setCell_same w' b 6 _ _ _ hb']; rfl
 ·have := owns_append (l := x.stack.reverse) (c := cFm) (a := a) (w := w') (T := 108) (sz := 5) (g := g) (cap := cap) (by rw [hrl]; exact hown)
  rw [hrl] at this
  have e : ({ x with stack := a :: x.stack } : D7.Dx).stack.reverse = x.stack.reverse ++ [a] := by simp
  rw [e]
  exact this.setCell (p := ⟨b, 6, none⟩) (by simpa [Value.ownBlock] using hgb) _
 ·exact (h.out.grown hg h.so.symm).setCell (p := ⟨b, 6, none⟩) h.ob.ne _
 ·intro k hk; simp [Value.ownBlock] at hk; subst hk; simpa using Ne.symm hgb
 ·intro k hk e
  simp [Value.ownBlock] at hk
  subst hk
  rcases hat with y | y
  ·exact h.so _ y e
  ·have := h.out.lt e; omega
 ·rintro k (rfl | hk | hk)
  ·exact .inl (.inl rfl)
  ·simp only [Value.ownBlock, Option.some.injEq] at hk
   subst hk
   rcases hat with e | e
   ·exact .inl (.inr (.inl e))
   ·exact .inr e
  ·exact .inl (.inr (.inr hk))
end
theorem begin_fin {w w1 w2 : World} {b : Nat} {s : Bytes} {lim : Lim} {F F1 : Nat → Prop} {res : Except D7.Flt D7.Dx} {r : Ending} (hf : Fr F w w1) (hn : Fresh w F F1) (h : EndPost w1 b s lim F1 res r w2) : BegPost w b s lim F res r w2 := by
 unfold EndPost at h
 unfold BegPost
 cases res with
 | error e => exact ⟨h.1, hf.step hn h.2⟩
 | ok y => exact ⟨h.1, F1, h.2.1, hf.step hn h.2.2, hn⟩
/-- What must hold of a reader that reads on. -/
def DOk (s : Bytes) (lim : Lim) (x : D7.Dx) : Prop := (∀ f ∈ x.stack, 0 < f.left ∧ f.left < 18446744073709551616) ∧ x.stack.length ≤ 900 ∧ x.out.length ≤ 1000000 ∧ x.at_ ≤ s.length ∧ lim.may = true

set_option maxRecDepth 100000 in
set_option maxHeartbeats 4000000 in
theorem begin_k0 (s : Bytes) (lim : Lim) (hs : s.length ≤ 140737488355327) (b n q : Nat) (x : D7.Dx) (vs vo : Value) (w : World) (h : DrRep w b s lim x vs vo) (hx : x.at_ ≤ 262144) (hok : DOk s lim x) (hqs : q ≤ s.length) (hh : D7.head s lim x.out.length x.at_ = .ok (0, n, q)) :
  Calls Tryd.prog 51 #[.pointer (some ⟨b, 0, none⟩)] w fun r w' => BegPost w b s lim (dfoot b vs vo) (D7.ended s { at_ := q, stack := x.stack, out := x.out ++ [⟨0, n, []⟩] } x.at_) r w' := by
 have hol : x.out.length ≤ 1000000 := hok.2.2.1
 obtain ⟨c, hc, hcb, hkc, hi, h27, h7, he, hqe⟩ := head_ok hh
 have hw := dwant_yes b x.at_ s lim x vs vo w h c hc
 have HW := Px.hid hw
 have HH := Px.hid h
 obtain ⟨_, _, c2, _, c5, _, c7⟩ := h.cells
 obtain ⟨oa, oc, hov, _⟩ := h.out.len
 rw [hov] at c7
 have HOV := Px.hid hov
 obtain ⟨a, ha⟩ : ∃ a, a = c % 32 := ⟨_, rfl⟩
 have hq : (c : Int) / 32 = 0 := by omega
 have hmd : (c : Int) % 32 = (a : Int) := by omega
 have ha32 : a < 32 := by omega
 rw [← ha] at h27 he h7 hqe
 have hib : ((x.out.length : Int) == lim.i) = false := by simpa using hi
 have z27 : ¬ (27 : Int) < a := by omega
 have z7 : True := trivial
 clear h7 hkc
 have ep1 : ((x.at_ + 1 : Nat) : Int) = (x.at_ : Int) + 1 := by omega
 have f5 := HH.out.free 5
 have hst1 := hok.1
 have HE := Px.hid (And.intro he (And.intro hqe (And.intro hs (And.intro h27 hok))))
 clear ha hw hc h hov hi he h27 hqe hh hs hok hst1
 go_enter Tryd.func51, Tryd.ntmps51
 go_wp2_with fail
 refine HW.out.mono ?_
 rintro r w1 ⟨rfl, rfl⟩
 go_wp2_with fail
 go_quiet (fail)
 have hmv := (HH.out.drewN nq).move (x.at_ + 1)
 rw [ep1] at hmv
 have HMV := Px.hid (And.intro hmv ((Fr.drewN (Fr.refl (It b) w1) nq).setCell (p := ⟨b, 5, none⟩) (.inl rfl) (.int .i64 ((x.at_ : Int) + 1))))
 clear hmv
 go_wp2_with fail
 refine (arg_any b x.at_ a s lim _ vs vo _ HMV.out.1 (show x.at_ + 1 ≤ 1000000 by omega) HE.out.2.2.2.1).mono ?_
 intro r w2 hpost
 unfold ArgPost at hpost
 rw [show argD s lim x.at_ a ({ x with at_ := x.at_ + 1 } : D7.Dx).at_ = .ok n from HE.out.1] at hpost
 obtain ⟨rfl, hrep, hf⟩ := hpost
 have HX := Px.hid (And.intro (show DrRep w2 b s lim { x with at_ := q } vs vo from by rw [HE.out.2.1]; exact hrep) (It.dfoot (vs := vs) (vo := vo) (HMV.out.2.trans hf (fun _ _ h => h))))
 clear hrep hf HMV c2 c5 c7 f5
 go_upto_region 14 with fail
 obtain ⟨WX, hWX⟩ : ∃ WX, WX = ((w2.alloc (.cells #[.int .i64 0, .int .u64 (n : Nat), .string ⟨#[]⟩] 62 (0, 0))).alloc (.cells #[.int .i64 0, .int .i64 (x.at_ : Nat), .int .u64 1, .string ⟨#[]⟩, .bool false] 108 (0, 0))) := ⟨_, rfl⟩
 rw [← hWX]
 have HR := Px.hid (show DrRep WX b s lim { x with at_ := q } vs vo ∧ Fr (dfoot b vs vo) w1 WX from by rw [hWX]; exact ⟨(HX.out.1.alloc _).alloc _, (HX.out.2.alloc _).alloc _⟩)
 have xa0 : WX.cell? ⟨w2.heap.size, 0, none⟩ = some (.int .i64 0) := by rw [hWX]; exact cell_alloc (cellOf (heap_alloc_new w2 _) 0 rfl)
 have xa1 : WX.cell? ⟨w2.heap.size, 1, none⟩ = some (.int .u64 (n : Nat)) := by rw [hWX]; exact cell_alloc (cellOf (heap_alloc_new w2 _) 1 rfl)
 have xa2 : WX.cell? ⟨w2.heap.size, 2, none⟩ = some (.string ⟨#[]⟩) := by rw [hWX]; exact cell_alloc (cellOf (heap_alloc_new w2 _) 2 rfl)
 clear hWX HX
 have c7 : WX.cell? ⟨b, 7, none⟩ = some vo := HR.out.1.cells.2.2.2.2.2.2
 have f7 := HR.out.1.free 7
 have hb : b < WX.heap.size := HR.out.1.lt
 obtain ⟨i0, hi0, hz0, hz1, hz2⟩ := info_parts Tryd.infoAtom
 go_cut [] (fun wx => DAfter WX wx b s lim { x with at_ := q } ⟨0, n, []⟩ vs vo)
 case first =>
  go_region_law
   ((refine step_append_lies _ (by rfl) _ _ _ (by rfl) 0 62 i0 _ 3 32 Tryd.underlying50 hi0 hz0 hz1 hz2 rfl (by omega) vo x.out.length (x.out.flatMap cAtom) (by rfl) ((HR.out.1.out.alloc _).drew) ⟨WX.heap.size, 0, none⟩ 1 1 (cAtom ⟨0, n, []⟩) (by rfl) (by rfl) (World.news_of_block (cs := #[.int .i64 0, .int .u64 n, .string ⟨#[]⟩]) (t := 62) (fr := (0, 0)) (heap_alloc_new WX _)) (by simp [cAtom, Value.oneCell']) (by omega) (by unfold maxLen; omega) (by omega) (by simp) (WX.heap.size + 1) (by simp) ?_; intro gg cap w1 hown1 hgrow hat hlt; have k7 := grown_cell hgrow c7 HR.out.1.ob.ne; have e7 := grown_free hgrow c7 f7 HR.out.1.ob.ne))
  all_goals (go_wp2_with fail; go_meet; exact HR.out.1.afterOut hown1 (grown_alloc hgrow) (hat.elim .inl (fun e => .inr (by omega))))
 case rest =>
  obtain ⟨vo', hy, hyf, hyn⟩ := hcut
  have HY := Px.hid (And.intro hy (And.intro hyf hyn))
  clear hy hyf hyn c7 f7 xa0 xa1 xa2
  go_wp2_with fail
  refine (dended_any b x.at_ s lim _ _ _ ⟨_, _, HY.out.1, rfl⟩ (show x.at_ ≤ q by have := HE.out.2.1; omega) hqs (fun f rest e => HE.out.2.2.2.2.1 f (by rw [show x.stack = f :: rest from e]; simp)) (show x.stack.length ≤ 1000 by have := HE.out.2.2.2.2.2.1; omega)).mono ?_
  intro r w3 hpost
  have hB := begin_fin (HR.out.2.step (Fresh.refl _ _) HY.out.2.1) (Fresh.trans (Fresh.refl _ _) HR.out.2.size HY.out.2.2) hpost
  unfold EndPost at hpost
  cases hres : D7.ended s { at_ := q, stack := x.stack, out := x.out ++ [⟨0, n, []⟩] } x.at_ with
  | error e =>
   rw [hres] at hpost hB
   obtain ⟨rfl, _⟩ := hpost
   have HB := Px.hid hB
   have HRES := Px.hid hres
   clear hB hres
   unfold panics
   go_wp2
   exact ⟨rfl, by rw [HRES.out]; exact HB.out⟩
  | ok y =>
   rw [hres] at hpost hB
   obtain ⟨rfl, _⟩ := hpost
   have HB := Px.hid hB
   have HRES := Px.hid hres
   clear hB hres
   go_wp2
   refine bodyPost_ret (results_none rfl _ _ _) rfl ?_
   rw [HRES.out]
   exact HB.out

set_option maxRecDepth 100000 in
set_option maxHeartbeats 4000000 in
theorem begin_k1 (s : Bytes) (lim : Lim) (hs : s.length ≤ 140737488355327) (b n q : Nat) (x : D7.Dx) (vs vo : Value) (w : World) (h : DrRep w b s lim x vs vo) (hx : x.at_ ≤ 262144) (hok : DOk s lim x) (hqs : q ≤ s.length) (hh : D7.head s lim x.out.length x.at_ = .ok (1, n, q)) :
  Calls Tryd.prog 51 #[.pointer (some ⟨b, 0, none⟩)] w fun r w' => BegPost w b s lim (dfoot b vs vo) (D7.ended s { at_ := q, stack := x.stack, out := x.out ++ [⟨1, n, []⟩] } x.at_) r w' := by
 have hol : x.out.length ≤ 1000000 := hok.2.2.1
 obtain ⟨c, hc, hcb, hkc, hi, h27, h7, he, hqe⟩ := head_ok hh
 have hw := dwant_yes b x.at_ s lim x vs vo w h c hc
 have HW := Px.hid hw
 have HH := Px.hid h
 obtain ⟨_, _, c2, _, c5, _, c7⟩ := h.cells
 obtain ⟨oa, oc, hov, _⟩ := h.out.len
 rw [hov] at c7
 have HOV := Px.hid hov
 obtain ⟨a, ha⟩ : ∃ a, a = c % 32 := ⟨_, rfl⟩
 have hq : (c : Int) / 32 = 1 := by omega
 have hmd : (c : Int) % 32 = (a : Int) := by omega
 have ha32 : a < 32 := by omega
 rw [← ha] at h27 he h7 hqe
 have hib : ((x.out.length : Int) == lim.i) = false := by simpa using hi
 have z27 : ¬ (27 : Int) < a := by omega
 have z7 : True := trivial
 clear h7 hkc
 have ep1 : ((x.at_ + 1 : Nat) : Int) = (x.at_ : Int) + 1 := by omega
 have f5 := HH.out.free 5
 have hst1 := hok.1
 have HE := Px.hid (And.intro he (And.intro hqe (And.intro hs (And.intro h27 hok))))
 clear ha hw hc h hov hi he h27 hqe hh hs hok hst1
 go_enter Tryd.func51, Tryd.ntmps51
 go_wp2_with fail
 refine HW.out.mono ?_
 rintro r w1 ⟨rfl, rfl⟩
 go_wp2_with fail
 go_quiet (fail)
 have hmv := (HH.out.drewN nq).move (x.at_ + 1)
 rw [ep1] at hmv
 have HMV := Px.hid (And.intro hmv ((Fr.drewN (Fr.refl (It b) w1) nq).setCell (p := ⟨b, 5, none⟩) (.inl rfl) (.int .i64 ((x.at_ : Int) + 1))))
 clear hmv
 go_wp2_with fail
 refine (arg_any b x.at_ a s lim _ vs vo _ HMV.out.1 (show x.at_ + 1 ≤ 1000000 by omega) HE.out.2.2.2.1).mono ?_
 intro r w2 hpost
 unfold ArgPost at hpost
 rw [show argD s lim x.at_ a ({ x with at_ := x.at_ + 1 } : D7.Dx).at_ = .ok n from HE.out.1] at hpost
 obtain ⟨rfl, hrep, hf⟩ := hpost
 have HX := Px.hid (And.intro (show DrRep w2 b s lim { x with at_ := q } vs vo from by rw [HE.out.2.1]; exact hrep) (It.dfoot (vs := vs) (vo := vo) (HMV.out.2.trans hf (fun _ _ h => h))))
 clear hrep hf HMV c2 c5 c7 f5
 go_upto_region 14 with fail
 obtain ⟨WX, hWX⟩ : ∃ WX, WX = ((w2.alloc (.cells #[.int .i64 1, .int .u64 (n : Nat), .string ⟨#[]⟩] 62 (0, 0))).alloc (.cells #[.int .i64 1, .int .i64 (x.at_ : Nat), .int .u64 1, .string ⟨#[]⟩, .bool false] 108 (0, 0))) := ⟨_, rfl⟩
 rw [← hWX]
 have HR := Px.hid (show DrRep WX b s lim { x with at_ := q } vs vo ∧ Fr (dfoot b vs vo) w1 WX from by rw [hWX]; exact ⟨(HX.out.1.alloc _).alloc _, (HX.out.2.alloc _).alloc _⟩)
 have xa0 : WX.cell? ⟨w2.heap.size, 0, none⟩ = some (.int .i64 1) := by rw [hWX]; exact cell_alloc (cellOf (heap_alloc_new w2 _) 0 rfl)
 have xa1 : WX.cell? ⟨w2.heap.size, 1, none⟩ = some (.int .u64 (n : Nat)) := by rw [hWX]; exact cell_alloc (cellOf (heap_alloc_new w2 _) 1 rfl)
 have xa2 : WX.cell? ⟨w2.heap.size, 2, none⟩ = some (.string ⟨#[]⟩) := by rw [hWX]; exact cell_alloc (cellOf (heap_alloc_new w2 _) 2 rfl)
 clear hWX HX
 have c7 : WX.cell? ⟨b, 7, none⟩ = some vo := HR.out.1.cells.2.2.2.2.2.2
 have f7 := HR.out.1.free 7
 have hb : b < WX.heap.size := HR.out.1.lt
 obtain ⟨i0, hi0, hz0, hz1, hz2⟩ := info_parts Tryd.infoAtom
 go_cut [] (fun wx => DAfter WX wx b s lim { x with at_ := q } ⟨1, n, []⟩ vs vo)
 case first =>
  go_region_law
   ((refine step_append_lies _ (by rfl) _ _ _ (by rfl) 0 62 i0 _ 3 32 Tryd.underlying50 hi0 hz0 hz1 hz2 rfl (by omega) vo x.out.length (x.out.flatMap cAtom) (by rfl) ((HR.out.1.out.alloc _).drew) ⟨WX.heap.size, 0, none⟩ 1 1 (cAtom ⟨1, n, []⟩) (by rfl) (by rfl) (World.news_of_block (cs := #[.int .i64 1, .int .u64 n, .string ⟨#[]⟩]) (t := 62) (fr := (0, 0)) (heap_alloc_new WX _)) (by simp [cAtom, Value.oneCell']) (by omega) (by unfold maxLen; omega) (by omega) (by simp) (WX.heap.size + 1) (by simp) ?_; intro gg cap w1 hown1 hgrow hat hlt; have k7 := grown_cell hgrow c7 HR.out.1.ob.ne; have e7 := grown_free hgrow c7 f7 HR.out.1.ob.ne))
  all_goals (go_wp2_with fail; go_meet; exact HR.out.1.afterOut hown1 (grown_alloc hgrow) (hat.elim .inl (fun e => .inr (by omega))))
 case rest =>
  obtain ⟨vo', hy, hyf, hyn⟩ := hcut
  have HY := Px.hid (And.intro hy (And.intro hyf hyn))
  clear hy hyf hyn c7 f7 xa0 xa1 xa2
  go_wp2_with fail
  refine (dended_any b x.at_ s lim _ _ _ ⟨_, _, HY.out.1, rfl⟩ (show x.at_ ≤ q by have := HE.out.2.1; omega) hqs (fun f rest e => HE.out.2.2.2.2.1 f (by rw [show x.stack = f :: rest from e]; simp)) (show x.stack.length ≤ 1000 by have := HE.out.2.2.2.2.2.1; omega)).mono ?_
  intro r w3 hpost
  have hB := begin_fin (HR.out.2.step (Fresh.refl _ _) HY.out.2.1) (Fresh.trans (Fresh.refl _ _) HR.out.2.size HY.out.2.2) hpost
  unfold EndPost at hpost
  cases hres : D7.ended s { at_ := q, stack := x.stack, out := x.out ++ [⟨1, n, []⟩] } x.at_ with
  | error e =>
   rw [hres] at hpost hB
   obtain ⟨rfl, _⟩ := hpost
   have HB := Px.hid hB
   have HRES := Px.hid hres
   clear hB hres
   unfold panics
   go_wp2
   exact ⟨rfl, by rw [HRES.out]; exact HB.out⟩
  | ok y =>
   rw [hres] at hpost hB
   obtain ⟨rfl, _⟩ := hpost
   have HB := Px.hid hB
   have HRES := Px.hid hres
   clear hB hres
   go_wp2
   refine bodyPost_ret (results_none rfl _ _ _) rfl ?_
   rw [HRES.out]
   exact HB.out

set_option maxRecDepth 100000 in
set_option maxHeartbeats 4000000 in
theorem begin_k7 (s : Bytes) (lim : Lim) (hs : s.length ≤ 140737488355327) (b n q : Nat) (x : D7.Dx) (vs vo : Value) (w : World) (h : DrRep w b s lim x vs vo) (hx : x.at_ ≤ 262144) (hok : DOk s lim x) (hqs : q ≤ s.length) (hh : D7.head s lim x.out.length x.at_ = .ok (7, n, q)) :
  Calls Tryd.prog 51 #[.pointer (some ⟨b, 0, none⟩)] w fun r w' => BegPost w b s lim (dfoot b vs vo) (D7.ended s { at_ := q, stack := x.stack, out := x.out ++ [⟨7, n, []⟩] } x.at_) r w' := by
 have hol : x.out.length ≤ 1000000 := hok.2.2.1
 obtain ⟨c, hc, hcb, hkc, hi, h27, h7, he, hqe⟩ := head_ok hh
 have hw := dwant_yes b x.at_ s lim x vs vo w h c hc
 have HW := Px.hid hw
 have HH := Px.hid h
 obtain ⟨_, _, c2, _, c5, _, c7⟩ := h.cells
 obtain ⟨oa, oc, hov, _⟩ := h.out.len
 rw [hov] at c7
 have HOV := Px.hid hov
 obtain ⟨a, ha⟩ : ∃ a, a = c % 32 := ⟨_, rfl⟩
 have hq : (c : Int) / 32 = 7 := by omega
 have hmd : (c : Int) % 32 = (a : Int) := by omega
 have ha32 : a < 32 := by omega
 rw [← ha] at h27 he h7 hqe
 have hib : ((x.out.length : Int) == lim.i) = false := by simpa using hi
 have z27 : ¬ (27 : Int) < a := by omega
 have z20 : ¬ (a : Int) < 20 := by have := h7 rfl; omega
 have z23 : ¬ (23 : Int) < a := by have := h7 rfl; omega
 clear hkc
 have ep1 : ((x.at_ + 1 : Nat) : Int) = (x.at_ : Int) + 1 := by omega
 have f5 := HH.out.free 5
 have hst1 := hok.1
 have HE := Px.hid (And.intro he (And.intro hqe (And.intro hs (And.intro h27 hok))))
 clear ha hw hc h hov hi he h7 h27 hqe hh hs hok hst1
 go_enter Tryd.func51, Tryd.ntmps51
 go_wp2_with fail
 refine HW.out.mono ?_
 rintro r w1 ⟨rfl, rfl⟩
 go_wp2_with fail
 go_quiet (fail)
 have hmv := (HH.out.drewN nq).move (x.at_ + 1)
 rw [ep1] at hmv
 have HMV := Px.hid (And.intro hmv ((Fr.drewN (Fr.refl (It b) w1) nq).setCell (p := ⟨b, 5, none⟩) (.inl rfl) (.int .i64 ((x.at_ : Int) + 1))))
 clear hmv
 go_wp2_with fail
 refine (arg_any b x.at_ a s lim _ vs vo _ HMV.out.1 (show x.at_ + 1 ≤ 1000000 by omega) HE.out.2.2.2.1).mono ?_
 intro r w2 hpost
 unfold ArgPost at hpost
 rw [show argD s lim x.at_ a ({ x with at_ := x.at_ + 1 } : D7.Dx).at_ = .ok n from HE.out.1] at hpost
 obtain ⟨rfl, hrep, hf⟩ := hpost
 have HX := Px.hid (And.intro (show DrRep w2 b s lim { x with at_ := q } vs vo from by rw [HE.out.2.1]; exact hrep) (It.dfoot (vs := vs) (vo := vo) (HMV.out.2.trans hf (fun _ _ h => h))))
 clear hrep hf HMV c2 c5 c7 f5
 go_upto_region 14 with fail
 obtain ⟨WX, hWX⟩ : ∃ WX, WX = ((w2.alloc (.cells #[.int .i64 7, .int .u64 (n : Nat), .string ⟨#[]⟩] 62 (0, 0))).alloc (.cells #[.int .i64 7, .int .i64 (x.at_ : Nat), .int .u64 1, .string ⟨#[]⟩, .bool false] 108 (0, 0))) := ⟨_, rfl⟩
 rw [← hWX]
 have HR := Px.hid (show DrRep WX b s lim { x with at_ := q } vs vo ∧ Fr (dfoot b vs vo) w1 WX from by rw [hWX]; exact ⟨(HX.out.1.alloc _).alloc _, (HX.out.2.alloc _).alloc _⟩)
 have xa0 : WX.cell? ⟨w2.heap.size, 0, none⟩ = some (.int .i64 7) := by rw [hWX]; exact cell_alloc (cellOf (heap_alloc_new w2 _) 0 rfl)
 have xa1 : WX.cell? ⟨w2.heap.size, 1, none⟩ = some (.int .u64 (n : Nat)) := by rw [hWX]; exact cell_alloc (cellOf (heap_alloc_new w2 _) 1 rfl)
 have xa2 : WX.cell? ⟨w2.heap.size, 2, none⟩ = some (.string ⟨#[]⟩) := by rw [hWX]; exact cell_alloc (cellOf (heap_alloc_new w2 _) 2 rfl)
 clear hWX HX
 have c7 : WX.cell? ⟨b, 7, none⟩ = some vo := HR.out.1.cells.2.2.2.2.2.2
 have f7 := HR.out.1.free 7
 have hb : b < WX.heap.size := HR.out.1.lt
 obtain ⟨i0, hi0, hz0, hz1, hz2⟩ := info_parts Tryd.infoAtom
 go_cut [] (fun wx => DAfter WX wx b s lim { x with at_ := q } ⟨7, n, []⟩ vs vo)
 case first =>
  go_region_law
   ((refine step_append_lies _ (by rfl) _ _ _ (by rfl) 0 62 i0 _ 3 32 Tryd.underlying50 hi0 hz0 hz1 hz2 rfl (by omega) vo x.out.length (x.out.flatMap cAtom) (by rfl) ((HR.out.1.out.alloc _).drew) ⟨WX.heap.size, 0, none⟩ 1 1 (cAtom ⟨7, n, []⟩) (by rfl) (by rfl) (World.news_of_block (cs := #[.int .i64 7, .int .u64 n, .string ⟨#[]⟩]) (t := 62) (fr := (0, 0)) (heap_alloc_new WX _)) (by simp [cAtom, Value.oneCell']) (by omega) (by unfold maxLen; omega) (by omega) (by simp) (WX.heap.size + 1) (by simp) ?_; intro gg cap w1 hown1 hgrow hat hlt; have k7 := grown_cell hgrow c7 HR.out.1.ob.ne; have e7 := grown_free hgrow c7 f7 HR.out.1.ob.ne))
  all_goals (go_wp2_with fail; go_meet; exact HR.out.1.afterOut hown1 (grown_alloc hgrow) (hat.elim .inl (fun e => .inr (by omega))))
 case rest =>
  obtain ⟨vo', hy, hyf, hyn⟩ := hcut
  have HY := Px.hid (And.intro hy (And.intro hyf hyn))
  clear hy hyf hyn c7 f7 xa0 xa1 xa2
  go_wp2_with fail
  refine (dended_any b x.at_ s lim _ _ _ ⟨_, _, HY.out.1, rfl⟩ (show x.at_ ≤ q by have := HE.out.2.1; omega) hqs (fun f rest e => HE.out.2.2.2.2.1 f (by rw [show x.stack = f :: rest from e]; simp)) (show x.stack.length ≤ 1000 by have := HE.out.2.2.2.2.2.1; omega)).mono ?_
  intro r w3 hpost
  have hB := begin_fin (HR.out.2.step (Fresh.refl _ _) HY.out.2.1) (Fresh.trans (Fresh.refl _ _) HR.out.2.size HY.out.2.2) hpost
  unfold EndPost at hpost
  cases hres : D7.ended s { at_ := q, stack := x.stack, out := x.out ++ [⟨7, n, []⟩] } x.at_ with
  | error e =>
   rw [hres] at hpost hB
   obtain ⟨rfl, _⟩ := hpost
   have HB := Px.hid hB
   have HRES := Px.hid hres
   clear hB hres
   unfold panics
   go_wp2
   exact ⟨rfl, by rw [HRES.out]; exact HB.out⟩
  | ok y =>
   rw [hres] at hpost hB
   obtain ⟨rfl, _⟩ := hpost
   have HB := Px.hid hB
   have HRES := Px.hid hres
   clear hB hres
   go_wp2
   refine bodyPost_ret (results_none rfl _ _ _) rfl ?_
   rw [HRES.out]
   exact HB.out

end Go.Proofs.YtddiabaagpmkgaaDoor

/-! The walk over the program's begin (package cbor) where an item is begun that holds others. -/
namespace Go.Proofs.YtddiabaagpmkgaaDoor
open Go.RowKit Go.Px

theorem Tryd.infoDFm : (Tryd.prog.info? 108).map (fun i => (i.zero, i.size, i.bytes)) = some (some (.agg #[.int .i64 0, .int .i64 0, .int .u64 0, .string ByteArray.empty, .bool false]), 5, 48) := by kernel_rfl

set_option maxRecDepth 100000 in
set_option maxHeartbeats 4000000 in
theorem begin_k4_full (s : Bytes) (lim : Lim) (hs : s.length ≤ 140737488355327) (b n q : Nat) (x : D7.Dx) (vs vo : Value) (w : World) (h : DrRep w b s lim x vs vo) (hx : x.at_ ≤ 262144) (hok : DOk s lim x) (hh : D7.head s lim x.out.length x.at_ = .ok (4, n, q)) (hd : (x.stack.length : Int) = lim.d) :
  Calls Tryd.prog 51 #[.pointer (some ⟨b, 0, none⟩)] w fun r w' => r = panics (x.at_, 10) ∧ Fr (dfoot b vs vo) w w' := by
 have hol : x.out.length ≤ 1000000 := hok.2.2.1
 have hsl9 : x.stack.length ≤ 900 := hok.2.1
 have hdb : ((x.stack.length : Int) == lim.d) = true := by simpa using hd
 clear hd
 obtain ⟨c, hc, hcb, hkc, hi, h27, h7, he, hqe⟩ := head_ok hh
 have hw := dwant_yes b x.at_ s lim x vs vo w h c hc
 have HW := Px.hid hw
 have HH := Px.hid h
 obtain ⟨_, _, c2, _, c5, _, c7⟩ := h.cells
 obtain ⟨oa, oc, hov, _⟩ := h.out.len
 rw [hov] at c7
 have HOV := Px.hid hov
 obtain ⟨a, ha⟩ : ∃ a, a = c % 32 := ⟨_, rfl⟩
 have hq : (c : Int) / 32 = 4 := by omega
 have hmd : (c : Int) % 32 = (a : Int) := by omega
 have ha32 : a < 32 := by omega
 rw [← ha] at h27 he h7 hqe
 have hib : ((x.out.length : Int) == lim.i) = false := by simpa using hi
 have z27 : ¬ (27 : Int) < a := by omega
 have z7 : True := trivial
 clear h7 hkc
 have ep1 : ((x.at_ + 1 : Nat) : Int) = (x.at_ : Int) + 1 := by omega
 have f5 := HH.out.free 5
 have hst1 := hok.1
 have HE := Px.hid (And.intro he (And.intro hqe (And.intro hs (And.intro h27 hok))))
 clear ha hw hc h hov hi he h27 hqe hh hs hok hst1
 go_enter Tryd.func51, Tryd.ntmps51
 go_wp2_with fail
 refine HW.out.mono ?_
 rintro r w1 ⟨rfl, rfl⟩
 go_wp2_with fail
 go_quiet (fail)
 have hmv := (HH.out.drewN nq).move (x.at_ + 1)
 rw [ep1] at hmv
 have HMV := Px.hid (And.intro hmv ((Fr.drewN (Fr.refl (It b) w1) nq).setCell (p := ⟨b, 5, none⟩) (.inl rfl) (.int .i64 ((x.at_ : Int) + 1))))
 clear hmv
 go_wp2_with fail
 refine (arg_any b x.at_ a s lim _ vs vo _ HMV.out.1 (show x.at_ + 1 ≤ 1000000 by omega) HE.out.2.2.2.1).mono ?_
 intro r w2 hpost
 unfold ArgPost at hpost
 rw [show argD s lim x.at_ a ({ x with at_ := x.at_ + 1 } : D7.Dx).at_ = .ok n from HE.out.1] at hpost
 obtain ⟨rfl, hrep, hf⟩ := hpost
 have HX := Px.hid (And.intro (show DrRep w2 b s lim { x with at_ := q } vs vo from by rw [HE.out.2.1]; exact hrep) (It.dfoot (vs := vs) (vo := vo) (HMV.out.2.trans hf (fun _ _ h => h))))
 clear hrep hf HMV c2 c5 c7 f5
 have hnf : ¬ dfoot b vs vo (w2.heap.size + 1) := fun e => by have := HX.out.1.footLt _ e; omega
 go_upto_region 29 with fail
 obtain ⟨WX, hWX⟩ : ∃ WX, WX = ((w2.alloc (.cells #[.int .i64 4, .int .u64 (n : Nat), .string ⟨#[]⟩] 62 (0, 0))).alloc (.cells #[.int .i64 4, .int .i64 (x.at_ : Nat), .int .u64 (n : Nat), .string ⟨#[]⟩, .bool false] 108 (0, 0))) := ⟨_, rfl⟩
 rw [← hWX]
 have HR := Px.hid (show DrRep WX b s lim { x with at_ := q } vs vo ∧ Fr (dfoot b vs vo) w1 WX ∧ w2.heap.size + 1 < WX.heap.size from by rw [hWX]; exact ⟨(HX.out.1.alloc _).alloc _, (HX.out.2.alloc _).alloc _, by simp⟩)
 have xa0 : WX.cell? ⟨w2.heap.size, 0, none⟩ = some (.int .i64 4) := by rw [hWX]; exact cell_alloc (cellOf (heap_alloc_new w2 _) 0 rfl)
 have xa1 : WX.cell? ⟨w2.heap.size, 1, none⟩ = some (.int .u64 (n : Nat)) := by rw [hWX]; exact cell_alloc (cellOf (heap_alloc_new w2 _) 1 rfl)
 have xa2 : WX.cell? ⟨w2.heap.size, 2, none⟩ = some (.string ⟨#[]⟩) := by rw [hWX]; exact cell_alloc (cellOf (heap_alloc_new w2 _) 2 rfl)
 have hbn : WX.heap[w2.heap.size + 1]? = some (.cells #[.int .i64 4, .int .i64 (x.at_ : Nat), .int .u64 (n : Nat), .string ⟨#[]⟩, .bool false] 108 (0, 0)) := by
  rw [hWX]
  have := heap_alloc_new (w2.alloc (.cells #[.int .i64 4, .int .u64 (n : Nat), .string ⟨#[]⟩] 62 (0, 0))) (.cells #[.int .i64 4, .int .i64 (x.at_ : Nat), .int .u64 (n : Nat), .string ⟨#[]⟩, .bool false] 108 (0, 0))
  simpa using this
 have HBN := Px.hid hbn
 clear hWX HX hbn
 obtain ⟨_, c1, _, _, _, c6, _⟩ := HR.out.1.cells
 obtain ⟨sa, sc, hsv⟩ := HR.out.1.stackLen
 rw [hsv] at c6
 clear hsv
 go_quiet (fail)
 go_wp2
 exact ⟨rfl, rfl, HR.out.2.1.drewN nq⟩

set_option maxRecDepth 100000 in
set_option maxHeartbeats 4000000 in
theorem begin_k4 (s : Bytes) (lim : Lim) (hs : s.length ≤ 140737488355327) (b n q : Nat) (x : D7.Dx) (vs vo : Value) (w : World) (h : DrRep w b s lim x vs vo) (hx : x.at_ ≤ 262144) (hok : DOk s lim x) (hh : D7.head s lim x.out.length x.at_ = .ok (4, n, q)) (hd : ¬ (x.stack.length : Int) = lim.d) :
  Calls Tryd.prog 51 #[.pointer (some ⟨b, 0, none⟩)] w fun r w' => BegPost w b s lim (dfoot b vs vo) (.ok { at_ := q, stack := ⟨4, x.at_, n, [], false⟩ :: x.stack, out := x.out ++ [⟨4, n, []⟩] }) r w' := by
 have hol : x.out.length ≤ 1000000 := hok.2.2.1
 have hsl9 : x.stack.length ≤ 900 := hok.2.1
 have hdb : ((x.stack.length : Int) == lim.d) = false := by simpa using hd
 clear hd
 obtain ⟨c, hc, hcb, hkc, hi, h27, h7, he, hqe⟩ := head_ok hh
 have hw := dwant_yes b x.at_ s lim x vs vo w h c hc
 have HW := Px.hid hw
 have HH := Px.hid h
 obtain ⟨_, _, c2, _, c5, _, c7⟩ := h.cells
 obtain ⟨oa, oc, hov, _⟩ := h.out.len
 rw [hov] at c7
 have HOV := Px.hid hov
 obtain ⟨a, ha⟩ : ∃ a, a = c % 32 := ⟨_, rfl⟩
 have hq : (c : Int) / 32 = 4 := by omega
 have hmd : (c : Int) % 32 = (a : Int) := by omega
 have ha32 : a < 32 := by omega
 rw [← ha] at h27 he h7 hqe
 have hib : ((x.out.length : Int) == lim.i) = false := by simpa using hi
 have z27 : ¬ (27 : Int) < a := by omega
 have z7 : True := trivial
 clear h7 hkc
 have ep1 : ((x.at_ + 1 : Nat) : Int) = (x.at_ : Int) + 1 := by omega
 have f5 := HH.out.free 5
 have hst1 := hok.1
 have HE := Px.hid (And.intro he (And.intro hqe (And.intro hs (And.intro h27 hok))))
 clear ha hw hc h hov hi he h27 hqe hh hs hok hst1
 go_enter Tryd.func51, Tryd.ntmps51
 go_wp2_with fail
 refine HW.out.mono ?_
 rintro r w1 ⟨rfl, rfl⟩
 go_wp2_with fail
 go_quiet (fail)
 have hmv := (HH.out.drewN nq).move (x.at_ + 1)
 rw [ep1] at hmv
 have HMV := Px.hid (And.intro hmv ((Fr.drewN (Fr.refl (It b) w1) nq).setCell (p := ⟨b, 5, none⟩) (.inl rfl) (.int .i64 ((x.at_ : Int) + 1))))
 clear hmv
 go_wp2_with fail
 refine (arg_any b x.at_ a s lim _ vs vo _ HMV.out.1 (show x.at_ + 1 ≤ 1000000 by omega) HE.out.2.2.2.1).mono ?_
 intro r w2 hpost
 unfold ArgPost at hpost
 rw [show argD s lim x.at_ a ({ x with at_ := x.at_ + 1 } : D7.Dx).at_ = .ok n from HE.out.1] at hpost
 obtain ⟨rfl, hrep, hf⟩ := hpost
 have HX := Px.hid (And.intro (show DrRep w2 b s lim { x with at_ := q } vs vo from by rw [HE.out.2.1]; exact hrep) (It.dfoot (vs := vs) (vo := vo) (HMV.out.2.trans hf (fun _ _ h => h))))
 clear hrep hf HMV c2 c5 c7 f5
 have hnf : ¬ dfoot b vs vo (w2.heap.size + 1) := fun e => by have := HX.out.1.footLt _ e; omega
 go_upto_region 29 with fail
 obtain ⟨WX, hWX⟩ : ∃ WX, WX = ((w2.alloc (.cells #[.int .i64 4, .int .u64 (n : Nat), .string ⟨#[]⟩] 62 (0, 0))).alloc (.cells #[.int .i64 4, .int .i64 (x.at_ : Nat), .int .u64 (n : Nat), .string ⟨#[]⟩, .bool false] 108 (0, 0))) := ⟨_, rfl⟩
 rw [← hWX]
 have HR := Px.hid (show DrRep WX b s lim { x with at_ := q } vs vo ∧ Fr (dfoot b vs vo) w1 WX ∧ w2.heap.size + 1 < WX.heap.size from by rw [hWX]; exact ⟨(HX.out.1.alloc _).alloc _, (HX.out.2.alloc _).alloc _, by simp⟩)
 have xa0 : WX.cell? ⟨w2.heap.size, 0, none⟩ = some (.int .i64 4) := by rw [hWX]; exact cell_alloc (cellOf (heap_alloc_new w2 _) 0 rfl)
 have xa1 : WX.cell? ⟨w2.heap.size, 1, none⟩ = some (.int .u64 (n : Nat)) := by rw [hWX]; exact cell_alloc (cellOf (heap_alloc_new w2 _) 1 rfl)
 have xa2 : WX.cell? ⟨w2.heap.size, 2, none⟩ = some (.string ⟨#[]⟩) := by rw [hWX]; exact cell_alloc (cellOf (heap_alloc_new w2 _) 2 rfl)
 have hbn : WX.heap[w2.heap.size + 1]? = some (.cells #[.int .i64 4, .int .i64 (x.at_ : Nat), .int .u64 (n : Nat), .string ⟨#[]⟩, .bool false] 108 (0, 0)) := by
  rw [hWX]
  have := heap_alloc_new (w2.alloc (.cells #[.int .i64 4, .int .u64 (n : Nat), .string ⟨#[]⟩] 62 (0, 0))) (.cells #[.int .i64 4, .int .i64 (x.at_ : Nat), .int .u64 (n : Nat), .string ⟨#[]⟩, .bool false] 108 (0, 0))
  simpa using this
 have HBN := Px.hid hbn
 clear hWX HX hbn
 obtain ⟨_, c1, _, _, _, c6, _⟩ := HR.out.1.cells
 obtain ⟨sa, sc, hsv⟩ := HR.out.1.stackLen
 rw [hsv] at c6
 clear hsv
 go_quiet (fail)
 obtain ⟨l, hl⟩ : ∃ l : Nat, l = n := ⟨_, rfl⟩
 have HLV := Px.hid (show (((n : Nat) : Int) : Int) = (l : Int) by omega)
 have HL := Px.hid hl
 clear hl
 obtain ⟨WY, hWY⟩ : ∃ WY, WY = WX.drewN nq := ⟨_, rfl⟩
 have HR := Px.hid (show DrRep WY b s lim { x with at_ := q } vs vo ∧ Fr (dfoot b vs vo) w1 WY ∧ w2.heap.size + 1 < WY.heap.size from by rw [hWY]; exact ⟨HR.out.1.drewN nq, HR.out.2.1.drewN nq, HR.out.2.2⟩)
 have HBN := Px.hid (show WY.heap[w2.heap.size + 1]? = some (.cells #[.int .i64 4, .int .i64 (x.at_ : Nat), .int .u64 (l : Nat), .string ⟨#[]⟩, .bool false] 108 (0, 0)) from by rw [hWY, ← HLV.out]; exact HBN.out)
 have ya0 : WY.cell? ⟨w2.heap.size, 0, none⟩ = some (.int .i64 4) := by rw [hWY]; exact xa0
 have ya1 : WY.cell? ⟨w2.heap.size, 1, none⟩ = some (.int .u64 (n : Nat)) := by rw [hWY]; exact xa1
 have ya2 : WY.cell? ⟨w2.heap.size, 2, none⟩ = some (.string ⟨#[]⟩) := by rw [hWY]; exact xa2
 rw [← hWY]
 clear hWY xa0 xa1 xa2 c1 c6
 have c7 : WY.cell? ⟨b, 7, none⟩ = some vo := HR.out.1.cells.2.2.2.2.2.2
 have f7 := HR.out.1.free 7
 have hb : b < WY.heap.size := HR.out.1.lt
 obtain ⟨i0, hi0, hz0, hz1, hz2⟩ := info_parts Tryd.infoAtom
 go_upto_region 31 with fail
 go_cut [] (fun wx => DAfter WY wx b s lim { x with at_ := q } ⟨4, n, []⟩ vs vo)
 case first =>
  go_region_law
   ((refine step_append_lies _ (by rfl) _ _ _ (by rfl) 0 62 i0 _ 3 32 Tryd.underlying50 hi0 hz0 hz1 hz2 rfl (by omega) vo x.out.length (x.out.flatMap cAtom) (by rfl) ((HR.out.1.out.alloc _).drew) ⟨WY.heap.size, 0, none⟩ 1 1 (cAtom ⟨4, n, []⟩) (by rfl) (by rfl) (World.news_of_block (cs := #[.int .i64 4, .int .u64 n, .string ⟨#[]⟩]) (t := 62) (fr := (0, 0)) (heap_alloc_new WY _)) (by simp [cAtom, Value.oneCell']) (by omega) (by unfold maxLen; omega) (by omega) (by simp) (WY.heap.size + 1) (by simp) ?_; intro gg cap w1 hown1 hgrow hat hlt; have k7 := grown_cell hgrow c7 HR.out.1.ob.ne; have e7 := grown_free hgrow c7 f7 HR.out.1.ob.ne))
  all_goals (go_wp2_with fail; go_meet; exact HR.out.1.afterOut hown1 (grown_alloc hgrow) (hat.elim .inl (fun e => .inr (by omega))))
 case rest =>
  obtain ⟨vo', hy, hyf, hyn⟩ := hcut
  have hbn2 : wc.heap[w2.heap.size + 1]? = some (.cells #[.int .i64 4, .int .i64 (x.at_ : Nat), .int .u64 (l : Nat), .string ⟨#[]⟩, .bool false] 108 (0, 0)) := (hyf.block _ HR.out.2.2 hnf).trans HBN.out
  have xb0 := cellOf hbn2 0 rfl
  have xb1 := cellOf hbn2 1 rfl
  have xb2 := cellOf hbn2 2 rfl
  have xb3 := cellOf hbn2 3 rfl
  have xb4 := cellOf hbn2 4 rfl
  have HY := Px.hid (And.intro hy (And.intro hyf hyn))
  clear hy hyf hyn c7 f7 ya0 ya1 ya2 hbn2
  have hb2 : b < wc.heap.size := HY.out.1.lt
  have c6 : wc.cell? ⟨b, 6, none⟩ = some vs := HY.out.1.cells.2.2.2.2.2.1
  have f6 := HY.out.1.free 6
  obtain ⟨j0, hj0, hy0, hy1, hy2⟩ := info_parts Tryd.infoDFm
  have HS := Px.hid (show wc.ownsRow 0 108 5 vs x.stack.length (x.stack.reverse.flatMap cFm) by have := HY.out.1.stack; unfold Owns at this; rw [List.length_reverse] at this; exact this)
  go_upto_region 32 with fail
  go_region_law
   ((refine step_append_lies _ (by rfl) _ _ _ (by rfl) 0 108 j0 _ 5 48 Tryd.underlying81 hj0 hy0 hy1 hy2 rfl (by omega) vs x.stack.length (x.stack.reverse.flatMap cFm) (by rfl) ((HS.out.alloc _).drew) ⟨wc.heap.size, 0, none⟩ 1 1 (cFm ⟨4, x.at_, l, [], false⟩) (by rfl) (by rfl) (World.news_of_block (cs := #[.int .i64 4, .int .i64 (x.at_ : Nat), .int .u64 (l : Nat), .string ⟨#[]⟩, .bool false]) (t := 108) (fr := (0, 0)) (heap_alloc_new wc _)) (by simp [cFm, Value.oneCell']) (by omega) (by unfold maxLen; omega) (by omega) (by simp) (wc.heap.size + 1) (by simp) ?_; intro gg cap w1x hown1 hgrow hat hlt; have k6 := grown_cell hgrow c6 HY.out.1.sb.ne; have e6 := grown_free hgrow c6 f6 HY.out.1.sb.ne))
  all_goals go_wp2
  all_goals
   obtain ⟨vs', hz, hzf, hzn⟩ := HY.out.1.afterPush (a := ⟨4, x.at_, l, [], false⟩) hown1 (grown_alloc hgrow) (hat.elim .inl (fun e => .inr (by omega)))
   have hfA := HR.out.2.1.step (Fresh.refl _ _) HY.out.2.1
   have hnA := Fresh.trans (Fresh.refl (w1) (dfoot b vs vo)) HR.out.2.1.size HY.out.2.2
   refine bodyPost_ret (results_none rfl _ _ _) rfl ?_
   rw [HL.out] at hz
   exact ⟨rfl, _, ⟨_, _, hz, rfl⟩, hfA.step hnA hzf, Fresh.trans hnA hfA.size hzn⟩

set_option maxRecDepth 100000 in
set_option maxHeartbeats 4000000 in
theorem begin_k5_full (s : Bytes) (lim : Lim) (hs : s.length ≤ 140737488355327) (b n q : Nat) (x : D7.Dx) (vs vo : Value) (w : World) (h : DrRep w b s lim x vs vo) (hx : x.at_ ≤ 262144) (hok : DOk s lim x) (hh : D7.head s lim x.out.length x.at_ = .ok (5, n, q)) (hd : (x.stack.length : Int) = lim.d) :
  Calls Tryd.prog 51 #[.pointer (some ⟨b, 0, none⟩)] w fun r w' => r = panics (x.at_, 10) ∧ Fr (dfoot b vs vo) w w' := by
 have hol : x.out.length ≤ 1000000 := hok.2.2.1
 have hsl9 : x.stack.length ≤ 900 := hok.2.1
 have hdb : ((x.stack.length : Int) == lim.d) = true := by simpa using hd
 clear hd
 obtain ⟨c, hc, hcb, hkc, hi, h27, h7, he, hqe⟩ := head_ok hh
 have hw := dwant_yes b x.at_ s lim x vs vo w h c hc
 have HW := Px.hid hw
 have HH := Px.hid h
 obtain ⟨_, _, c2, _, c5, _, c7⟩ := h.cells
 obtain ⟨oa, oc, hov, _⟩ := h.out.len
 rw [hov] at c7
 have HOV := Px.hid hov
 obtain ⟨a, ha⟩ : ∃ a, a = c % 32 := ⟨_, rfl⟩
 have hq : (c : Int) / 32 = 5 := by omega
 have hmd : (c : Int) % 32 = (a : Int) := by omega
 have ha32 : a < 32 := by omega
 rw [← ha] at h27 he h7 hqe
 have hib : ((x.out.length : Int) == lim.i) = false := by simpa using hi
 have z27 : ¬ (27 : Int) < a := by omega
 have z7 : True := trivial
 clear h7 hkc
 have ep1 : ((x.at_ + 1 : Nat) : Int) = (x.at_ : Int) + 1 := by omega
 have f5 := HH.out.free 5
 have hst1 := hok.1
 have HE := Px.hid (And.intro he (And.intro hqe (And.intro hs (And.intro h27 hok))))
 clear ha hw hc h hov hi he h27 hqe hh hs hok hst1
 go_enter Tryd.func51, Tryd.ntmps51
 go_wp2_with fail
 refine HW.out.mono ?_
 rintro r w1 ⟨rfl, rfl⟩
 go_wp2_with fail
 go_quiet (fail)
 have hmv := (HH.out.drewN nq).move (x.at_ + 1)
 rw [ep1] at hmv
 have HMV := Px.hid (And.intro hmv ((Fr.drewN (Fr.refl (It b) w1) nq).setCell (p := ⟨b, 5, none⟩) (.inl rfl) (.int .i64 ((x.at_ : Int) + 1))))
 clear hmv
 go_wp2_with fail
 refine (arg_any b x.at_ a s lim _ vs vo _ HMV.out.1 (show x.at_ + 1 ≤ 1000000 by omega) HE.out.2.2.2.1).mono ?_
 intro r w2 hpost
 unfold ArgPost at hpost
 rw [show argD s lim x.at_ a ({ x with at_ := x.at_ + 1 } : D7.Dx).at_ = .ok n from HE.out.1] at hpost
 obtain ⟨rfl, hrep, hf⟩ := hpost
 have HX := Px.hid (And.intro (show DrRep w2 b s lim { x with at_ := q } vs vo from by rw [HE.out.2.1]; exact hrep) (It.dfoot (vs := vs) (vo := vo) (HMV.out.2.trans hf (fun _ _ h => h))))
 clear hrep hf HMV c2 c5 c7 f5
 have hmul : IntKind.u64.wrap (2 * min (n : Int) 1099511627776) = 2 * min (n : Int) 1099511627776 := IntWalk.u64_in _ ⟨by omega, by omega⟩
 have hnf : ¬ dfoot b vs vo (w2.heap.size + 1) := fun e => by have := HX.out.1.footLt _ e; omega
 go_upto_region 29 with ((go_at_call 73; refine (least_u64 _ _ _).mono ?_; rintro e w' ⟨rfl, rfl⟩))
 obtain ⟨WX, hWX⟩ : ∃ WX, WX = ((w2.alloc (.cells #[.int .i64 5, .int .u64 (n : Nat), .string ⟨#[]⟩] 62 (0, 0))).alloc (.cells #[.int .i64 5, .int .i64 (x.at_ : Nat), .int .u64 (2 * min (n : Int) 1099511627776), .string ⟨#[]⟩, .bool false] 108 (0, 0))) := ⟨_, rfl⟩
 rw [← hWX]
 have HR := Px.hid (show DrRep WX b s lim { x with at_ := q } vs vo ∧ Fr (dfoot b vs vo) w1 WX ∧ w2.heap.size + 1 < WX.heap.size from by rw [hWX]; exact ⟨(HX.out.1.alloc _).alloc _, (HX.out.2.alloc _).alloc _, by simp⟩)
 have xa0 : WX.cell? ⟨w2.heap.size, 0, none⟩ = some (.int .i64 5) := by rw [hWX]; exact cell_alloc (cellOf (heap_alloc_new w2 _) 0 rfl)
 have xa1 : WX.cell? ⟨w2.heap.size, 1, none⟩ = some (.int .u64 (n : Nat)) := by rw [hWX]; exact cell_alloc (cellOf (heap_alloc_new w2 _) 1 rfl)
 have xa2 : WX.cell? ⟨w2.heap.size, 2, none⟩ = some (.string ⟨#[]⟩) := by rw [hWX]; exact cell_alloc (cellOf (heap_alloc_new w2 _) 2 rfl)
 have hbn : WX.heap[w2.heap.size + 1]? = some (.cells #[.int .i64 5, .int .i64 (x.at_ : Nat), .int .u64 (2 * min (n : Int) 1099511627776), .string ⟨#[]⟩, .bool false] 108 (0, 0)) := by
  rw [hWX]
  have := heap_alloc_new (w2.alloc (.cells #[.int .i64 5, .int .u64 (n : Nat), .string ⟨#[]⟩] 62 (0, 0))) (.cells #[.int .i64 5, .int .i64 (x.at_ : Nat), .int .u64 (2 * min (n : Int) 1099511627776), .string ⟨#[]⟩, .bool false] 108 (0, 0))
  simpa using this
 have HBN := Px.hid hbn
 clear hWX HX hbn
 obtain ⟨_, c1, _, _, _, c6, _⟩ := HR.out.1.cells
 obtain ⟨sa, sc, hsv⟩ := HR.out.1.stackLen
 rw [hsv] at c6
 clear hsv
 go_quiet (fail)
 go_wp2
 exact ⟨rfl, rfl, HR.out.2.1.drewN nq⟩

set_option maxRecDepth 100000 in
set_option maxHeartbeats 4000000 in
theorem begin_k5 (s : Bytes) (lim : Lim) (hs : s.length ≤ 140737488355327) (b n q : Nat) (x : D7.Dx) (vs vo : Value) (w : World) (h : DrRep w b s lim x vs vo) (hx : x.at_ ≤ 262144) (hok : DOk s lim x) (hh : D7.head s lim x.out.length x.at_ = .ok (5, n, q)) (hd : ¬ (x.stack.length : Int) = lim.d) :
  Calls Tryd.prog 51 #[.pointer (some ⟨b, 0, none⟩)] w fun r w' => BegPost w b s lim (dfoot b vs vo) (.ok { at_ := q, stack := ⟨5, x.at_, 2 * min n 1099511627776, [], false⟩ :: x.stack, out := x.out ++ [⟨5, n, []⟩] }) r w' := by
 have hol : x.out.length ≤ 1000000 := hok.2.2.1
 have hsl9 : x.stack.length ≤ 900 := hok.2.1
 have hdb : ((x.stack.length : Int) == lim.d) = false := by simpa using hd
 clear hd
 obtain ⟨c, hc, hcb, hkc, hi, h27, h7, he, hqe⟩ := head_ok hh
 have hw := dwant_yes b x.at_ s lim x vs vo w h c hc
 have HW := Px.hid hw
 have HH := Px.hid h
 obtain ⟨_, _, c2, _, c5, _, c7⟩ := h.cells
 obtain ⟨oa, oc, hov, _⟩ := h.out.len
 rw [hov] at c7
 have HOV := Px.hid hov
 obtain ⟨a, ha⟩ : ∃ a, a = c % 32 := ⟨_, rfl⟩
 have hq : (c : Int) / 32 = 5 := by omega
 have hmd : (c : Int) % 32 = (a : Int) := by omega
 have ha32 : a < 32 := by omega
 rw [← ha] at h27 he h7 hqe
 have hib : ((x.out.length : Int) == lim.i) = false := by simpa using hi
 have z27 : ¬ (27 : Int) < a := by omega
 have z7 : True := trivial
 clear h7 hkc
 have ep1 : ((x.at_ + 1 : Nat) : Int) = (x.at_ : Int) + 1 := by omega
 have f5 := HH.out.free 5
 have hst1 := hok.1
 have HE := Px.hid (And.intro he (And.intro hqe (And.intro hs (And.intro h27 hok))))
 clear ha hw hc h hov hi he h27 hqe hh hs hok hst1
 go_enter Tryd.func51, Tryd.ntmps51
 go_wp2_with fail
 refine HW.out.mono ?_
 rintro r w1 ⟨rfl, rfl⟩
 go_wp2_with fail
 go_quiet (fail)
 have hmv := (HH.out.drewN nq).move (x.at_ + 1)
 rw [ep1] at hmv
 have HMV := Px.hid (And.intro hmv ((Fr.drewN (Fr.refl (It b) w1) nq).setCell (p := ⟨b, 5, none⟩) (.inl rfl) (.int .i64 ((x.at_ : Int) + 1))))
 clear hmv
 go_wp2_with fail
 refine (arg_any b x.at_ a s lim _ vs vo _ HMV.out.1 (show x.at_ + 1 ≤ 1000000 by omega) HE.out.2.2.2.1).mono ?_
 intro r w2 hpost
 unfold ArgPost at hpost
 rw [show argD s lim x.at_ a ({ x with at_ := x.at_ + 1 } : D7.Dx).at_ = .ok n from HE.out.1] at hpost
 obtain ⟨rfl, hrep, hf⟩ := hpost
 have HX := Px.hid (And.intro (show DrRep w2 b s lim { x with at_ := q } vs vo from by rw [HE.out.2.1]; exact hrep) (It.dfoot (vs := vs) (vo := vo) (HMV.out.2.trans hf (fun _ _ h => h))))
 clear hrep hf HMV c2 c5 c7 f5
 have hmul : IntKind.u64.wrap (2 * min (n : Int) 1099511627776) = 2 * min (n : Int) 1099511627776 := IntWalk.u64_in _ ⟨by omega, by omega⟩
 have hnf : ¬ dfoot b vs vo (w2.heap.size + 1) := fun e => by have := HX.out.1.footLt _ e; omega
 go_upto_region 29 with ((go_at_call 73; refine (least_u64 _ _ _).mono ?_; rintro e w' ⟨rfl, rfl⟩))
 obtain ⟨WX, hWX⟩ : ∃ WX, WX = ((w2.alloc (.cells #[.int .i64 5, .int .u64 (n : Nat), .string ⟨#[]⟩] 62 (0, 0))).alloc (.cells #[.int .i64 5, .int .i64 (x.at_ : Nat), .int .u64 (2 * min (n : Int) 1099511627776), .string ⟨#[]⟩, .bool false] 108 (0, 0))) := ⟨_, rfl⟩
 rw [← hWX]
 have HR := Px.hid (show DrRep WX b s lim { x with at_ := q } vs vo ∧ Fr (dfoot b vs vo) w1 WX ∧ w2.heap.size + 1 < WX.heap.size from by rw [hWX]; exact ⟨(HX.out.1.alloc _).alloc _, (HX.out.2.alloc _).alloc _, by simp⟩)
 have xa0 : WX.cell? ⟨w2.heap.size, 0, none⟩ = some (.int .i64 5) := by rw [hWX]; exact cell_alloc (cellOf (heap_alloc_new w2 _) 0 rfl)
 have xa1 : WX.cell? ⟨w2.heap.size, 1, none⟩ = some (.int .u64 (n : Nat)) := by rw [hWX]; exact cell_alloc (cellOf (heap_alloc_new w2 _) 1 rfl)
 have xa2 : WX.cell? ⟨w2.heap.size, 2, none⟩ = some (.string ⟨#[]⟩) := by rw [hWX]; exact cell_alloc (cellOf (heap_alloc_new w2 _) 2 rfl)
 have hbn : WX.heap[w2.heap.size + 1]? = some (.cells #[.int .i64 5, .int .i64 (x.at_ : Nat), .int .u64 (2 * min (n : Int) 1099511627776), .string ⟨#[]⟩, .bool false] 108 (0, 0)) := by
  rw [hWX]
  have := heap_alloc_new (w2.alloc (.cells #[.int .i64 5, .int .u64 (n : Nat), .string ⟨#[]⟩] 62 (0, 0))) (.cells #[.int .i64 5, .int .i64 (x.at_ : Nat), .int .u64 (2 * min (n : Int) 1099511627776), .string ⟨#[]⟩, .bool false] 108 (0, 0))
  simpa using this
 have HBN := Px.hid hbn
 clear hWX HX hbn
 obtain ⟨_, c1, _, _, _, c6, _⟩ := HR.out.1.cells
 obtain ⟨sa, sc, hsv⟩ := HR.out.1.stackLen
 rw [hsv] at c6
 clear hsv
 go_quiet (fail)
 obtain ⟨l, hl⟩ : ∃ l : Nat, l = 2 * min n 1099511627776 := ⟨_, rfl⟩
 have HLV := Px.hid (show (2 * min (n : Int) 1099511627776 : Int) = (l : Int) by omega)
 have HL := Px.hid hl
 clear hl
 obtain ⟨WY, hWY⟩ : ∃ WY, WY = WX.drewN nq := ⟨_, rfl⟩
 have HR := Px.hid (show DrRep WY b s lim { x with at_ := q } vs vo ∧ Fr (dfoot b vs vo) w1 WY ∧ w2.heap.size + 1 < WY.heap.size from by rw [hWY]; exact ⟨HR.out.1.drewN nq, HR.out.2.1.drewN nq, HR.out.2.2⟩)
 have HBN := Px.hid (show WY.heap[w2.heap.size + 1]? = some (.cells #[.int .i64 5, .int .i64 (x.at_ : Nat), .int .u64 (l : Nat), .string ⟨#[]⟩, .bool false] 108 (0, 0)) from by rw [hWY, ← HLV.out]; exact HBN.out)
 have ya0 : WY.cell? ⟨w2.heap.size, 0, none⟩ = some (.int .i64 5) := by rw [hWY]; exact xa0
 have ya1 : WY.cell? ⟨w2.heap.size, 1, none⟩ = some (.int .u64 (n : Nat)) := by rw [hWY]; exact xa1
 have ya2 : WY.cell? ⟨w2.heap.size, 2, none⟩ = some (.string ⟨#[]⟩) := by rw [hWY]; exact xa2
 rw [← hWY]
 clear hWY xa0 xa1 xa2 c1 c6
 have c7 : WY.cell? ⟨b, 7, none⟩ = some vo := HR.out.1.cells.2.2.2.2.2.2
 have f7 := HR.out.1.free 7
 have hb : b < WY.heap.size := HR.out.1.lt
 obtain ⟨i0, hi0, hz0, hz1, hz2⟩ := info_parts Tryd.infoAtom
 go_upto_region 31 with fail
 go_cut [] (fun wx => DAfter WY wx b s lim { x with at_ := q } ⟨5, n, []⟩ vs vo)
 case first =>
  go_region_law
   ((refine step_append_lies _ (by rfl) _ _ _ (by rfl) 0 62 i0 _ 3 32 Tryd.underlying50 hi0 hz0 hz1 hz2 rfl (by omega) vo x.out.length (x.out.flatMap cAtom) (by rfl) ((HR.out.1.out.alloc _).drew) ⟨WY.heap.size, 0, none⟩ 1 1 (cAtom ⟨5, n, []⟩) (by rfl) (by rfl) (World.news_of_block (cs := #[.int .i64 5, .int .u64 n, .string ⟨#[]⟩]) (t := 62) (fr := (0, 0)) (heap_alloc_new WY _)) (by simp [cAtom, Value.oneCell']) (by omega) (by unfold maxLen; omega) (by omega) (by simp) (WY.heap.size + 1) (by simp) ?_; intro gg cap w1 hown1 hgrow hat hlt; have k7 := grown_cell hgrow c7 HR.out.1.ob.ne; have e7 := grown_free hgrow c7 f7 HR.out.1.ob.ne))
  all_goals (go_wp2_with fail; go_meet; exact HR.out.1.afterOut hown1 (grown_alloc hgrow) (hat.elim .inl (fun e => .inr (by omega))))
 case rest =>
  obtain ⟨vo', hy, hyf, hyn⟩ := hcut
  have hbn2 : wc.heap[w2.heap.size + 1]? = some (.cells #[.int .i64 5, .int .i64 (x.at_ : Nat), .int .u64 (l : Nat), .string ⟨#[]⟩, .bool false] 108 (0, 0)) := (hyf.block _ HR.out.2.2 hnf).trans HBN.out
  have xb0 := cellOf hbn2 0 rfl
  have xb1 := cellOf hbn2 1 rfl
  have xb2 := cellOf hbn2 2 rfl
  have xb3 := cellOf hbn2 3 rfl
  have xb4 := cellOf hbn2 4 rfl
  have HY := Px.hid (And.intro hy (And.intro hyf hyn))
  clear hy hyf hyn c7 f7 ya0 ya1 ya2 hbn2
  have hb2 : b < wc.heap.size := HY.out.1.lt
  have c6 : wc.cell? ⟨b, 6, none⟩ = some vs := HY.out.1.cells.2.2.2.2.2.1
  have f6 := HY.out.1.free 6
  obtain ⟨j0, hj0, hy0, hy1, hy2⟩ := info_parts Tryd.infoDFm
  have HS := Px.hid (show wc.ownsRow 0 108 5 vs x.stack.length (x.stack.reverse.flatMap cFm) by have := HY.out.1.stack; unfold Owns at this; rw [List.length_reverse] at this; exact this)
  go_upto_region 32 with fail
  go_region_law
   ((refine step_append_lies _ (by rfl) _ _ _ (by rfl) 0 108 j0 _ 5 48 Tryd.underlying81 hj0 hy0 hy1 hy2 rfl (by omega) vs x.stack.length (x.stack.reverse.flatMap cFm) (by rfl) ((HS.out.alloc _).drew) ⟨wc.heap.size, 0, none⟩ 1 1 (cFm ⟨5, x.at_, l, [], false⟩) (by rfl) (by rfl) (World.news_of_block (cs := #[.int .i64 5, .int .i64 (x.at_ : Nat), .int .u64 (l : Nat), .string ⟨#[]⟩, .bool false]) (t := 108) (fr := (0, 0)) (heap_alloc_new wc _)) (by simp [cFm, Value.oneCell']) (by omega) (by unfold maxLen; omega) (by omega) (by simp) (wc.heap.size + 1) (by simp) ?_; intro gg cap w1x hown1 hgrow hat hlt; have k6 := grown_cell hgrow c6 HY.out.1.sb.ne; have e6 := grown_free hgrow c6 f6 HY.out.1.sb.ne))
  all_goals go_wp2
  all_goals
   obtain ⟨vs', hz, hzf, hzn⟩ := HY.out.1.afterPush (a := ⟨5, x.at_, l, [], false⟩) hown1 (grown_alloc hgrow) (hat.elim .inl (fun e => .inr (by omega)))
   have hfA := HR.out.2.1.step (Fresh.refl _ _) HY.out.2.1
   have hnA := Fresh.trans (Fresh.refl (w1) (dfoot b vs vo)) HR.out.2.1.size HY.out.2.2
   refine bodyPost_ret (results_none rfl _ _ _) rfl ?_
   rw [HL.out] at hz
   exact ⟨rfl, _, ⟨_, _, hz, rfl⟩, hfA.step hnA hzf, Fresh.trans hnA hfA.size hzn⟩

set_option maxRecDepth 100000 in
set_option maxHeartbeats 4000000 in
theorem begin_k6_full (s : Bytes) (lim : Lim) (hs : s.length ≤ 140737488355327) (b n q : Nat) (x : D7.Dx) (vs vo : Value) (w : World) (h : DrRep w b s lim x vs vo) (hx : x.at_ ≤ 262144) (hok : DOk s lim x) (hh : D7.head s lim x.out.length x.at_ = .ok (6, n, q)) (hd : (x.stack.length : Int) = lim.d) :
  Calls Tryd.prog 51 #[.pointer (some ⟨b, 0, none⟩)] w fun r w' => r = panics (x.at_, 10) ∧ Fr (dfoot b vs vo) w w' := by
 have hol : x.out.length ≤ 1000000 := hok.2.2.1
 have hsl9 : x.stack.length ≤ 900 := hok.2.1
 have hdb : ((x.stack.length : Int) == lim.d) = true := by simpa using hd
 clear hd
 obtain ⟨c, hc, hcb, hkc, hi, h27, h7, he, hqe⟩ := head_ok hh
 have hw := dwant_yes b x.at_ s lim x vs vo w h c hc
 have HW := Px.hid hw
 have HH := Px.hid h
 obtain ⟨_, _, c2, _, c5, _, c7⟩ := h.cells
 obtain ⟨oa, oc, hov, _⟩ := h.out.len
 rw [hov] at c7
 have HOV := Px.hid hov
 obtain ⟨a, ha⟩ : ∃ a, a = c % 32 := ⟨_, rfl⟩
 have hq : (c : Int) / 32 = 6 := by omega
 have hmd : (c : Int) % 32 = (a : Int) := by omega
 have ha32 : a < 32 := by omega
 rw [← ha] at h27 he h7 hqe
 have hib : ((x.out.length : Int) == lim.i) = false := by simpa using hi
 have z27 : ¬ (27 : Int) < a := by omega
 have z7 : True := trivial
 clear h7 hkc
 have ep1 : ((x.at_ + 1 : Nat) : Int) = (x.at_ : Int) + 1 := by omega
 have f5 := HH.out.free 5
 have hst1 := hok.1
 have HE := Px.hid (And.intro he (And.intro hqe (And.intro hs (And.intro h27 hok))))
 clear ha hw hc h hov hi he h27 hqe hh hs hok hst1
 go_enter Tryd.func51, Tryd.ntmps51
 go_wp2_with fail
 refine HW.out.mono ?_
 rintro r w1 ⟨rfl, rfl⟩
 go_wp2_with fail
 go_quiet (fail)
 have hmv := (HH.out.drewN nq).move (x.at_ + 1)
 rw [ep1] at hmv
 have HMV := Px.hid (And.intro hmv ((Fr.drewN (Fr.refl (It b) w1) nq).setCell (p := ⟨b, 5, none⟩) (.inl rfl) (.int .i64 ((x.at_ : Int) + 1))))
 clear hmv
 go_wp2_with fail
 refine (arg_any b x.at_ a s lim _ vs vo _ HMV.out.1 (show x.at_ + 1 ≤ 1000000 by omega) HE.out.2.2.2.1).mono ?_
 intro r w2 hpost
 unfold ArgPost at hpost
 rw [show argD s lim x.at_ a ({ x with at_ := x.at_ + 1 } : D7.Dx).at_ = .ok n from HE.out.1] at hpost
 obtain ⟨rfl, hrep, hf⟩ := hpost
 have HX := Px.hid (And.intro (show DrRep w2 b s lim { x with at_ := q } vs vo from by rw [HE.out.2.1]; exact hrep) (It.dfoot (vs := vs) (vo := vo) (HMV.out.2.trans hf (fun _ _ h => h))))
 clear hrep hf HMV c2 c5 c7 f5
 have hnf : ¬ dfoot b vs vo (w2.heap.size + 1) := fun e => by have := HX.out.1.footLt _ e; omega
 go_upto_region 29 with fail
 obtain ⟨WX, hWX⟩ : ∃ WX, WX = ((w2.alloc (.cells #[.int .i64 6, .int .u64 (n : Nat), .string ⟨#[]⟩] 62 (0, 0))).alloc (.cells #[.int .i64 6, .int .i64 (x.at_ : Nat), .int .u64 1, .string ⟨#[]⟩, .bool false] 108 (0, 0))) := ⟨_, rfl⟩
 rw [← hWX]
 have HR := Px.hid (show DrRep WX b s lim { x with at_ := q } vs vo ∧ Fr (dfoot b vs vo) w1 WX ∧ w2.heap.size + 1 < WX.heap.size from by rw [hWX]; exact ⟨(HX.out.1.alloc _).alloc _, (HX.out.2.alloc _).alloc _, by simp⟩)
 have xa0 : WX.cell? ⟨w2.heap.size, 0, none⟩ = some (.int .i64 6) := by rw [hWX]; exact cell_alloc (cellOf (heap_alloc_new w2 _) 0 rfl)
 have xa1 : WX.cell? ⟨w2.heap.size, 1, none⟩ = some (.int .u64 (n : Nat)) := by rw [hWX]; exact cell_alloc (cellOf (heap_alloc_new w2 _) 1 rfl)
 have xa2 : WX.cell? ⟨w2.heap.size, 2, none⟩ = some (.string ⟨#[]⟩) := by rw [hWX]; exact cell_alloc (cellOf (heap_alloc_new w2 _) 2 rfl)
 have hbn : WX.heap[w2.heap.size + 1]? = some (.cells #[.int .i64 6, .int .i64 (x.at_ : Nat), .int .u64 1, .string ⟨#[]⟩, .bool false] 108 (0, 0)) := by
  rw [hWX]
  have := heap_alloc_new (w2.alloc (.cells #[.int .i64 6, .int .u64 (n : Nat), .string ⟨#[]⟩] 62 (0, 0))) (.cells #[.int .i64 6, .int .i64 (x.at_ : Nat), .int .u64 1, .string ⟨#[]⟩, .bool false] 108 (0, 0))
  simpa using this
 have HBN := Px.hid hbn
 clear hWX HX hbn
 obtain ⟨_, c1, _, _, _, c6, _⟩ := HR.out.1.cells
 obtain ⟨sa, sc, hsv⟩ := HR.out.1.stackLen
 rw [hsv] at c6
 clear hsv
 go_quiet (fail)
 go_wp2
 exact ⟨rfl, rfl, HR.out.2.1.drewN nq⟩

set_option maxRecDepth 100000 in
set_option maxHeartbeats 4000000 in
theorem begin_k6 (s : Bytes) (lim : Lim) (hs : s.length ≤ 140737488355327) (b n q : Nat) (x : D7.Dx) (vs vo : Value) (w : World) (h : DrRep w b s lim x vs vo) (hx : x.at_ ≤ 262144) (hok : DOk s lim x) (hh : D7.head s lim x.out.length x.at_ = .ok (6, n, q)) (hd : ¬ (x.stack.length : Int) = lim.d) :
  Calls Tryd.prog 51 #[.pointer (some ⟨b, 0, none⟩)] w fun r w' => BegPost w b s lim (dfoot b vs vo) (.ok { at_ := q, stack := ⟨6, x.at_, 1, [], false⟩ :: x.stack, out := x.out ++ [⟨6, n, []⟩] }) r w' := by
 have hol : x.out.length ≤ 1000000 := hok.2.2.1
 have hsl9 : x.stack.length ≤ 900 := hok.2.1
 have hdb : ((x.stack.length : Int) == lim.d) = false := by simpa using hd
 clear hd
 obtain ⟨c, hc, hcb, hkc, hi, h27, h7, he, hqe⟩ := head_ok hh
 have hw := dwant_yes b x.at_ s lim x vs vo w h c hc
 have HW := Px.hid hw
 have HH := Px.hid h
 obtain ⟨_, _, c2, _, c5, _, c7⟩ := h.cells
 obtain ⟨oa, oc, hov, _⟩ := h.out.len
 rw [hov] at c7
 have HOV := Px.hid hov
 obtain ⟨a, ha⟩ : ∃ a, a = c % 32 := ⟨_, rfl⟩
 have hq : (c : Int) / 32 = 6 := by omega
 have hmd : (c : Int) % 32 = (a : Int) := by omega
 have ha32 : a < 32 := by omega
 rw [← ha] at h27 he h7 hqe
 have hib : ((x.out.length : Int) == lim.i) = false := by simpa using hi
 have z27 : ¬ (27 : Int) < a := by omega
 have z7 : True := trivial
 clear h7 hkc
 have ep1 : ((x.at_ + 1 : Nat) : Int) = (x.at_ : Int) + 1 := by omega
 have f5 := HH.out.free 5
 have hst1 := hok.1
 have HE := Px.hid (And.intro he (And.intro hqe (And.intro hs (And.intro h27 hok))))
 clear ha hw hc h hov hi he h27 hqe hh hs hok hst1
 go_enter Tryd.func51, Tryd.ntmps51
 go_wp2_with fail
 refine HW.out.mono ?_
 rintro r w1 ⟨rfl, rfl⟩
 go_wp2_with fail
 go_quiet (fail)
 have hmv := (HH.out.drewN nq).move (x.at_ + 1)
 rw [ep1] at hmv
 have HMV := Px.hid (And.intro hmv ((Fr.drewN (Fr.refl (It b) w1) nq).setCell (p := ⟨b, 5, none⟩) (.inl rfl) (.int .i64 ((x.at_ : Int) + 1))))
 clear hmv
 go_wp2_with fail
 refine (arg_any b x.at_ a s lim _ vs vo _ HMV.out.1 (show x.at_ + 1 ≤ 1000000 by omega) HE.out.2.2.2.1).mono ?_
 intro r w2 hpost
 unfold ArgPost at hpost
 rw [show argD s lim x.at_ a ({ x with at_ := x.at_ + 1 } : D7.Dx).at_ = .ok n from HE.out.1] at hpost
 obtain ⟨rfl, hrep, hf⟩ := hpost
 have HX := Px.hid (And.intro (show DrRep w2 b s lim { x with at_ := q } vs vo from by rw [HE.out.2.1]; exact hrep) (It.dfoot (vs := vs) (vo := vo) (HMV.out.2.trans hf (fun _ _ h => h))))
 clear hrep hf HMV c2 c5 c7 f5
 have hnf : ¬ dfoot b vs vo (w2.heap.size + 1) := fun e => by have := HX.out.1.footLt _ e; omega
 go_upto_region 29 with fail
 obtain ⟨WX, hWX⟩ : ∃ WX, WX = ((w2.alloc (.cells #[.int .i64 6, .int .u64 (n : Nat), .string ⟨#[]⟩] 62 (0, 0))).alloc (.cells #[.int .i64 6, .int .i64 (x.at_ : Nat), .int .u64 1, .string ⟨#[]⟩, .bool false] 108 (0, 0))) := ⟨_, rfl⟩
 rw [← hWX]
 have HR := Px.hid (show DrRep WX b s lim { x with at_ := q } vs vo ∧ Fr (dfoot b vs vo) w1 WX ∧ w2.heap.size + 1 < WX.heap.size from by rw [hWX]; exact ⟨(HX.out.1.alloc _).alloc _, (HX.out.2.alloc _).alloc _, by simp⟩)
 have xa0 : WX.cell? ⟨w2.heap.size, 0, none⟩ = some (.int .i64 6) := by rw [hWX]; exact cell_alloc (cellOf (heap_alloc_new w2 _) 0 rfl)
 have xa1 : WX.cell? ⟨w2.heap.size, 1, none⟩ = some (.int .u64 (n : Nat)) := by rw [hWX]; exact cell_alloc (cellOf (heap_alloc_new w2 _) 1 rfl)
 have xa2 : WX.cell? ⟨w2.heap.size, 2, none⟩ = some (.string ⟨#[]⟩) := by rw [hWX]; exact cell_alloc (cellOf (heap_alloc_new w2 _) 2 rfl)
 have hbn : WX.heap[w2.heap.size + 1]? = some (.cells #[.int .i64 6, .int .i64 (x.at_ : Nat), .int .u64 1, .string ⟨#[]⟩, .bool false] 108 (0, 0)) := by
  rw [hWX]
  have := heap_alloc_new (w2.alloc (.cells #[.int .i64 6, .int .u64 (n : Nat), .string ⟨#[]⟩] 62 (0, 0))) (.cells #[.int .i64 6, .int .i64 (x.at_ : Nat), .int .u64 1, .string ⟨#[]⟩, .bool false] 108 (0, 0))
  simpa using this
 have HBN := Px.hid hbn
 clear hWX HX hbn
 obtain ⟨_, c1, _, _, _, c6, _⟩ := HR.out.1.cells
 obtain ⟨sa, sc, hsv⟩ := HR.out.1.stackLen
 rw [hsv] at c6
 clear hsv
 go_quiet (fail)
 obtain ⟨l, hl⟩ : ∃ l : Nat, l = 1 := ⟨_, rfl⟩
 have HLV := Px.hid (show (1 : Int) = (l : Int) by omega)
 have HL := Px.hid hl
 clear hl
 obtain ⟨WY, hWY⟩ : ∃ WY, WY = WX.drewN nq := ⟨_, rfl⟩
 have HR := Px.hid (show DrRep WY b s lim { x with at_ := q } vs vo ∧ Fr (dfoot b vs vo) w1 WY ∧ w2.heap.size + 1 < WY.heap.size from by rw [hWY]; exact ⟨HR.out.1.drewN nq, HR.out.2.1.drewN nq, HR.out.2.2⟩)
 have HBN := Px.hid (show WY.heap[w2.heap.size + 1]? = some (.cells #[.int .i64 6, .int .i64 (x.at_ : Nat), .int .u64 (l : Nat), .string ⟨#[]⟩, .bool false] 108 (0, 0)) from by rw [hWY, ← HLV.out]; exact HBN.out)
 have ya0 : WY.cell? ⟨w2.heap.size, 0, none⟩ = some (.int .i64 6) := by rw [hWY]; exact xa0
 have ya1 : WY.cell? ⟨w2.heap.size, 1, none⟩ = some (.int .u64 (n : Nat)) := by rw [hWY]; exact xa1
 have ya2 : WY.cell? ⟨w2.heap.size, 2, none⟩ = some (.string ⟨#[]⟩) := by rw [hWY]; exact xa2
 rw [← hWY]
 clear hWY xa0 xa1 xa2 c1 c6
 have c7 : WY.cell? ⟨b, 7, none⟩ = some vo := HR.out.1.cells.2.2.2.2.2.2
 have f7 := HR.out.1.free 7
 have hb : b < WY.heap.size := HR.out.1.lt
 obtain ⟨i0, hi0, hz0, hz1, hz2⟩ := info_parts Tryd.infoAtom
 go_upto_region 31 with fail
 go_cut [] (fun wx => DAfter WY wx b s lim { x with at_ := q } ⟨6, n, []⟩ vs vo)
 case first =>
  go_region_law
   ((refine step_append_lies _ (by rfl) _ _ _ (by rfl) 0 62 i0 _ 3 32 Tryd.underlying50 hi0 hz0 hz1 hz2 rfl (by omega) vo x.out.length (x.out.flatMap cAtom) (by rfl) ((HR.out.1.out.alloc _).drew) ⟨WY.heap.size, 0, none⟩ 1 1 (cAtom ⟨6, n, []⟩) (by rfl) (by rfl) (World.news_of_block (cs := #[.int .i64 6, .int .u64 n, .string ⟨#[]⟩]) (t := 62) (fr := (0, 0)) (heap_alloc_new WY _)) (by simp [cAtom, Value.oneCell']) (by omega) (by unfold maxLen; omega) (by omega) (by simp) (WY.heap.size + 1) (by simp) ?_; intro gg cap w1 hown1 hgrow hat hlt; have k7 := grown_cell hgrow c7 HR.out.1.ob.ne; have e7 := grown_free hgrow c7 f7 HR.out.1.ob.ne))
  all_goals (go_wp2_with fail; go_meet; exact HR.out.1.afterOut hown1 (grown_alloc hgrow) (hat.elim .inl (fun e => .inr (by omega))))
 case rest =>
  obtain ⟨vo', hy, hyf, hyn⟩ := hcut
  have hbn2 : wc.heap[w2.heap.size + 1]? = some (.cells #[.int .i64 6, .int .i64 (x.at_ : Nat), .int .u64 (l : Nat), .string ⟨#[]⟩, .bool false] 108 (0, 0)) := (hyf.block _ HR.out.2.2 hnf).trans HBN.out
  have xb0 := cellOf hbn2 0 rfl
  have xb1 := cellOf hbn2 1 rfl
  have xb2 := cellOf hbn2 2 rfl
  have xb3 := cellOf hbn2 3 rfl
  have xb4 := cellOf hbn2 4 rfl
  have HY := Px.hid (And.intro hy (And.intro hyf hyn))
  clear hy hyf hyn c7 f7 ya0 ya1 ya2 hbn2
  have hb2 : b < wc.heap.size := HY.out.1.lt
  have c6 : wc.cell? ⟨b, 6, none⟩ = some vs := HY.out.1.cells.2.2.2.2.2.1
  have f6 := HY.out.1.free 6
  obtain ⟨j0, hj0, hy0, hy1, hy2⟩ := info_parts Tryd.infoDFm
  have HS := Px.hid (show wc.ownsRow 0 108 5 vs x.stack.length (x.stack.reverse.flatMap cFm) by have := HY.out.1.stack; unfold Owns at this; rw [List.length_reverse] at this; exact this)
  go_upto_region 32 with fail
  go_region_law
   ((refine step_append_lies _ (by rfl) _ _ _ (by rfl) 0 108 j0 _ 5 48 Tryd.underlying81 hj0 hy0 hy1 hy2 rfl (by omega) vs x.stack.length (x.stack.reverse.flatMap cFm) (by rfl) ((HS.out.alloc _).drew) ⟨wc.heap.size, 0, none⟩ 1 1 (cFm ⟨6, x.at_, l, [], false⟩) (by rfl) (by rfl) (World.news_of_block (cs := #[.int .i64 6, .int .i64 (x.at_ : Nat), .int .u64 (l : Nat), .string ⟨#[]⟩, .bool false]) (t := 108) (fr := (0, 0)) (heap_alloc_new wc _)) (by simp [cFm, Value.oneCell']) (by omega) (by unfold maxLen; omega) (by omega) (by simp) (wc.heap.size + 1) (by simp) ?_; intro gg cap w1x hown1 hgrow hat hlt; have k6 := grown_cell hgrow c6 HY.out.1.sb.ne; have e6 := grown_free hgrow c6 f6 HY.out.1.sb.ne))
  all_goals go_wp2
  all_goals
   obtain ⟨vs', hz, hzf, hzn⟩ := HY.out.1.afterPush (a := ⟨6, x.at_, l, [], false⟩) hown1 (grown_alloc hgrow) (hat.elim .inl (fun e => .inr (by omega)))
   have hfA := HR.out.2.1.step (Fresh.refl _ _) HY.out.2.1
   have hnA := Fresh.trans (Fresh.refl (w1) (dfoot b vs vo)) HR.out.2.1.size HY.out.2.2
   refine bodyPost_ret (results_none rfl _ _ _) rfl ?_
   rw [HL.out] at hz
   exact ⟨rfl, _, ⟨_, _, hz, rfl⟩, hfA.step hnA hzf, Fresh.trans hnA hfA.size hzn⟩

end Go.Proofs.YtddiabaagpmkgaaDoor

/-! The walk over the program's begin (package cbor) where an item is a text. -/
namespace Go.Proofs.YtddiabaagpmkgaaDoor
open Go.RowKit Go.Px

theorem room_want {s : Bytes} {lim : Lim} {p : Nat} (hb : 1 ≤ lim.b) (c : Nat) : D7.want s lim (p + D7.room s lim p) ≠ .ok c := by
 unfold D7.want D7.room
 intro h
 by_cases h1 : s.length ≤ p + (min s.length lim.b.toNat - p)
 ·rw [if_pos h1] at h; cases h
 ·rw [if_neg h1] at h
  by_cases h2 : lim.b ≤ ((p + (min s.length lim.b.toNat - p) : Nat) : Int)
  ·rw [if_pos h2] at h; cases h
  ·omega
theorem take_ok {s : Bytes} {lim : Lim} {p n : Nat} {t : Bytes} (hb : 1 ≤ lim.b) (hp : p ≤ s.length) (h : D7.take s lim p n = .ok t) : ¬ D7.room s lim p < n ∧ p + n ≤ s.length ∧ t = (s.take (p + n)).drop p := by
 unfold D7.take at h
 by_cases hc : D7.room s lim p < n
 ·rw [if_pos hc] at h
  cases hw : D7.want s lim (p + D7.room s lim p) with
  | error e => rw [hw] at h; cases h
  | ok c => exact absurd hw (room_want hb c)
 ·rw [if_neg hc] at h
  refine ⟨hc, ?_, by simpa using h.symm⟩
  unfold D7.room at hc
  omega

set_option maxRecDepth 100000 in
set_option maxHeartbeats 4000000 in
theorem begin_k2bad (s : Bytes) (lim : Lim) (hs : s.length ≤ 140737488355327) (hlb : 1 ≤ lim.b) (hlb2 : lim.b ≤ 262144) (b n q : Nat) (x : D7.Dx) (vs vo : Value) (w : World) (h : DrRep w b s lim x vs vo) (hx : x.at_ ≤ 262144) (hok : DOk s lim x) (hqs : q ≤ s.length) (hqb : (q : Int) ≤ lim.b) (hh : D7.head s lim x.out.length x.at_ = .ok (2, n, q)) (e : D7.Flt) (het : D7.take s lim q n = .error e) :
  Calls Tryd.prog 51 #[.pointer (some ⟨b, 0, none⟩)] w fun r w' => r = panics e ∧ Fr (dfoot b vs vo) w w' := by
 have HT := Px.hid (And.intro hlb (And.intro hlb2 (And.intro hqs (And.intro hqb het))))
 have HS := Px.hid hs
 clear hlb hlb2 hqs hqb het
 have hol : x.out.length ≤ 1000000 := hok.2.2.1
 obtain ⟨c, hc, hcb, hkc, hi, h27, h7, he, hqe⟩ := head_ok hh
 have hw := dwant_yes b x.at_ s lim x vs vo w h c hc
 have HW := Px.hid hw
 have HH := Px.hid h
 obtain ⟨_, _, c2, _, c5, _, c7⟩ := h.cells
 obtain ⟨oa, oc, hov, _⟩ := h.out.len
 rw [hov] at c7
 have HOV := Px.hid hov
 obtain ⟨a, ha⟩ : ∃ a, a = c % 32 := ⟨_, rfl⟩
 have hq : (c : Int) / 32 = 2 := by omega
 have hmd : (c : Int) % 32 = (a : Int) := by omega
 have ha32 : a < 32 := by omega
 rw [← ha] at h27 he h7 hqe
 have hib : ((x.out.length : Int) == lim.i) = false := by simpa using hi
 have z27 : ¬ (27 : Int) < a := by omega
 have z7 : True := trivial
 clear h7 hkc
 have ep1 : ((x.at_ + 1 : Nat) : Int) = (x.at_ : Int) + 1 := by omega
 have f5 := HH.out.free 5
 have hst1 := hok.1
 have HE := Px.hid (And.intro he (And.intro hqe (And.intro hs (And.intro h27 hok))))
 clear ha hw hc h hov hi he h27 hqe hh hs hok hst1
 go_enter Tryd.func51, Tryd.ntmps51
 go_wp2_with fail
 refine HW.out.mono ?_
 rintro r w1 ⟨rfl, rfl⟩
 go_wp2_with fail
 go_quiet (fail)
 have hmv := (HH.out.drewN nq).move (x.at_ + 1)
 rw [ep1] at hmv
 have HMV := Px.hid (And.intro hmv ((Fr.drewN (Fr.refl (It b) w1) nq).setCell (p := ⟨b, 5, none⟩) (.inl rfl) (.int .i64 ((x.at_ : Int) + 1))))
 clear hmv
 go_wp2_with fail
 refine (arg_any b x.at_ a s lim _ vs vo _ HMV.out.1 (show x.at_ + 1 ≤ 1000000 by omega) HE.out.2.2.2.1).mono ?_
 intro r w2 hpost
 unfold ArgPost at hpost
 rw [show argD s lim x.at_ a ({ x with at_ := x.at_ + 1 } : D7.Dx).at_ = .ok n from HE.out.1] at hpost
 obtain ⟨rfl, hrep, hf⟩ := hpost
 have HX := Px.hid (And.intro (show DrRep w2 b s lim { x with at_ := q } vs vo from by rw [HE.out.2.1]; exact hrep) (It.dfoot (vs := vs) (vo := vo) (HMV.out.2.trans hf (fun _ _ h => h))))
 clear hrep hf HMV c2 c5 c7 f5
 go_upto_region 19 with fail
 obtain ⟨WX, hWX⟩ : ∃ WX, WX = ((w2.alloc (.cells #[.int .i64 2, .int .u64 0, .string ⟨#[]⟩] 62 (0, 0))).alloc (.cells #[.int .i64 2, .int .i64 (x.at_ : Nat), .int .u64 1, .string ⟨#[]⟩, .bool false] 108 (0, 0))) := ⟨_, rfl⟩
 rw [← hWX]
 have hnf0 : ¬ dfoot b vs vo w2.heap.size := fun e => by have := HX.out.1.footLt _ e; omega
 have HR := Px.hid (show DrRep WX b s lim { x with at_ := q } vs vo ∧ Fr (dfoot b vs vo) w1 WX ∧ WX.heap[w2.heap.size]? = some (.cells #[.int .i64 2, .int .u64 0, .string ⟨#[]⟩] 62 (0, 0)) ∧ w2.heap.size < WX.heap.size from by
  rw [hWX]
  exact ⟨(HX.out.1.alloc _).alloc _, (HX.out.2.alloc _).alloc _, (Below.heap_alloc _ _ _ (by simp)).trans (heap_alloc_new w2 _), by simp; omega⟩)
 have xa0 : WX.cell? ⟨w2.heap.size, 0, none⟩ = some (.int .i64 2) := cellOf HR.out.2.2.1 0 rfl
 have xa2 : WX.cell? ⟨w2.heap.size, 2, none⟩ = some (.string ⟨#[]⟩) := cellOf HR.out.2.2.1 2 rfl
 have hnf := Px.hid hnf0
 have HWS := Px.hid (show w1.heap.size ≤ w2.heap.size from HX.out.2.size)
 clear hWX HX hnf0
 go_wp2_with fail
 refine (dtake_no b n s lim _ _ _ _ HR.out.1 HS.out HT.out.1 HT.out.2.1 HT.out.2.2.1 HT.out.2.2.2.1 e HT.out.2.2.2.2).mono ?_
 rintro r w3 ⟨rfl, hsm⟩
 have HF := Px.hid (Fr.trans HR.out.2.1 hsm (fun _ _ x => x.elim))
 clear hsm
 unfold panics
 go_wp2
 exact ⟨rfl, rfl, HF.out⟩

set_option maxRecDepth 100000 in
set_option maxHeartbeats 4000000 in
theorem begin_k2 (s : Bytes) (lim : Lim) (hs : s.length ≤ 140737488355327) (hlb : 1 ≤ lim.b) (hlb2 : lim.b ≤ 262144) (b n q : Nat) (x : D7.Dx) (vs vo : Value) (w : World) (h : DrRep w b s lim x vs vo) (hx : x.at_ ≤ 262144) (hok : DOk s lim x) (hqs : q ≤ s.length) (hqb : (q : Int) ≤ lim.b) (hh : D7.head s lim x.out.length x.at_ = .ok (2, n, q)) (t : Bytes) (het : D7.take s lim q n = .ok t)  :
  Calls Tryd.prog 51 #[.pointer (some ⟨b, 0, none⟩)] w fun r w' => BegPost w b s lim (dfoot b vs vo) (D7.ended s { at_ := q + n, stack := x.stack, out := x.out ++ [⟨2, 0, t⟩] } x.at_) r w' := by
 obtain ⟨hrn, hqn, htt⟩ := take_ok hlb hqs het
 have HT := Px.hid (And.intro hlb (And.intro hlb2 (And.intro hqs (And.intro hqb het))))
 have HN := Px.hid (And.intro hrn hqn)
 have HS := Px.hid hs
 have htl : t.length ≤ 9223372036854775807 := by rw [htt]; simp; omega
 clear hlb hlb2 hqs hqb het hrn hqn htt
 have hol : x.out.length ≤ 1000000 := hok.2.2.1
 obtain ⟨c, hc, hcb, hkc, hi, h27, h7, he, hqe⟩ := head_ok hh
 have hw := dwant_yes b x.at_ s lim x vs vo w h c hc
 have HW := Px.hid hw
 have HH := Px.hid h
 obtain ⟨_, _, c2, _, c5, _, c7⟩ := h.cells
 obtain ⟨oa, oc, hov, _⟩ := h.out.len
 rw [hov] at c7
 have HOV := Px.hid hov
 obtain ⟨a, ha⟩ : ∃ a, a = c % 32 := ⟨_, rfl⟩
 have hq : (c : Int) / 32 = 2 := by omega
 have hmd : (c : Int) % 32 = (a : Int) := by omega
 have ha32 : a < 32 := by omega
 rw [← ha] at h27 he h7 hqe
 have hib : ((x.out.length : Int) == lim.i) = false := by simpa using hi
 have z27 : ¬ (27 : Int) < a := by omega
 have z7 : True := trivial
 clear h7 hkc
 have ep1 : ((x.at_ + 1 : Nat) : Int) = (x.at_ : Int) + 1 := by omega
 have f5 := HH.out.free 5
 have hst1 := hok.1
 have HE := Px.hid (And.intro he (And.intro hqe (And.intro hs (And.intro h27 hok))))
 clear ha hw hc h hov hi he h27 hqe hh hs hok hst1
 go_enter Tryd.func51, Tryd.ntmps51
 go_wp2_with fail
 refine HW.out.mono ?_
 rintro r w1 ⟨rfl, rfl⟩
 go_wp2_with fail
 go_quiet (fail)
 have hmv := (HH.out.drewN nq).move (x.at_ + 1)
 rw [ep1] at hmv
 have HMV := Px.hid (And.intro hmv ((Fr.drewN (Fr.refl (It b) w1) nq).setCell (p := ⟨b, 5, none⟩) (.inl rfl) (.int .i64 ((x.at_ : Int) + 1))))
 clear hmv
 go_wp2_with fail
 refine (arg_any b x.at_ a s lim _ vs vo _ HMV.out.1 (show x.at_ + 1 ≤ 1000000 by omega) HE.out.2.2.2.1).mono ?_
 intro r w2 hpost
 unfold ArgPost at hpost
 rw [show argD s lim x.at_ a ({ x with at_ := x.at_ + 1 } : D7.Dx).at_ = .ok n from HE.out.1] at hpost
 obtain ⟨rfl, hrep, hf⟩ := hpost
 have HX := Px.hid (And.intro (show DrRep w2 b s lim { x with at_ := q } vs vo from by rw [HE.out.2.1]; exact hrep) (It.dfoot (vs := vs) (vo := vo) (HMV.out.2.trans hf (fun _ _ h => h))))
 clear hrep hf HMV c2 c5 c7 f5
 go_upto_region 19 with fail
 obtain ⟨WX, hWX⟩ : ∃ WX, WX = ((w2.alloc (.cells #[.int .i64 2, .int .u64 0, .string ⟨#[]⟩] 62 (0, 0))).alloc (.cells #[.int .i64 2, .int .i64 (x.at_ : Nat), .int .u64 1, .string ⟨#[]⟩, .bool false] 108 (0, 0))) := ⟨_, rfl⟩
 rw [← hWX]
 have hnf0 : ¬ dfoot b vs vo w2.heap.size := fun e => by have := HX.out.1.footLt _ e; omega
 have HR := Px.hid (show DrRep WX b s lim { x with at_ := q } vs vo ∧ Fr (dfoot b vs vo) w1 WX ∧ WX.heap[w2.heap.size]? = some (.cells #[.int .i64 2, .int .u64 0, .string ⟨#[]⟩] 62 (0, 0)) ∧ w2.heap.size < WX.heap.size from by
  rw [hWX]
  exact ⟨(HX.out.1.alloc _).alloc _, (HX.out.2.alloc _).alloc _, (Below.heap_alloc _ _ _ (by simp)).trans (heap_alloc_new w2 _), by simp; omega⟩)
 have xa0 : WX.cell? ⟨w2.heap.size, 0, none⟩ = some (.int .i64 2) := cellOf HR.out.2.2.1 0 rfl
 have xa2 : WX.cell? ⟨w2.heap.size, 2, none⟩ = some (.string ⟨#[]⟩) := cellOf HR.out.2.2.1 2 rfl
 have hnf := Px.hid hnf0
 have HWS := Px.hid (show w1.heap.size ≤ w2.heap.size from HX.out.2.size)
 clear hWX HX hnf0
 go_wp2_with fail
 refine (dtake_yes b n s lim _ _ _ _ HR.out.1 HS.out HT.out.1 HT.out.2.1 HT.out.2.2.1 HT.out.2.2.2.1 t HT.out.2.2.2.2 HN.out.1).mono ?_
 rintro r w3 ⟨rfl, hrp, hfr⟩
 have HR := Px.hid (show DrRep w3 b s lim { x with at_ := q + n } vs vo ∧ Fr (dfoot b vs vo) w1 w3 ∧ w3.heap[w2.heap.size]? = some (.cells #[.int .i64 2, .int .u64 0, .string ⟨#[]⟩] 62 (0, 0)) ∧ w2.heap.size < w3.heap.size from
  ⟨hrp, Fr.trans HR.out.2.1 hfr (fun _ _ e => .inl e), (hfr.block _ HR.out.2.2.2 (fun e => hnf.out (.inl e))).trans HR.out.2.2.1, Nat.lt_of_lt_of_le HR.out.2.2.2 hfr.size⟩)
 clear xa0 xa2
 have xa0 : w3.cell? ⟨w2.heap.size, 0, none⟩ = some (.int .i64 2) := cellOf HR.out.2.2.1 0 rfl
 have xa1 : w3.cell? ⟨w2.heap.size, 1, none⟩ = some (.int .u64 0) := cellOf HR.out.2.2.1 1 rfl
 have xa2 : w3.cell? ⟨w2.heap.size, 2, none⟩ = some (.string ⟨#[]⟩) := cellOf HR.out.2.2.1 2 rfl
 have xf2 := freeOf HR.out.2.2.1 2
 clear hrp hfr
 go_upto_region 22 with fail
 obtain ⟨WY, hWY⟩ : ∃ WY, WY = w3.setCell ⟨w2.heap.size, 2, none⟩ (S t) := ⟨_, rfl⟩
 rw [show w3.setCell ⟨w2.heap.size, 2, none⟩ (.string ⟨t.toArray⟩) = WY from hWY.symm]
 have hne : ∀ j, dfoot b vs vo j → WY.heap[j]? = w3.heap[j]? := fun j hj => by rw [hWY]; exact (Fr.setCell (Fr.refl (fun i => i = w2.heap.size) w3) (p := ⟨w2.heap.size, 2, none⟩) (.inl rfl) (S t)).block j (HR.out.1.footLt j hj) (fun e => hnf.out (e ▸ hj))
 have HR := Px.hid (show DrRep WY b s lim { x with at_ := q + n } vs vo ∧ Fr (dfoot b vs vo) w1 WY ∧ WY.heap[w2.heap.size]? = some (.cells #[.int .i64 2, .int .u64 0, S t] 62 (0, 0)) ∧ w2.heap.size < WY.heap.size from
  ⟨HR.out.1.keep hne, by rw [hWY]; exact HR.out.2.1.setCell (.inr HWS.out) _, by rw [hWY, heap_setCell_same _ w2.heap.size 2 _ _ _ HR.out.2.2.1]; rfl, by rw [hWY]; simpa using HR.out.2.2.2⟩)
 clear hWY hne xa0 xa1 xa2 xf2
 have xa0 : WY.cell? ⟨w2.heap.size, 0, none⟩ = some (.int .i64 2) := cellOf HR.out.2.2.1 0 rfl
 have xa1 : WY.cell? ⟨w2.heap.size, 1, none⟩ = some (.int .u64 0) := cellOf HR.out.2.2.1 1 rfl
 have xa2 : WY.cell? ⟨w2.heap.size, 2, none⟩ = some (S t) := cellOf HR.out.2.2.1 2 rfl
 have c7 : WY.cell? ⟨b, 7, none⟩ = some vo := HR.out.1.cells.2.2.2.2.2.2
 have f7 := HR.out.1.free 7
 have hb : b < WY.heap.size := HR.out.1.lt
 obtain ⟨i0, hi0, hz0, hz1, hz2⟩ := info_parts Tryd.infoAtom
 go_cut [] (fun wx => DAfter WY wx b s lim { x with at_ := q + n } ⟨2, 0, t⟩ vs vo)
 case first =>
  go_region_law
   ((refine step_append_lies _ (by rfl) _ _ _ (by rfl) 0 62 i0 _ 3 32 Tryd.underlying50 hi0 hz0 hz1 hz2 rfl (by omega) vo x.out.length (x.out.flatMap cAtom) (by rfl) ((HR.out.1.out.alloc _).drew) ⟨WY.heap.size, 0, none⟩ 1 1 (cAtom ⟨2, 0, t⟩) (by rfl) (by rfl) (World.news_of_block (cs := #[.int .i64 2, .int .u64 0, S t]) (t := 62) (fr := (0, 0)) (heap_alloc_new WY _)) (by simp [cAtom, Value.oneCell']) (by omega) (by unfold maxLen; omega) (by omega) (by simp) (WY.heap.size + 1) (by simp) ?_; intro gg cap w1 hown1 hgrow hat hlt; have k7 := grown_cell hgrow c7 HR.out.1.ob.ne; have e7 := grown_free hgrow c7 f7 HR.out.1.ob.ne))
  all_goals (go_wp2_with fail; go_meet; exact HR.out.1.afterOut hown1 (grown_alloc hgrow) (hat.elim .inl (fun e => .inr (by omega))))
 case rest =>
  obtain ⟨vo', hy, hyf, hyn⟩ := hcut
  have HY := Px.hid (And.intro hy (And.intro hyf hyn))
  clear hy hyf hyn c7 f7 xa0 xa1 xa2
  go_wp2_with fail
  refine (dended_any b x.at_ s lim _ _ _ ⟨_, _, HY.out.1, rfl⟩ (show x.at_ ≤ q + n by have := HE.out.2.1; omega) HN.out.2 (fun f rest e => HE.out.2.2.2.2.1 f (by rw [show x.stack = f :: rest from e]; simp)) (show x.stack.length ≤ 1000 by have := HE.out.2.2.2.2.2.1; omega)).mono ?_
  intro r w3 hpost
  have hB := begin_fin (HR.out.2.1.step (Fresh.refl _ _) HY.out.2.1) (Fresh.trans (Fresh.refl _ _) HR.out.2.1.size HY.out.2.2) hpost
  unfold EndPost at hpost
  cases hres : D7.ended s { at_ := q + n, stack := x.stack, out := x.out ++ [⟨2, 0, t⟩] } x.at_ with
  | error e =>
   rw [hres] at hpost hB
   obtain ⟨rfl, _⟩ := hpost
   have HB := Px.hid hB
   have HRES := Px.hid hres
   clear hB hres
   unfold panics
   go_wp2
   exact ⟨rfl, by rw [HRES.out]; exact HB.out⟩
  | ok y =>
   rw [hres] at hpost hB
   obtain ⟨rfl, _⟩ := hpost
   have HB := Px.hid hB
   have HRES := Px.hid hres
   clear hB hres
   go_wp2
   refine bodyPost_ret (results_none rfl _ _ _) rfl ?_
   rw [HRES.out]
   exact HB.out

set_option maxRecDepth 100000 in
set_option maxHeartbeats 4000000 in
theorem begin_k3bad (s : Bytes) (lim : Lim) (hs : s.length ≤ 140737488355327) (hlb : 1 ≤ lim.b) (hlb2 : lim.b ≤ 262144) (b n q : Nat) (x : D7.Dx) (vs vo : Value) (w : World) (h : DrRep w b s lim x vs vo) (hx : x.at_ ≤ 262144) (hok : DOk s lim x) (hqs : q ≤ s.length) (hqb : (q : Int) ≤ lim.b) (hh : D7.head s lim x.out.length x.at_ = .ok (3, n, q)) (e : D7.Flt) (het : D7.take s lim q n = .error e) :
  Calls Tryd.prog 51 #[.pointer (some ⟨b, 0, none⟩)] w fun r w' => r = panics e ∧ Fr (dfoot b vs vo) w w' := by
 have HT := Px.hid (And.intro hlb (And.intro hlb2 (And.intro hqs (And.intro hqb het))))
 have HS := Px.hid hs
 clear hlb hlb2 hqs hqb het
 have hol : x.out.length ≤ 1000000 := hok.2.2.1
 obtain ⟨c, hc, hcb, hkc, hi, h27, h7, he, hqe⟩ := head_ok hh
 have hw := dwant_yes b x.at_ s lim x vs vo w h c hc
 have HW := Px.hid hw
 have HH := Px.hid h
 obtain ⟨_, _, c2, _, c5, _, c7⟩ := h.cells
 obtain ⟨oa, oc, hov, _⟩ := h.out.len
 rw [hov] at c7
 have HOV := Px.hid hov
 obtain ⟨a, ha⟩ : ∃ a, a = c % 32 := ⟨_, rfl⟩
 have hq : (c : Int) / 32 = 3 := by omega
 have hmd : (c : Int) % 32 = (a : Int) := by omega
 have ha32 : a < 32 := by omega
 rw [← ha] at h27 he h7 hqe
 have hib : ((x.out.length : Int) == lim.i) = false := by simpa using hi
 have z27 : ¬ (27 : Int) < a := by omega
 have z7 : True := trivial
 clear h7 hkc
 have ep1 : ((x.at_ + 1 : Nat) : Int) = (x.at_ : Int) + 1 := by omega
 have f5 := HH.out.free 5
 have hst1 := hok.1
 have HE := Px.hid (And.intro he (And.intro hqe (And.intro hs (And.intro h27 hok))))
 clear ha hw hc h hov hi he h27 hqe hh hs hok hst1
 go_enter Tryd.func51, Tryd.ntmps51
 go_wp2_with fail
 refine HW.out.mono ?_
 rintro r w1 ⟨rfl, rfl⟩
 go_wp2_with fail
 go_quiet (fail)
 have hmv := (HH.out.drewN nq).move (x.at_ + 1)
 rw [ep1] at hmv
 have HMV := Px.hid (And.intro hmv ((Fr.drewN (Fr.refl (It b) w1) nq).setCell (p := ⟨b, 5, none⟩) (.inl rfl) (.int .i64 ((x.at_ : Int) + 1))))
 clear hmv
 go_wp2_with fail
 refine (arg_any b x.at_ a s lim _ vs vo _ HMV.out.1 (show x.at_ + 1 ≤ 1000000 by omega) HE.out.2.2.2.1).mono ?_
 intro r w2 hpost
 unfold ArgPost at hpost
 rw [show argD s lim x.at_ a ({ x with at_ := x.at_ + 1 } : D7.Dx).at_ = .ok n from HE.out.1] at hpost
 obtain ⟨rfl, hrep, hf⟩ := hpost
 have HX := Px.hid (And.intro (show DrRep w2 b s lim { x with at_ := q } vs vo from by rw [HE.out.2.1]; exact hrep) (It.dfoot (vs := vs) (vo := vo) (HMV.out.2.trans hf (fun _ _ h => h))))
 clear hrep hf HMV c2 c5 c7 f5
 go_upto_region 19 with fail
 obtain ⟨WX, hWX⟩ : ∃ WX, WX = ((w2.alloc (.cells #[.int .i64 3, .int .u64 0, .string ⟨#[]⟩] 62 (0, 0))).alloc (.cells #[.int .i64 3, .int .i64 (x.at_ : Nat), .int .u64 1, .string ⟨#[]⟩, .bool false] 108 (0, 0))) := ⟨_, rfl⟩
 rw [← hWX]
 have hnf0 : ¬ dfoot b vs vo w2.heap.size := fun e => by have := HX.out.1.footLt _ e; omega
 have HR := Px.hid (show DrRep WX b s lim { x with at_ := q } vs vo ∧ Fr (dfoot b vs vo) w1 WX ∧ WX.heap[w2.heap.size]? = some (.cells #[.int .i64 3, .int .u64 0, .string ⟨#[]⟩] 62 (0, 0)) ∧ w2.heap.size < WX.heap.size from by
  rw [hWX]
  exact ⟨(HX.out.1.alloc _).alloc _, (HX.out.2.alloc _).alloc _, (Below.heap_alloc _ _ _ (by simp)).trans (heap_alloc_new w2 _), by simp; omega⟩)
 have xa0 : WX.cell? ⟨w2.heap.size, 0, none⟩ = some (.int .i64 3) := cellOf HR.out.2.2.1 0 rfl
 have xa2 : WX.cell? ⟨w2.heap.size, 2, none⟩ = some (.string ⟨#[]⟩) := cellOf HR.out.2.2.1 2 rfl
 have hnf := Px.hid hnf0
 have HWS := Px.hid (show w1.heap.size ≤ w2.heap.size from HX.out.2.size)
 clear hWX HX hnf0
 go_wp2_with fail
 refine (dtake_no b n s lim _ _ _ _ HR.out.1 HS.out HT.out.1 HT.out.2.1 HT.out.2.2.1 HT.out.2.2.2.1 e HT.out.2.2.2.2).mono ?_
 rintro r w3 ⟨rfl, hsm⟩
 have HF := Px.hid (Fr.trans HR.out.2.1 hsm (fun _ _ x => x.elim))
 clear hsm
 unfold panics
 go_wp2
 exact ⟨rfl, rfl, HF.out⟩

set_option maxRecDepth 100000 in
set_option maxHeartbeats 4000000 in
theorem begin_k3 (s : Bytes) (lim : Lim) (hs : s.length ≤ 140737488355327) (hlb : 1 ≤ lim.b) (hlb2 : lim.b ≤ 262144) (b n q : Nat) (x : D7.Dx) (vs vo : Value) (w : World) (h : DrRep w b s lim x vs vo) (hx : x.at_ ≤ 262144) (hok : DOk s lim x) (hqs : q ≤ s.length) (hqb : (q : Int) ≤ lim.b) (hh : D7.head s lim x.out.length x.at_ = .ok (3, n, q)) (t : Bytes) (het : D7.take s lim q n = .ok t) (hT : ∀ w2, Fr (dfoot b vs vo) w w2 → Tabs w2) (hvd : Lib.validD t = true) :
  Calls Tryd.prog 51 #[.pointer (some ⟨b, 0, none⟩)] w fun r w' => BegPost w b s lim (dfoot b vs vo) (D7.ended s { at_ := q + n, stack := x.stack, out := x.out ++ [⟨3, 0, t⟩] } x.at_) r w' := by
 obtain ⟨hrn, hqn, htt⟩ := take_ok hlb hqs het
 have HT := Px.hid (And.intro hlb (And.intro hlb2 (And.intro hqs (And.intro hqb het))))
 have HN := Px.hid (And.intro hrn hqn)
 have HS := Px.hid hs
 have htl : t.length ≤ 9223372036854775807 := by rw [htt]; simp; omega
 clear hlb hlb2 hqs hqb het hrn hqn htt
 have HV := Px.hid (And.intro hT (And.intro hvd htl))
 clear hT hvd htl
 have hol : x.out.length ≤ 1000000 := hok.2.2.1
 obtain ⟨c, hc, hcb, hkc, hi, h27, h7, he, hqe⟩ := head_ok hh
 have hw := dwant_yes b x.at_ s lim x vs vo w h c hc
 have HW := Px.hid hw
 have HH := Px.hid h
 obtain ⟨_, _, c2, _, c5, _, c7⟩ := h.cells
 obtain ⟨oa, oc, hov, _⟩ := h.out.len
 rw [hov] at c7
 have HOV := Px.hid hov
 obtain ⟨a, ha⟩ : ∃ a, a = c % 32 := ⟨_, rfl⟩
 have hq : (c : Int) / 32 = 3 := by omega
 have hmd : (c : Int) % 32 = (a : Int) := by omega
 have ha32 : a < 32 := by omega
 rw [← ha] at h27 he h7 hqe
 have hib : ((x.out.length : Int) == lim.i) = false := by simpa using hi
 have z27 : ¬ (27 : Int) < a := by omega
 have z7 : True := trivial
 clear h7 hkc
 have ep1 : ((x.at_ + 1 : Nat) : Int) = (x.at_ : Int) + 1 := by omega
 have f5 := HH.out.free 5
 have hst1 := hok.1
 have HE := Px.hid (And.intro he (And.intro hqe (And.intro hs (And.intro h27 hok))))
 clear ha hw hc h hov hi he h27 hqe hh hs hok hst1
 go_enter Tryd.func51, Tryd.ntmps51
 go_wp2_with fail
 refine HW.out.mono ?_
 rintro r w1 ⟨rfl, rfl⟩
 go_wp2_with fail
 go_quiet (fail)
 have hmv := (HH.out.drewN nq).move (x.at_ + 1)
 rw [ep1] at hmv
 have HMV := Px.hid (And.intro hmv ((Fr.drewN (Fr.refl (It b) w1) nq).setCell (p := ⟨b, 5, none⟩) (.inl rfl) (.int .i64 ((x.at_ : Int) + 1))))
 clear hmv
 go_wp2_with fail
 refine (arg_any b x.at_ a s lim _ vs vo _ HMV.out.1 (show x.at_ + 1 ≤ 1000000 by omega) HE.out.2.2.2.1).mono ?_
 intro r w2 hpost
 unfold ArgPost at hpost
 rw [show argD s lim x.at_ a ({ x with at_ := x.at_ + 1 } : D7.Dx).at_ = .ok n from HE.out.1] at hpost
 obtain ⟨rfl, hrep, hf⟩ := hpost
 have HX := Px.hid (And.intro (show DrRep w2 b s lim { x with at_ := q } vs vo from by rw [HE.out.2.1]; exact hrep) (It.dfoot (vs := vs) (vo := vo) (HMV.out.2.trans hf (fun _ _ h => h))))
 clear hrep hf HMV c2 c5 c7 f5
 go_upto_region 19 with fail
 obtain ⟨WX, hWX⟩ : ∃ WX, WX = ((w2.alloc (.cells #[.int .i64 3, .int .u64 0, .string ⟨#[]⟩] 62 (0, 0))).alloc (.cells #[.int .i64 3, .int .i64 (x.at_ : Nat), .int .u64 1, .string ⟨#[]⟩, .bool false] 108 (0, 0))) := ⟨_, rfl⟩
 rw [← hWX]
 have hnf0 : ¬ dfoot b vs vo w2.heap.size := fun e => by have := HX.out.1.footLt _ e; omega
 have HR := Px.hid (show DrRep WX b s lim { x with at_ := q } vs vo ∧ Fr (dfoot b vs vo) w1 WX ∧ WX.heap[w2.heap.size]? = some (.cells #[.int .i64 3, .int .u64 0, .string ⟨#[]⟩] 62 (0, 0)) ∧ w2.heap.size < WX.heap.size from by
  rw [hWX]
  exact ⟨(HX.out.1.alloc _).alloc _, (HX.out.2.alloc _).alloc _, (Below.heap_alloc _ _ _ (by simp)).trans (heap_alloc_new w2 _), by simp; omega⟩)
 have xa0 : WX.cell? ⟨w2.heap.size, 0, none⟩ = some (.int .i64 3) := cellOf HR.out.2.2.1 0 rfl
 have xa2 : WX.cell? ⟨w2.heap.size, 2, none⟩ = some (.string ⟨#[]⟩) := cellOf HR.out.2.2.1 2 rfl
 have hnf := Px.hid hnf0
 have HWS := Px.hid (show w1.heap.size ≤ w2.heap.size from HX.out.2.size)
 clear hWX HX hnf0
 go_wp2_with fail
 refine (dtake_yes b n s lim _ _ _ _ HR.out.1 HS.out HT.out.1 HT.out.2.1 HT.out.2.2.1 HT.out.2.2.2.1 t HT.out.2.2.2.2 HN.out.1).mono ?_
 rintro r w3 ⟨rfl, hrp, hfr⟩
 have HR := Px.hid (show DrRep w3 b s lim { x with at_ := q + n } vs vo ∧ Fr (dfoot b vs vo) w1 w3 ∧ w3.heap[w2.heap.size]? = some (.cells #[.int .i64 3, .int .u64 0, .string ⟨#[]⟩] 62 (0, 0)) ∧ w2.heap.size < w3.heap.size from
  ⟨hrp, Fr.trans HR.out.2.1 hfr (fun _ _ e => .inl e), (hfr.block _ HR.out.2.2.2 (fun e => hnf.out (.inl e))).trans HR.out.2.2.1, Nat.lt_of_lt_of_le HR.out.2.2.2 hfr.size⟩)
 clear xa0 xa2
 have xa0 : w3.cell? ⟨w2.heap.size, 0, none⟩ = some (.int .i64 3) := cellOf HR.out.2.2.1 0 rfl
 have xa1 : w3.cell? ⟨w2.heap.size, 1, none⟩ = some (.int .u64 0) := cellOf HR.out.2.2.1 1 rfl
 have xa2 : w3.cell? ⟨w2.heap.size, 2, none⟩ = some (.string ⟨#[]⟩) := cellOf HR.out.2.2.1 2 rfl
 have xf2 := freeOf HR.out.2.2.1 2
 clear hrp hfr
 go_upto_region 20 with fail
 obtain ⟨WY, hWY⟩ : ∃ WY, WY = w3.setCell ⟨w2.heap.size, 2, none⟩ (S t) := ⟨_, rfl⟩
 rw [show w3.setCell ⟨w2.heap.size, 2, none⟩ (.string ⟨t.toArray⟩) = WY from hWY.symm]
 have hne : ∀ j, dfoot b vs vo j → WY.heap[j]? = w3.heap[j]? := fun j hj => by rw [hWY]; exact (Fr.setCell (Fr.refl (fun i => i = w2.heap.size) w3) (p := ⟨w2.heap.size, 2, none⟩) (.inl rfl) (S t)).block j (HR.out.1.footLt j hj) (fun e => hnf.out (e ▸ hj))
 have HR := Px.hid (show DrRep WY b s lim { x with at_ := q + n } vs vo ∧ Fr (dfoot b vs vo) w1 WY ∧ WY.heap[w2.heap.size]? = some (.cells #[.int .i64 3, .int .u64 0, S t] 62 (0, 0)) ∧ w2.heap.size < WY.heap.size from
  ⟨HR.out.1.keep hne, by rw [hWY]; exact HR.out.2.1.setCell (.inr HWS.out) _, by rw [hWY, heap_setCell_same _ w2.heap.size 2 _ _ _ HR.out.2.2.1]; rfl, by rw [hWY]; simpa using HR.out.2.2.2⟩)
 clear hWY hne xa0 xa1 xa2 xf2
 have xa2 : WY.cell? ⟨w2.heap.size, 2, none⟩ = some (S t) := cellOf HR.out.2.2.1 2 rfl
 go_wp2_with fail
 refine (valid_any _ _ HV.out.2.2 (HV.out.1 _ HR.out.2.1)).mono ?_
 rintro e WZ ⟨rfl, hbl⟩
 have HR := Px.hid (show DrRep WZ b s lim { x with at_ := q + n } vs vo ∧ Fr (dfoot b vs vo) w1 WZ ∧ WZ.heap[w2.heap.size]? = some (.cells #[.int .i64 3, .int .u64 0, S t] 62 (0, 0)) ∧ w2.heap.size < WZ.heap.size from
  ⟨HR.out.1.keep (fun j hj => hbl.block j (HR.out.1.footLt j hj)), Fr.trans HR.out.2.1 (Fr.below hbl) (fun _ _ x => x), (hbl.block _ HR.out.2.2.2).trans HR.out.2.2.1, Nat.lt_of_lt_of_le HR.out.2.2.2 hbl.size⟩)
 clear hbl xa2
 rw [HV.out.2.1]
 go_upto_region 22 with fail
 have xa0 : WZ.cell? ⟨w2.heap.size, 0, none⟩ = some (.int .i64 3) := cellOf HR.out.2.2.1 0 rfl
 have xa1 : WZ.cell? ⟨w2.heap.size, 1, none⟩ = some (.int .u64 0) := cellOf HR.out.2.2.1 1 rfl
 have xa2 : WZ.cell? ⟨w2.heap.size, 2, none⟩ = some (S t) := cellOf HR.out.2.2.1 2 rfl
 have c7 : WZ.cell? ⟨b, 7, none⟩ = some vo := HR.out.1.cells.2.2.2.2.2.2
 have f7 := HR.out.1.free 7
 have hb : b < WZ.heap.size := HR.out.1.lt
 obtain ⟨i0, hi0, hz0, hz1, hz2⟩ := info_parts Tryd.infoAtom
 go_cut [] (fun wx => DAfter WZ wx b s lim { x with at_ := q + n } ⟨3, 0, t⟩ vs vo)
 case first =>
  go_region_law
   ((refine step_append_lies _ (by rfl) _ _ _ (by rfl) 0 62 i0 _ 3 32 Tryd.underlying50 hi0 hz0 hz1 hz2 rfl (by omega) vo x.out.length (x.out.flatMap cAtom) (by rfl) ((HR.out.1.out.alloc _).drew) ⟨WZ.heap.size, 0, none⟩ 1 1 (cAtom ⟨3, 0, t⟩) (by rfl) (by rfl) (World.news_of_block (cs := #[.int .i64 3, .int .u64 0, S t]) (t := 62) (fr := (0, 0)) (heap_alloc_new WZ _)) (by simp [cAtom, Value.oneCell']) (by omega) (by unfold maxLen; omega) (by omega) (by simp) (WZ.heap.size + 1) (by simp) ?_; intro gg cap w1 hown1 hgrow hat hlt; have k7 := grown_cell hgrow c7 HR.out.1.ob.ne; have e7 := grown_free hgrow c7 f7 HR.out.1.ob.ne))
  all_goals (go_wp2_with fail; go_meet; exact HR.out.1.afterOut hown1 (grown_alloc hgrow) (hat.elim .inl (fun e => .inr (by omega))))
 case rest =>
  obtain ⟨vo', hy, hyf, hyn⟩ := hcut
  have HY := Px.hid (And.intro hy (And.intro hyf hyn))
  clear hy hyf hyn c7 f7 xa0 xa1 xa2
  go_wp2_with fail
  refine (dended_any b x.at_ s lim _ _ _ ⟨_, _, HY.out.1, rfl⟩ (show x.at_ ≤ q + n by have := HE.out.2.1; omega) HN.out.2 (fun f rest e => HE.out.2.2.2.2.1 f (by rw [show x.stack = f :: rest from e]; simp)) (show x.stack.length ≤ 1000 by have := HE.out.2.2.2.2.2.1; omega)).mono ?_
  intro r w3 hpost
  have hB := begin_fin (HR.out.2.1.step (Fresh.refl _ _) HY.out.2.1) (Fresh.trans (Fresh.refl _ _) HR.out.2.1.size HY.out.2.2) hpost
  unfold EndPost at hpost
  cases hres : D7.ended s { at_ := q + n, stack := x.stack, out := x.out ++ [⟨3, 0, t⟩] } x.at_ with
  | error e =>
   rw [hres] at hpost hB
   obtain ⟨rfl, _⟩ := hpost
   have HB := Px.hid hB
   have HRES := Px.hid hres
   clear hB hres
   unfold panics
   go_wp2
   exact ⟨rfl, by rw [HRES.out]; exact HB.out⟩
  | ok y =>
   rw [hres] at hpost hB
   obtain ⟨rfl, _⟩ := hpost
   have HB := Px.hid hB
   have HRES := Px.hid hres
   clear hB hres
   go_wp2
   refine bodyPost_ret (results_none rfl _ _ _) rfl ?_
   rw [HRES.out]
   exact HB.out

set_option maxRecDepth 100000 in
set_option maxHeartbeats 4000000 in
theorem begin_k3_inv (s : Bytes) (lim : Lim) (hs : s.length ≤ 140737488355327) (hlb : 1 ≤ lim.b) (hlb2 : lim.b ≤ 262144) (b n q : Nat) (x : D7.Dx) (vs vo : Value) (w : World) (h : DrRep w b s lim x vs vo) (hx : x.at_ ≤ 262144) (hok : DOk s lim x) (hqs : q ≤ s.length) (hqb : (q : Int) ≤ lim.b) (hh : D7.head s lim x.out.length x.at_ = .ok (3, n, q)) (t : Bytes) (het : D7.take s lim q n = .ok t) (hT : ∀ w2, Fr (dfoot b vs vo) w w2 → Tabs w2) (hvd : Lib.validD t = false) :
  Calls Tryd.prog 51 #[.pointer (some ⟨b, 0, none⟩)] w fun r w' => r = panics (x.at_, 9) ∧ Fr (dfoot b vs vo) w w' := by
 obtain ⟨hrn, hqn, htt⟩ := take_ok hlb hqs het
 have HT := Px.hid (And.intro hlb (And.intro hlb2 (And.intro hqs (And.intro hqb het))))
 have HN := Px.hid (And.intro hrn hqn)
 have HS := Px.hid hs
 have htl : t.length ≤ 9223372036854775807 := by rw [htt]; simp; omega
 clear hlb hlb2 hqs hqb het hrn hqn htt
 have HV := Px.hid (And.intro hT (And.intro hvd htl))
 clear hT hvd htl
 have hol : x.out.length ≤ 1000000 := hok.2.2.1
 obtain ⟨c, hc, hcb, hkc, hi, h27, h7, he, hqe⟩ := head_ok hh
 have hw := dwant_yes b x.at_ s lim x vs vo w h c hc
 have HW := Px.hid hw
 have HH := Px.hid h
 obtain ⟨_, _, c2, _, c5, _, c7⟩ := h.cells
 obtain ⟨oa, oc, hov, _⟩ := h.out.len
 rw [hov] at c7
 have HOV := Px.hid hov
 obtain ⟨a, ha⟩ : ∃ a, a = c % 32 := ⟨_, rfl⟩
 have hq : (c : Int) / 32 = 3 := by omega
 have hmd : (c : Int) % 32 = (a : Int) := by omega
 have ha32 : a < 32 := by omega
 rw [← ha] at h27 he h7 hqe
 have hib : ((x.out.length : Int) == lim.i) = false := by simpa using hi
 have z27 : ¬ (27 : Int) < a := by omega
 have z7 : True := trivial
 clear h7 hkc
 have ep1 : ((x.at_ + 1 : Nat) : Int) = (x.at_ : Int) + 1 := by omega
 have f5 := HH.out.free 5
 have hst1 := hok.1
 have HE := Px.hid (And.intro he (And.intro hqe (And.intro hs (And.intro h27 hok))))
 clear ha hw hc h hov hi he h27 hqe hh hs hok hst1
 go_enter Tryd.func51, Tryd.ntmps51
 go_wp2_with fail
 refine HW.out.mono ?_
 rintro r w1 ⟨rfl, rfl⟩
 go_wp2_with fail
 go_quiet (fail)
 have hmv := (HH.out.drewN nq).move (x.at_ + 1)
 rw [ep1] at hmv
 have HMV := Px.hid (And.intro hmv ((Fr.drewN (Fr.refl (It b) w1) nq).setCell (p := ⟨b, 5, none⟩) (.inl rfl) (.int .i64 ((x.at_ : Int) + 1))))
 clear hmv
 go_wp2_with fail
 refine (arg_any b x.at_ a s lim _ vs vo _ HMV.out.1 (show x.at_ + 1 ≤ 1000000 by omega) HE.out.2.2.2.1).mono ?_
 intro r w2 hpost
 unfold ArgPost at hpost
 rw [show argD s lim x.at_ a ({ x with at_ := x.at_ + 1 } : D7.Dx).at_ = .ok n from HE.out.1] at hpost
 obtain ⟨rfl, hrep, hf⟩ := hpost
 have HX := Px.hid (And.intro (show DrRep w2 b s lim { x with at_ := q } vs vo from by rw [HE.out.2.1]; exact hrep) (It.dfoot (vs := vs) (vo := vo) (HMV.out.2.trans hf (fun _ _ h => h))))
 clear hrep hf HMV c2 c5 c7 f5
 go_upto_region 19 with fail
 obtain ⟨WX, hWX⟩ : ∃ WX, WX = ((w2.alloc (.cells #[.int .i64 3, .int .u64 0, .string ⟨#[]⟩] 62 (0, 0))).alloc (.cells #[.int .i64 3, .int .i64 (x.at_ : Nat), .int .u64 1, .string ⟨#[]⟩, .bool false] 108 (0, 0))) := ⟨_, rfl⟩
 rw [← hWX]
 have hnf0 : ¬ dfoot b vs vo w2.heap.size := fun e => by have := HX.out.1.footLt _ e; omega
 have HR := Px.hid (show DrRep WX b s lim { x with at_ := q } vs vo ∧ Fr (dfoot b vs vo) w1 WX ∧ WX.heap[w2.heap.size]? = some (.cells #[.int .i64 3, .int .u64 0, .string ⟨#[]⟩] 62 (0, 0)) ∧ w2.heap.size < WX.heap.size from by
  rw [hWX]
  exact ⟨(HX.out.1.alloc _).alloc _, (HX.out.2.alloc _).alloc _, (Below.heap_alloc _ _ _ (by simp)).trans (heap_alloc_new w2 _), by simp; omega⟩)
 have xa0 : WX.cell? ⟨w2.heap.size, 0, none⟩ = some (.int .i64 3) := cellOf HR.out.2.2.1 0 rfl
 have xa2 : WX.cell? ⟨w2.heap.size, 2, none⟩ = some (.string ⟨#[]⟩) := cellOf HR.out.2.2.1 2 rfl
 have hnf := Px.hid hnf0
 have HWS := Px.hid (show w1.heap.size ≤ w2.heap.size from HX.out.2.size)
 clear hWX HX hnf0
 go_wp2_with fail
 refine (dtake_yes b n s lim _ _ _ _ HR.out.1 HS.out HT.out.1 HT.out.2.1 HT.out.2.2.1 HT.out.2.2.2.1 t HT.out.2.2.2.2 HN.out.1).mono ?_
 rintro r w3 ⟨rfl, hrp, hfr⟩
 have HR := Px.hid (show DrRep w3 b s lim { x with at_ := q + n } vs vo ∧ Fr (dfoot b vs vo) w1 w3 ∧ w3.heap[w2.heap.size]? = some (.cells #[.int .i64 3, .int .u64 0, .string ⟨#[]⟩] 62 (0, 0)) ∧ w2.heap.size < w3.heap.size from
  ⟨hrp, Fr.trans HR.out.2.1 hfr (fun _ _ e => .inl e), (hfr.block _ HR.out.2.2.2 (fun e => hnf.out (.inl e))).trans HR.out.2.2.1, Nat.lt_of_lt_of_le HR.out.2.2.2 hfr.size⟩)
 clear xa0 xa2
 have xa0 : w3.cell? ⟨w2.heap.size, 0, none⟩ = some (.int .i64 3) := cellOf HR.out.2.2.1 0 rfl
 have xa1 : w3.cell? ⟨w2.heap.size, 1, none⟩ = some (.int .u64 0) := cellOf HR.out.2.2.1 1 rfl
 have xa2 : w3.cell? ⟨w2.heap.size, 2, none⟩ = some (.string ⟨#[]⟩) := cellOf HR.out.2.2.1 2 rfl
 have xf2 := freeOf HR.out.2.2.1 2
 clear hrp hfr
 go_upto_region 20 with fail
 obtain ⟨WY, hWY⟩ : ∃ WY, WY = w3.setCell ⟨w2.heap.size, 2, none⟩ (S t) := ⟨_, rfl⟩
 rw [show w3.setCell ⟨w2.heap.size, 2, none⟩ (.string ⟨t.toArray⟩) = WY from hWY.symm]
 have hne : ∀ j, dfoot b vs vo j → WY.heap[j]? = w3.heap[j]? := fun j hj => by rw [hWY]; exact (Fr.setCell (Fr.refl (fun i => i = w2.heap.size) w3) (p := ⟨w2.heap.size, 2, none⟩) (.inl rfl) (S t)).block j (HR.out.1.footLt j hj) (fun e => hnf.out (e ▸ hj))
 have HR := Px.hid (show DrRep WY b s lim { x with at_ := q + n } vs vo ∧ Fr (dfoot b vs vo) w1 WY ∧ WY.heap[w2.heap.size]? = some (.cells #[.int .i64 3, .int .u64 0, S t] 62 (0, 0)) ∧ w2.heap.size < WY.heap.size from
  ⟨HR.out.1.keep hne, by rw [hWY]; exact HR.out.2.1.setCell (.inr HWS.out) _, by rw [hWY, heap_setCell_same _ w2.heap.size 2 _ _ _ HR.out.2.2.1]; rfl, by rw [hWY]; simpa using HR.out.2.2.2⟩)
 clear hWY hne xa0 xa1 xa2 xf2
 have xa2 : WY.cell? ⟨w2.heap.size, 2, none⟩ = some (S t) := cellOf HR.out.2.2.1 2 rfl
 go_wp2_with fail
 refine (valid_any _ _ HV.out.2.2 (HV.out.1 _ HR.out.2.1)).mono ?_
 rintro e WZ ⟨rfl, hbl⟩
 have HR := Px.hid (show DrRep WZ b s lim { x with at_ := q + n } vs vo ∧ Fr (dfoot b vs vo) w1 WZ ∧ WZ.heap[w2.heap.size]? = some (.cells #[.int .i64 3, .int .u64 0, S t] 62 (0, 0)) ∧ w2.heap.size < WZ.heap.size from
  ⟨HR.out.1.keep (fun j hj => hbl.block j (HR.out.1.footLt j hj)), Fr.trans HR.out.2.1 (Fr.below hbl) (fun _ _ x => x), (hbl.block _ HR.out.2.2.2).trans HR.out.2.2.1, Nat.lt_of_lt_of_le HR.out.2.2.2 hbl.size⟩)
 clear hbl xa2
 rw [HV.out.2.1]
 go_wp2
 exact ⟨rfl, rfl, HR.out.2.1⟩

end Go.Proofs.YtddiabaagpmkgaaDoor

/-! The walk over the program's begin (package cbor), all its cases joined. -/
namespace Go.Proofs.YtddiabaagpmkgaaDoor
open Go.RowKit Go.Px

theorem want_place {s : Bytes} {lim : Lim} {p c : Nat} (h : D7.want s lim p = .ok c) : p < s.length ∧ (p : Int) < lim.b ∧ c < 256 := by
 unfold D7.want at h
 by_cases h1 : s.length ≤ p
 ·rw [if_pos h1] at h; cases h
 ·rw [if_neg h1] at h
  by_cases h2 : lim.b ≤ p
  ·rw [if_pos h2] at h; cases h
  ·rw [if_neg h2] at h
   simp only [Except.ok.injEq] at h
   exact ⟨by omega, by omega, by rw [← h]; exact UInt8.toNat_lt _⟩
theorem argN_place {s : Bytes} {lim : Lim} : ∀ (m p n v : Nat), D7.argN s lim m p n = .ok v → p ≤ s.length → (p : Int) ≤ lim.b → p + m ≤ s.length ∧ ((p + m : Nat) : Int) ≤ lim.b ∧ v < (n + 1) * 256 ^ m
 | 0, p, n, v, h, hp, hb => by
  have : n = v := by simpa [D7.argN] using h
  subst this
  exact ⟨hp, by simpa using hb, by simp⟩
 | m + 1, p, n, v, h, hp, hb => by
  unfold D7.argN at h
  cases hw : D7.want s lim p with
  | error e => rw [hw] at h; cases h
  | ok c =>
   rw [hw] at h
   obtain ⟨q1, q2, q3⟩ := want_place hw
   obtain ⟨r1, r2, r3⟩ := argN_place m (p + 1) (n * 256 + c) v h (by omega) (by omega)
   refine ⟨by omega, by omega, Nat.lt_of_lt_of_le r3 ?_⟩
   rw [Nat.pow_succ, Nat.mul_comm (256 ^ m) 256, ← Nat.mul_assoc]
   exact Nat.mul_le_mul_right _ (by omega)
theorem head_place {s : Bytes} {lim : Lim} {o p k n q : Nat} (h : D7.head s lim o p = .ok (k, n, q)) : p < q ∧ q ≤ s.length ∧ (q : Int) ≤ lim.b ∧ n < 18446744073709551616 ∧ k < 8 := by
 obtain ⟨c, hc, hcb, hkc, _, h27, _, he, hqe⟩ := head_ok h
 obtain ⟨q1, q2, _⟩ := want_place hc
 unfold argD at he
 by_cases h24 : c % 32 < 24
 ·rw [if_pos h24] at he hqe
  simp only [Except.ok.injEq] at he
  exact ⟨by omega, by omega, by omega, by omega, by omega⟩
 ·rw [if_neg h24] at he hqe
  cases ha : D7.argN s lim (2 ^ (c % 32 - 24)) (p + 1) 0 with
  | error e => rw [ha] at he; cases he
  | ok v =>
   rw [ha] at he
   simp only at he
   obtain ⟨r1, r2, r3⟩ := argN_place _ _ _ _ ha (by omega) (by omega)
   by_cases h5 : v < Cf.least (c % 32)
   ·rw [if_pos h5] at he; cases he
   ·rw [if_neg h5] at he
    simp only [Except.ok.injEq] at he
    subst he
    obtain ⟨j, hj⟩ : ∃ j, j = c % 32 - 24 := ⟨_, rfl⟩
    have hj3 : j ≤ 3 := by omega
    rw [← hj] at r1 r2 r3 hqe
    have : v < 18446744073709551616 := by
     have : j = 0 ∨ j = 1 ∨ j = 2 ∨ j = 3 := by omega
     rcases this with rfl | rfl | rfl | rfl <;> exact Nat.lt_of_lt_of_le r3 (by decide)
    obtain ⟨u, hu⟩ : ∃ u, u = 2 ^ j := ⟨_, rfl⟩
    rw [← hu] at r1 r2 hqe
    clear r3 hu
    exact ⟨by omega, by omega, by omega, this, by omega⟩

theorem begin_any (s : Bytes) (lim : Lim) (hs : s.length ≤ 140737488355327) (hlb : 1 ≤ lim.b) (hlb2 : lim.b ≤ 262144) (b : Nat) (x : D7.Dx) (vs vo : Value) (w : World) (h : DrRep w b s lim x vs vo) (hx : x.at_ ≤ 262144) (hok : DOk s lim x) (hT : ∀ w2, Fr (dfoot b vs vo) w w2 → Tabs w2) :
  Calls Tryd.prog 51 #[.pointer (some ⟨b, 0, none⟩)] w fun r w' => BegPost w b s lim (dfoot b vs vo) (D7.beginD s lim x) r w' := by
 unfold D7.beginD
 cases hh : D7.head s lim x.out.length x.at_ with
 | error e =>
  simp only
  have hfin : (Calls Tryd.prog 51 #[.pointer (some ⟨b, 0, none⟩)] w fun r w' => r = panics e ∧ Fr (It b) w w') := by
   rcases head_bad hh with he | ⟨c, hc, hcb, ⟨hi, rfl⟩ | ⟨hi, ⟨h27, rfl⟩ | ⟨h27, ⟨h7, h2 | h2, rfl⟩ | ⟨h7, he⟩⟩⟩⟩
   ·exact begin_want s lim b x vs vo w h e he
   ·exact begin_full s lim b x vs vo w h c hc hi
   ·exact begin_form s lim b x vs vo w h c hc hcb hi h27
   ·exact begin_kind1 s lim b x vs vo w h c hc hcb hi h27 h7 h2
   ·exact begin_kind2 s lim b x vs vo w h c hc hcb hi h27 h7 h2
   ·exact begin_arg s lim hs b x vs vo w h hx c hc hcb hi h27 h7 e he
  exact hfin.mono fun r w' ⟨hr, hf⟩ => ⟨hr, It.dfoot hf⟩
 | ok v =>
  obtain ⟨k, n, q⟩ := v
  obtain ⟨hpq, hqs, hqb, hn, hk⟩ := head_place hh
  simp only
  by_cases h2 : k = 2
  ·subst h2
   rw [if_pos (by rfl)]
   cases ht : D7.take s lim q n with
   | error e => exact begin_k2bad s lim hs hlb hlb2 b n q x vs vo w h hx hok hqs hqb hh e ht
   | ok t =>
    simp only
    rw [if_neg (by simp)]
    exact begin_k2 s lim hs hlb hlb2 b n q x vs vo w h hx hok hqs hqb hh t ht
  by_cases h3 : k = 3
  ·subst h3
   rw [if_pos (by rfl)]
   cases ht : D7.take s lim q n with
   | error e => exact begin_k3bad s lim hs hlb hlb2 b n q x vs vo w h hx hok hqs hqb hh e ht
   | ok t =>
    simp only
    cases hv : Lib.validD t with
    | false =>
     rw [if_pos (by rfl)]
     exact begin_k3_inv s lim hs hlb hlb2 b n q x vs vo w h hx hok hqs hqb hh t ht hT hv
    | true =>
     rw [if_neg (by simp)]
     exact begin_k3 s lim hs hlb hlb2 b n q x vs vo w h hx hok hqs hqb hh t ht hT hv
  have hk23 : ¬ ((k == 2 || k == 3) = true) := by simp [h2, h3]
  rw [if_neg hk23]
  by_cases h4 : k = 4
  ·subst h4
   rw [if_pos (by rfl)]
   unfold D7.push
   by_cases hd : (x.stack.length : Int) = lim.d
   ·rw [if_pos hd]; exact begin_k4_full s lim hs b n q x vs vo w h hx hok hh hd
   ·rw [if_neg hd]; exact begin_k4 s lim hs b n q x vs vo w h hx hok hh hd
  rw [if_neg (by simpa using h4)]
  by_cases h5 : k = 5
  ·subst h5
   rw [if_pos (by rfl)]
   unfold D7.push
   by_cases hd : (x.stack.length : Int) = lim.d
   ·rw [if_pos hd]; exact begin_k5_full s lim hs b n q x vs vo w h hx hok hh hd
   ·rw [if_neg hd]; exact begin_k5 s lim hs b n q x vs vo w h hx hok hh hd
  rw [if_neg (by simpa using h5)]
  by_cases h6 : k = 6
  ·subst h6
   rw [if_pos (by rfl)]
   unfold D7.push
   by_cases hd : (x.stack.length : Int) = lim.d
   ·rw [if_pos hd]; exact begin_k6_full s lim hs b n q x vs vo w h hx hok hh hd
   ·rw [if_neg hd]; exact begin_k6 s lim hs b n q x vs vo w h hx hok hh hd
  rw [if_neg (by simpa using h6)]
  have h017 : k = 0 ∨ k = 1 ∨ k = 7 := by omega
  rcases h017 with rfl | rfl | rfl
  ·exact begin_k0 s lim hs b n q x vs vo w h hx hok hqs hh
  ·exact begin_k1 s lim hs b n q x vs vo w h hx hok hqs hh
  ·exact begin_k7 s lim hs b n q x vs vo w h hx hok hqs hh
end Go.Proofs.YtddiabaagpmkgaaDoor
