/-
 Several texts in one: The walk over the reference's head (layer 17). The walk over the reference's item (layer 17), kind by kind. The walks over the reference's Read and Same (layer 17) and the statements' read (layer 20).
-/
import Derived.Test.YtddiabaagpmkgaaDoorXA
import Derived.Test.YtddiabaagpmkgaaDoorGcB
import Derived.RegionTactic
import Derived.ChangeAlike
import Derived.BigRegion
/-! The walk over the reference's head (layer 17). -/
namespace Go.Proofs.YtddiabaagpmkgaaDoor
open Go.RowKit Go.Px Go.Px.R7

theorem wd0 (w : World) : (Instr.index 163 (.agg #[.int .i64 1, .int .i64 2, .int .i64 4, .int .i64 8]) (.int .i64 0)).run Tryd.prog w = .ok (.int .i64 1) w := by kernel_rfl
theorem wd1 (w : World) : (Instr.index 163 (.agg #[.int .i64 1, .int .i64 2, .int .i64 4, .int .i64 8]) (.int .i64 1)).run Tryd.prog w = .ok (.int .i64 2) w := by kernel_rfl
theorem wd2 (w : World) : (Instr.index 163 (.agg #[.int .i64 1, .int .i64 2, .int .i64 4, .int .i64 8]) (.int .i64 2)).run Tryd.prog w = .ok (.int .i64 4) w := by kernel_rfl
theorem wd3 (w : World) : (Instr.index 163 (.agg #[.int .i64 1, .int .i64 2, .int .i64 4, .int .i64 8]) (.int .i64 3)).run Tryd.prog w = .ok (.int .i64 8) w := by kernel_rfl
theorem widths (a : Nat) (h1 : 24 ≤ a) (h2 : a ≤ 27) (w : World) :
  (Instr.index 163 (.agg #[.int .i64 1, .int .i64 2, .int .i64 4, .int .i64 8]) (.int .i64 ((a : Int) - 24))).run Tryd.prog w = .ok (.int .i64 ((2 ^ (a - 24) : Nat) : Int)) w := by
 have ha : a = 24 ∨ a = 25 ∨ a = 26 ∨ a = 27 := by omega
 rcases ha with rfl | rfl | rfl | rfl
 ·exact wd0 w
 ·exact wd1 w
 ·exact wd2 w
 ·exact wd3 w
theorem head_small (s : Bytes) (lim : Lim) (x y : St) (p c : Nat) (hw : want s lim x p = (true, y)) (hc : (s.getD p 0).toNat = c) :
  R7.head s lim x p = if lim.i ≤ y.out.length then (none, fault y p 10) else if 27 < c % 32 then (none, fault y p 9) else if c / 32 == 7 && (decide (c % 32 < 20) || decide (23 < c % 32)) then (none, fault y p 11) else if c % 32 < 24 then (some (c / 32, c % 32, p + 1), y)
   else match argN s lim (2 ^ (c % 32 - 24)) y (p + 1) 0 with
    | (none, z) => (none, z)
    | (some n, z) => if (headB (c / 32) n).length = 2 ^ (c % 32 - 24) + 1 then (some (c / 32, n, p + 1 + 2 ^ (c % 32 - 24)), z) else (none, fault z p 9) := by
 unfold R7.head
 rw [hw]
 simp only [hc]
 rfl

set_option maxRecDepth 100000 in
set_option maxHeartbeats 4000000 in
theorem rhead_any (s : Bytes) (lim : Lim) (hm : lim.may = true) (hs : s.length ≤ 140737488355327) (b p : Nat) (x : St) (vo : Value) (w : World) (h : RdRep w b s lim x vo) (hp : p ≤ s.length) (hol : x.out.length ≤ 1000000) :
  Calls Tryd.prog 77 #[.pointer (some ⟨b, 0, none⟩), .int .i64 (p : Nat)] w fun r w' => r = .returned (headV (R7.head s lim x p).1) ∧ RdRep w' b s lim (R7.head s lim x p).2 vo ∧ Fr (rfoot b vo) w w' := by
 have hmay := Cf.may_of hm
 have hml : s.length ≤ maxLen := by unfold maxLen; omega
 have HM := Px.hid (And.intro hml (And.intro hmay.2.2.2.2.1 hmay.2.2.2.2.2.1))
 have hw0 := want_any b _ p s lim x _ _ w h.rd hml hmay.2.2.2.2.1 hmay.2.2.2.2.2.1 (Nat.le_trans hp hml)
 have H := Px.hid h
 clear h hml hmay
 cases hwt : want s lim x p with
 | mk wb y =>
  have hyo := want_out s lim x p
  rw [hwt] at hw0 hyo
  have HW := Px.hid hw0
  clear hw0
  cases wb with
  | false =>
   have HR := Px.hid (show R7.head s lim x p = (none, y) by unfold R7.head; rw [hwt])
   have HYO := Px.hid hyo
   clear hwt hyo
   go_enter Tryd.func77, Tryd.ntmps77
   go_wp2_with fail
   refine HW.out.mono ?_
   rintro e w1 ⟨rfl, hr, hf⟩
   have HX := Px.hid (And.intro (H.out.step hr hf HYO.out) (It.foot (vo := vo) hf))
   clear hr hf
   go_wp2
   refine bodyPost_ret (v := headV none) (by simp [results, Tryd.results77, go_sem, headV]) rfl ?_
   rw [HR.out]
   exact ⟨rfl, HX.out.1, HX.out.2⟩
  | true =>
   obtain ⟨hps, hpb, hyt⟩ := want_true hwt
   clear hyt
   obtain ⟨c, hc⟩ : ∃ c, c = (s.getD p 0).toNat := ⟨_, rfl⟩
   have hcb : c < 256 := by rw [hc]; exact UInt8.toNat_lt _
   have hix : ∀ w, (Instr.index 9 (S s) (.int .i64 (p : Nat))).run Tryd.prog w = .ok (.int .u8 (c : Nat)) w := fun w => by rw [hc]; exact idx_S s p hps w
   have HR := Px.hid (head_small s lim x y p c hwt hc.symm)
   have HYO := Px.hid hyo
   have HC := Px.hid hc
   have hol2 : y.out.length ≤ 1000000 := by rw [hyo]; exact hol
   clear hwt hyo hc hol
   obtain ⟨k, hk⟩ : ∃ k, k = c / 32 := ⟨_, rfl⟩
   obtain ⟨a, ha⟩ : ∃ a, a = c % 32 := ⟨_, rfl⟩
   have hq : (c : Int) / 32 = (k : Int) := by omega
   have hmd : (c : Int) % 32 = (a : Int) := by omega
   have hk8 : k < 8 := by omega
   have ha32 : a < 32 := by omega
   rw [← hk, ← ha] at HR
   clear hk ha
   go_enter Tryd.func77, Tryd.ntmps77
   go_wp2_with fail
   refine HW.out.mono ?_
   rintro e w1 ⟨rfl, hr, hf⟩
   have hx := H.out.step hr hf HYO.out
   have HX := Px.hid (And.intro hx (It.foot (vo := vo) hf))
   clear hr hf HW H
   obtain ⟨oa, oc, hov, _⟩ := hx.out.len
   have c11 : w1.cell? ⟨b, 11, none⟩ = some (.slice oa y.out.length oc) := by rw [← hov]; exact hx.cell11
   obtain ⟨c0, _, c2, _, _, _, _, _, _⟩ := hx.rd.cells
   clear hx hov
   rcases Bool.eq_false_or_eq_true (decide (lim.i ≤ (y.out.length : Int))) with hd | hd
   ·have HR := Px.hid (HR.out.trans (if_pos (of_decide_eq_true hd)))
    go_wp2_with fail
    go_quiet (fail)
    go_wp2_with fail
    refine (xfault_any b _ p 10 s lim y _ _ _ (HX.out.1.rd.drewN nq)).mono ?_
    rintro e w2 ⟨rfl, hr, hf⟩
    have HY := Px.hid (And.intro ((HX.out.1.drewN nq).step hr hf rfl) ((HX.out.2.drewN nq).trans (It.foot (vo := vo) hf) (fun _ _ h => h)))
    clear hr hf
    go_wp2
    refine bodyPost_ret (v := headV none) (by simp [results, Tryd.results77, go_sem, headV]) rfl ?_
    rw [HR.out]
    exact ⟨rfl, HY.out.1, HY.out.2⟩
   ·have HR := Px.hid (HR.out.trans (if_neg (of_decide_eq_false hd)))
    go_wp2_with fail
    go_quiet (fail)
    have HX := Px.hid (And.intro (HX.out.1.drewN nq) (HX.out.2.drewN nq))
    obtain ⟨WX, hWX⟩ : ∃ WX, WX = w1.drewN nq := ⟨_, rfl⟩
    rw [← hWX] at HX ⊢
    clear hWX c0 c2 c11
    have c0 := HX.out.1.rd.cells.1
    by_cases h27 : 27 < a
    ·have HR := Px.hid (HR.out.trans (if_pos h27))
     have z27 : (27 : Int) < a := by omega
     go_wp2_with fail
     refine (xfault_any b _ p 9 s lim y _ _ _ HX.out.1.rd).mono ?_
     rintro e w2 ⟨rfl, hr, hf⟩
     have HY := Px.hid (And.intro (HX.out.1.step hr hf rfl) (HX.out.2.trans (It.foot (vo := vo) hf) (fun _ _ h => h)))
     clear hr hf
     go_wp2
     refine bodyPost_ret (v := headV none) (by simp [results, Tryd.results77, go_sem, headV]) rfl ?_
     rw [HR.out]
     exact ⟨rfl, HY.out.1, HY.out.2⟩
    ·have HR := Px.hid (HR.out.trans (if_neg h27))
     have z27 : ¬ (27 : Int) < a := by omega
     by_cases h7 : (k == 7 && (decide (a < 20) || decide (23 < a))) = true
     ·have HR := Px.hid (HR.out.trans (if_pos h7))
      simp only [Bool.and_eq_true, beq_iff_eq, Bool.or_eq_true, decide_eq_true_eq] at h7
      obtain ⟨h7a, h7b⟩ := h7
      have zk : ((k : Int) == 7) = true := by simp; omega
      have HK := Px.hid h7a
      clear h7a
      rcases Nat.lt_or_ge a 20 with h20 | h20
      ·have z20 : (a : Int) < 20 := by omega
       clear h7b
       go_wp2_with fail
       refine (xfault_any b _ p 11 s lim y _ _ _ HX.out.1.rd).mono ?_
       rintro e w2 ⟨rfl, hr, hf⟩
       have HY := Px.hid (And.intro (HX.out.1.step hr hf rfl) (HX.out.2.trans (It.foot (vo := vo) hf) (fun _ _ h => h)))
       clear hr hf
       go_wp2
       refine bodyPost_ret (v := headV none) (by simp [results, Tryd.results77, go_sem, headV]) rfl ?_
       rw [HR.out]
       exact ⟨rfl, HY.out.1, HY.out.2⟩
      ·have z20 : ¬ (a : Int) < 20 := by omega
       have z23 : (23 : Int) < a := by omega
       clear h7b
       go_wp2_with fail
       refine (xfault_any b _ p 11 s lim y _ _ _ HX.out.1.rd).mono ?_
       rintro e w2 ⟨rfl, hr, hf⟩
       have HY := Px.hid (And.intro (HX.out.1.step hr hf rfl) (HX.out.2.trans (It.foot (vo := vo) hf) (fun _ _ h => h)))
       clear hr hf
       go_wp2
       refine bodyPost_ret (v := headV none) (by simp [results, Tryd.results77, go_sem, headV]) rfl ?_
       rw [HR.out]
       exact ⟨rfl, HY.out.1, HY.out.2⟩
     ·have HR := Px.hid (HR.out.trans (if_neg h7))
      have h7' : k = 7 → 20 ≤ a ∧ a ≤ 23 := by
       intro e
       simp only [Bool.and_eq_true, beq_iff_eq, Bool.or_eq_true, decide_eq_true_eq, not_and, not_or] at h7
       have := h7 e
       omega
      clear h7
      have hk7 : (((k : Int) == 7) = false) ∨ (((k : Int) == 7) = true ∧ ¬ (a : Int) < 20 ∧ ¬ (23 : Int) < a) := by
       by_cases e : k = 7
       ·have := h7' e
        exact .inr ⟨by simp; omega, by omega, by omega⟩
       ·exact .inl (by simp; omega)
      clear h7'
      by_cases h24 : a < 24
      ·have HR := Px.hid (HR.out.trans (if_pos h24))
       have z24 : (a : Int) < 24 := by omega
       rcases hk7 with zk | ⟨zk, z20, z23⟩
       all_goals
        go_wp2
        refine bodyPost_ret (v := headV (some (k, a, p + 1))) (by simp [results, Tryd.results77, go_sem, headV]) rfl ?_
        rw [HR.out]
        exact ⟨rfl, HX.out.1, HX.out.2⟩
      ·have HR := Px.hid (HR.out.trans (if_neg h24))
       have z24 : ¬ (a : Int) < 24 := by omega
       have hwd := widths a (by omega) (by omega)
       have hw8 := Cf.two_pow_le a (by omega)
       have hw1 := Nat.one_le_two_pow (n := a - 24)
       obtain ⟨W, hW⟩ : ∃ W, W = 2 ^ (a - 24) := ⟨_, rfl⟩
       rw [← hW] at hwd hw8 hw1 HR
       clear hW h24
       have zk : ((k : Int) == 7) = false := by
        rcases hk7 with zk | ⟨_, _, z⟩
        ·exact zk
        ·omega
       clear hk7
       go_wp2_with fail
       go_loopw [11, 12] (fun nn i wr => ∃ j n z, 1 ≤ j ∧ j ≤ W + 1 ∧ i = .int .i64 (j : Nat) ∧ nn = .int .u64 (n : Nat) ∧ Hid (n < 256 ^ (j - 1) ∧ z.out.length ≤ 1000000 ∧ RdRep wr b s lim z vo ∧ Fr (rfoot b vo) w wr ∧ argN s lim W y (p + 1) 0 = argN s lim (W + 1 - j) z (p + j) n)) (fun _ i _ => W + 1 - (intOf i).toNat)
       case atStart => exact ⟨1, 0, y, Nat.le_refl _, by omega, rfl, rfl, Px.hid ⟨by simp, hol2, HX.out.1, HX.out.2, by rw [Nat.add_sub_cancel]⟩⟩
       case round =>
        clear c0 HX
        obtain ⟨j, n, z, hj1, hj2, rfl, rfl, HZ⟩ := hrel
        obtain ⟨hn, hzl, hz, hzf, harg⟩ := HZ.out
        have c0 := hz.rd.cells.1
        by_cases hlt : j ≤ W
        ·have hltz : (j : Int) ≤ (W : Int) := by omega
         have hn7 : n < 72057594037927936 := Nat.lt_of_lt_of_le hn (by have : 256 ^ (j - 1) ≤ 256 ^ 7 := Nat.pow_le_pow_right (by omega) (by omega); simpa using this)
         have hpj : ((p + j : Nat) : Int) = (p : Int) + j := by omega
         have hw0 := want_any b _ (p + j) s lim z _ _ wr hz.rd HM.out.1 HM.out.2.1 HM.out.2.2 (by have := HM.out.1; unfold maxLen at *; omega)
         rw [hpj] at hw0
         cases hwt : want s lim z (p + j) with
         | mk wb z2 =>
          have hzo := want_out s lim z (p + j)
          rw [hwt] at hw0 hzo
          have harg2 : argN s lim W y (p + 1) 0 = match (wb, z2) with | (false, u) => (none, u) | (true, u) => argN s lim (W - j) u (p + j + 1) (n * 256 + (s.getD (p + j) 0).toNat) := by
           rw [harg, show W + 1 - j = (W - j) + 1 by omega]
           conv => lhs; unfold argN; rw [hwt]
           rfl
          cases wb with
          | false =>
           have HR := Px.hid (show R7.head s lim x p = (none, z2) by rw [HR.out, harg2])
           have HW := Px.hid hw0
           have HZO := Px.hid (And.intro hz (And.intro hzf hzo))
           clear hwt hw0 hzo harg2 harg hz hzf hn hpj c0
           go_wp2_with fail
           refine HW.out.mono ?_
           rintro e w2 ⟨rfl, hr, hf⟩
           have HY := Px.hid (And.intro (HZO.out.1.step hr hf HZO.out.2.2) (HZO.out.2.1.trans (It.foot (vo := vo) hf) (fun _ _ h => h)))
           clear hr hf
           go_wp2
           refine bodyPost_ret (v := headV none) (by simp [results, Tryd.results77, go_sem, headV]) rfl ?_
           rw [HR.out]
           exact ⟨rfl, HY.out.1, HY.out.2⟩
          | true =>
           obtain ⟨hps2, hpb2, hyt⟩ := want_true hwt
           clear hyt
           obtain ⟨d, hd⟩ : ∃ d, d = (s.getD (p + j) 0).toNat := ⟨_, rfl⟩
           have hdb : d < 256 := by rw [hd]; exact UInt8.toNat_lt _
           have hixj : ∀ w, (Instr.index 9 (S s) (.int .i64 ((p : Int) + j))).run Tryd.prog w = .ok (.int .u8 (d : Nat)) w := fun w => by rw [hd, ← hpj]; exact idx_S s (p + j) hps2 w
           rw [← hd] at harg2
           have HN := Px.hid (And.intro (show n * 256 + d < 256 ^ (j + 1 - 1) by rw [Nat.add_sub_cancel, show j = (j - 1) + 1 by omega, Nat.pow_succ]; omega) harg2)
           have HW := Px.hid hw0
           have HZO := Px.hid (And.intro hz (And.intro hzf hzo))
           have hwa : IntKind.u64.wrap ((n : Int) * 256) = (n : Int) * 256 := IntWalk.u64_in _ ⟨by omega, by omega⟩
           have hwb : IntKind.u64.wrap ((n : Int) * 256 + d) = (n : Int) * 256 + d := IntWalk.u64_in _ ⟨by omega, by omega⟩
           clear hwt hw0 hzo harg2 harg hz hzf hn hd c0 hn7
           go_wp2_with fail
           refine HW.out.mono ?_
           rintro e w2 ⟨rfl, hr, hf⟩
           have hst := HZO.out.1.step hr hf HZO.out.2.2
           have c0 := hst.rd.cells.1
           have HY := Px.hid (And.intro hst (HZO.out.2.1.trans (It.foot (vo := vo) hf) (fun _ _ h => h)))
           clear hr hf hst
           go_wp2
           go_roundw
           case rel => exact ⟨j + 1, n * 256 + d, z2, by omega, by omega, by go_num, by go_num, Px.hid ⟨HN.out.1, by rw [HZO.out.2.2]; exact HZ.out.2.1, HY.out.1, HY.out.2, by rw [HN.out.2]; rw [show W - j = W + 1 - (j + 1) by omega, Nat.add_assoc]⟩⟩
           case measure => simp [intOf]; omega
        ·have hltz : ¬ (j : Int) ≤ (W : Int) := by omega
         have hje : j = W + 1 := by omega
         have HA := Px.hid (show argN s lim W y (p + 1) 0 = (some n, z) by rw [harg, show W + 1 - j = 0 by omega]; rfl)
         have HZO := Px.hid (And.intro hz hzf)
         have hn64 : n < 18446744073709551616 := Nat.lt_of_lt_of_le hn (Cf.pow256_le _ (by omega))
         have HN := Px.hid hn64
         clear harg hz hzf hn hn64 hje hlt HZ
         go_wp2_with fail
         refine (head17_any k n _ hk8 HN.out).mono ?_
         rintro e w2 ⟨rfl, hs2⟩
         have HY := Px.hid (And.intro (HZO.out.1.same hs2) (HZO.out.2.trans (hs2.fr (rfoot b vo)) (fun _ _ h => h)))
         have hsz : (ByteArray.mk (headB k n).toArray).size = (headB k n).length := size_S _
         clear hs2 c0
         by_cases hlen : (headB k n).length = W + 1
         ·have HR := Px.hid (show R7.head s lim x p = (some (k, n, p + 1 + W), z) by rw [HR.out, HA.out]; simp only; rw [if_pos hlen])
          have zl : (((headB k n).length : Int) == (W : Int) + 1) = true := by simp; omega
          have zl2 : (((headB k n).length : Int) != (W : Int) + 1) = false := by simp; omega
          clear hlen
          go_wp2
          refine bodyPost_ret (v := headV (some (k, n, p + 1 + W))) (by simp [results, Tryd.results77, go_sem, headV]) rfl ?_
          rw [HR.out]
          exact ⟨rfl, HY.out.1, HY.out.2⟩
         ·have HR := Px.hid (show R7.head s lim x p = (none, fault z p 9) by rw [HR.out, HA.out]; simp only; rw [if_neg hlen])
          have zl : (((headB k n).length : Int) == (W : Int) + 1) = false := by simp; omega
          have zl2 : (((headB k n).length : Int) != (W : Int) + 1) = true := by simp; omega
          clear hlen
          go_wp2_with fail
          refine (xfault_any b _ p 9 s lim z _ _ _ HY.out.1.rd).mono ?_
          rintro e w3 ⟨rfl, hr, hf⟩
          have HY2 := Px.hid (And.intro (HY.out.1.step hr hf rfl) (HY.out.2.trans (It.foot (vo := vo) hf) (fun _ _ h => h)))
          clear hr hf
          go_wp2
          refine bodyPost_ret (v := headV none) (by simp [results, Tryd.results77, go_sem, headV]) rfl ?_
          rw [HR.out]
          exact ⟨rfl, HY2.out.1, HY2.out.2⟩
end Go.Proofs.YtddiabaagpmkgaaDoor

/-! The walk over the reference's item (layer 17), kind by kind. -/
namespace Go.Proofs.YtddiabaagpmkgaaDoor
open Go.RowKit Go.Px Go.Px.R7

/-- What all kinds share: the head was read. -/
def Headed (s : Bytes) (lim : Lim) (x : St) (p kk n q : Nat) (y : St) : Prop := R7.head s lim x p = (some (kk, n, q), y)

theorem inner_frames_6 (s : Bytes) (lim : Lim) (d : Nat) (hm : lim.may = true) (_n q : Nat) (x : St) (hg : Good s lim x q d) (t : Nat) (z : St) (e : item s lim d x q = (some t, z)) : z.frames = x.frames := by
 have := item_sim (s := s) hm d x q _ hg.sim hg.out
 rw [e] at this
 exact this.1.frames
theorem inner_frames_4 (s : Bytes) (lim : Lim) (d : Nat) (hm : lim.may = true) : ∀ (n q : Nat) (x : St), Good s lim x q d → ∀ (t : Nat) (z : St), itemsN (item s lim d) n x q = (some t, z) → z.frames = x.frames := by
 intro n
 induction n with
 | zero =>
  intro q x _ t z e
  unfold itemsN at e
  simp only [Prod.mk.injEq] at e
  rw [e.2]
 | succ n ih =>
  intro q x hg t z e
  unfold itemsN at e
  cases hr : item s lim d x q with
  | mk o y =>
   rw [hr] at e
   cases o with
   | none => simp at e
   | some r => rw [ih r y (hg.item hm hr) t z e]; exact inner_frames_6 s lim d hm 0 q x hg r y hr
theorem inner_frames_5' (s : Bytes) (lim : Lim) (d : Nat) (hm : lim.may = true) : ∀ (n : Nat) (l : Option Bytes) (q : Nat) (x : St), Good s lim x q d → ∀ (t : Nat) (z : St), pairsN s (item s lim d) n l x q = (some t, z) → z.frames = x.frames := by
 intro n
 induction n with
 | zero =>
  intro l q x _ t z e
  unfold pairsN at e
  simp only [Prod.mk.injEq] at e
  rw [e.2]
 | succ n ih =>
  intro l q x hg t z e
  unfold pairsN at e
  cases hr : item s lim d x q with
  | mk o y =>
   rw [hr] at e
   cases o with
   | none => simp at e
   | some r =>
    simp only at e
    split at e
    ·simp at e
    ·cases hr2 : item s lim d y r with
     | mk o2 y2 =>
      rw [hr2] at e
      cases o2 with
      | none => simp at e
      | some r2 =>
       have hg1 := hg.item hm hr
       rw [ih _ r2 y2 (hg1.item hm hr2) t z e, inner_frames_6 s lim d hm 0 r y hg1 r2 y2 hr2]
       exact inner_frames_6 s lim d hm 0 q x hg r y hr
theorem inner_frames_5 (s : Bytes) (lim : Lim) (d : Nat) (hm : lim.may = true) (n q : Nat) (x : St) (hg : Good s lim x q d) (t : Nat) (z : St) (e : pairsN s (item s lim d) n none x q = (some t, z)) : z.frames = x.frames :=
 inner_frames_5' s lim d hm n none q x hg t z e

set_option maxRecDepth 100000 in
set_option maxHeartbeats 4000000 in
theorem item_0 (s : Bytes) (lim : Lim) (hm : lim.may = true) (hs : s.length ≤ 140737488355327) (d : Nat) (b p dp n q : Nat) (x y : St) (F : Nat → Prop) (w : World) (h : RdAt w b s lim x F) (hg : Good s lim x p d) (hd : ((dp + d : Nat) : Int) = lim.d) (hh : Headed s lim x p 0 n q y) :
  Calls Tryd.prog 60 #[.pointer (some ⟨b, 0, none⟩), .int .i64 (p : Nat), .int .i64 (dp : Nat)] w fun r w' => r = .returned (itemV (((some q, { y with out := y.out ++ [⟨0, n, []⟩] }) : Option Nat × St)).1) ∧ Did w b s lim F (((some q, { y with out := y.out ++ [⟨0, n, []⟩] }) : Option Nat × St)).2 w' := by
 obtain ⟨vo, h, rfl⟩ := h
 have hmay := Cf.may_of hm
 have hol := hg.out
 have ho : x.out.length ≤ 1000000 := by omega
 obtain ⟨hmv, hpq, hyo, hn64, hk8, hlt⟩ := hg.head hh
 have hqs := hmv.qs
 have hqb := hmv.qb
 have hyl : y.out.length ≤ 1000000 := by rw [hyo]; exact ho
 have hw := rhead_any s lim hm hs b p x vo w h hg.ps ho
 have e : R7.head s lim x p = (some (0, n, q), y) := hh
 rw [e] at hw
 have HW := Px.hid hw
 have HG := Px.hid (And.intro hg (And.intro hm (And.intro hmv (And.intro hyo (And.intro hlt hn64)))))
 have hdp : ((dp : Nat) : Int) + (d : Nat) = lim.d := by omega
 have HD := Px.hid hd
 clear hw e hh hg hmv hyo hlt hk8 h hm hol ho hd hmay
 go_enter Tryd.func60, Tryd.ntmps60
 go_wp2_with fail
 refine HW.out.mono ?_
 rintro e w1 ⟨rfl, hx, hxf⟩
 have HX := Px.hid (And.intro hx hxf)
 clear hx hxf HW
 unfold headV
 have f11 := HX.out.1.rd.free 11
 have hb : b < w1.heap.size := HX.out.1.rd.lt
 have c11 : w1.cell? ⟨b, 11, none⟩ = some vo := HX.out.1.cell11
 obtain ⟨i0, hi0, hz0, hz1, hz2⟩ := info_parts Tryd.infoAtom
 go_upto_region 18 with fail
 go_cut [] (fun wx => RAfter w1 wx b s lim y ⟨0, n, []⟩ vo)
 case first =>
  go_wp2_with (at_builtin; go_must (refine wpList_append_lies _ rfl _ _ _ rfl 0 62 i0 _ 3 32 Tryd.underlying50 hi0 hz0 hz1 hz2 rfl (by omega) vo y.out.length (y.out.flatMap cAtom) rfl (HX.out.1.out.alloc _) ⟨w1.heap.size, 0, none⟩ 1 1 (cAtom ⟨0, n, []⟩) rfl rfl (World.news_of_block (cs := #[.int .i64 0, .int .u64 n, S []]) (t := 62) (fr := (0, 0)) (heap_alloc_new w1 _)) (by simp [cAtom, Value.oneCell']) (by omega) (by unfold maxLen; omega) (by omega) (by omega) (w1.heap.size + 1) (by simp) ?_))
  intro gg cap w1 hown1 hgrow hat hlt
  have k11 := grown_cell1 hgrow c11 HX.out.1.ob.ne
  have e11 := grown_free1 hgrow c11 f11 HX.out.1.ob.ne
  go_wp2_with fail
  go_meet
  exact HX.out.1.afterOut hown1 (grown_alloc1 hgrow) (hat.elim .inl (fun e => .inr (by omega)))
 case rest =>
  obtain ⟨vo', hy, hyf, hyn⟩ := hcut
  have HY := Px.hid (And.intro hy (And.intro hyf hyn))
  clear hy hyf hyn c11 f11
  go_wp2
  go_ret2
  exact ⟨rfl, _, ⟨_, HY.out.1, rfl⟩, HX.out.2.step (Fresh.refl _ _) HY.out.2.1, Fresh.trans (Fresh.refl _ _) HX.out.2.size HY.out.2.2⟩

set_option maxRecDepth 100000 in
set_option maxHeartbeats 4000000 in
theorem item_1 (s : Bytes) (lim : Lim) (hm : lim.may = true) (hs : s.length ≤ 140737488355327) (d : Nat) (b p dp n q : Nat) (x y : St) (F : Nat → Prop) (w : World) (h : RdAt w b s lim x F) (hg : Good s lim x p d) (hd : ((dp + d : Nat) : Int) = lim.d) (hh : Headed s lim x p 1 n q y) :
  Calls Tryd.prog 60 #[.pointer (some ⟨b, 0, none⟩), .int .i64 (p : Nat), .int .i64 (dp : Nat)] w fun r w' => r = .returned (itemV (((some q, { y with out := y.out ++ [⟨1, n, []⟩] }) : Option Nat × St)).1) ∧ Did w b s lim F (((some q, { y with out := y.out ++ [⟨1, n, []⟩] }) : Option Nat × St)).2 w' := by
 obtain ⟨vo, h, rfl⟩ := h
 have hmay := Cf.may_of hm
 have hol := hg.out
 have ho : x.out.length ≤ 1000000 := by omega
 obtain ⟨hmv, hpq, hyo, hn64, hk8, hlt⟩ := hg.head hh
 have hqs := hmv.qs
 have hqb := hmv.qb
 have hyl : y.out.length ≤ 1000000 := by rw [hyo]; exact ho
 have hw := rhead_any s lim hm hs b p x vo w h hg.ps ho
 have e : R7.head s lim x p = (some (1, n, q), y) := hh
 rw [e] at hw
 have HW := Px.hid hw
 have HG := Px.hid (And.intro hg (And.intro hm (And.intro hmv (And.intro hyo (And.intro hlt hn64)))))
 have hdp : ((dp : Nat) : Int) + (d : Nat) = lim.d := by omega
 have HD := Px.hid hd
 clear hw e hh hg hmv hyo hlt hk8 h hm hol ho hd hmay
 go_enter Tryd.func60, Tryd.ntmps60
 go_wp2_with fail
 refine HW.out.mono ?_
 rintro e w1 ⟨rfl, hx, hxf⟩
 have HX := Px.hid (And.intro hx hxf)
 clear hx hxf HW
 unfold headV
 have f11 := HX.out.1.rd.free 11
 have hb : b < w1.heap.size := HX.out.1.rd.lt
 have c11 : w1.cell? ⟨b, 11, none⟩ = some vo := HX.out.1.cell11
 obtain ⟨i0, hi0, hz0, hz1, hz2⟩ := info_parts Tryd.infoAtom
 go_upto_region 18 with fail
 go_cut [] (fun wx => RAfter w1 wx b s lim y ⟨1, n, []⟩ vo)
 case first =>
  go_wp2_with (at_builtin; go_must (refine wpList_append_lies _ rfl _ _ _ rfl 0 62 i0 _ 3 32 Tryd.underlying50 hi0 hz0 hz1 hz2 rfl (by omega) vo y.out.length (y.out.flatMap cAtom) rfl (HX.out.1.out.alloc _) ⟨w1.heap.size, 0, none⟩ 1 1 (cAtom ⟨1, n, []⟩) rfl rfl (World.news_of_block (cs := #[.int .i64 1, .int .u64 n, S []]) (t := 62) (fr := (0, 0)) (heap_alloc_new w1 _)) (by simp [cAtom, Value.oneCell']) (by omega) (by unfold maxLen; omega) (by omega) (by omega) (w1.heap.size + 1) (by simp) ?_))
  intro gg cap w1 hown1 hgrow hat hlt
  have k11 := grown_cell1 hgrow c11 HX.out.1.ob.ne
  have e11 := grown_free1 hgrow c11 f11 HX.out.1.ob.ne
  go_wp2_with fail
  go_meet
  exact HX.out.1.afterOut hown1 (grown_alloc1 hgrow) (hat.elim .inl (fun e => .inr (by omega)))
 case rest =>
  obtain ⟨vo', hy, hyf, hyn⟩ := hcut
  have HY := Px.hid (And.intro hy (And.intro hyf hyn))
  clear hy hyf hyn c11 f11
  go_wp2
  go_ret2
  exact ⟨rfl, _, ⟨_, HY.out.1, rfl⟩, HX.out.2.step (Fresh.refl _ _) HY.out.2.1, Fresh.trans (Fresh.refl _ _) HX.out.2.size HY.out.2.2⟩

set_option maxRecDepth 100000 in
set_option maxHeartbeats 4000000 in
theorem item_7 (s : Bytes) (lim : Lim) (hm : lim.may = true) (hs : s.length ≤ 140737488355327) (d : Nat) (b p dp n q : Nat) (x y : St) (F : Nat → Prop) (w : World) (h : RdAt w b s lim x F) (hg : Good s lim x p d) (hd : ((dp + d : Nat) : Int) = lim.d) (hh : Headed s lim x p 7 n q y) :
  Calls Tryd.prog 60 #[.pointer (some ⟨b, 0, none⟩), .int .i64 (p : Nat), .int .i64 (dp : Nat)] w fun r w' => r = .returned (itemV (((some q, { y with out := y.out ++ [⟨7, n, []⟩] }) : Option Nat × St)).1) ∧ Did w b s lim F (((some q, { y with out := y.out ++ [⟨7, n, []⟩] }) : Option Nat × St)).2 w' := by
 obtain ⟨vo, h, rfl⟩ := h
 have hmay := Cf.may_of hm
 have hol := hg.out
 have ho : x.out.length ≤ 1000000 := by omega
 obtain ⟨hmv, hpq, hyo, hn64, hk8, hlt⟩ := hg.head hh
 have hqs := hmv.qs
 have hqb := hmv.qb
 have hyl : y.out.length ≤ 1000000 := by rw [hyo]; exact ho
 have hw := rhead_any s lim hm hs b p x vo w h hg.ps ho
 have e : R7.head s lim x p = (some (7, n, q), y) := hh
 rw [e] at hw
 have HW := Px.hid hw
 have HG := Px.hid (And.intro hg (And.intro hm (And.intro hmv (And.intro hyo (And.intro hlt hn64)))))
 have hdp : ((dp : Nat) : Int) + (d : Nat) = lim.d := by omega
 have HD := Px.hid hd
 clear hw e hh hg hmv hyo hlt hk8 h hm hol ho hd hmay
 go_enter Tryd.func60, Tryd.ntmps60
 go_wp2_with fail
 refine HW.out.mono ?_
 rintro e w1 ⟨rfl, hx, hxf⟩
 have HX := Px.hid (And.intro hx hxf)
 clear hx hxf HW
 unfold headV
 have f11 := HX.out.1.rd.free 11
 have hb : b < w1.heap.size := HX.out.1.rd.lt
 have c11 : w1.cell? ⟨b, 11, none⟩ = some vo := HX.out.1.cell11
 obtain ⟨i0, hi0, hz0, hz1, hz2⟩ := info_parts Tryd.infoAtom
 go_upto_region 18 with fail
 go_cut [] (fun wx => RAfter w1 wx b s lim y ⟨7, n, []⟩ vo)
 case first =>
  go_wp2_with (at_builtin; go_must (refine wpList_append_lies _ rfl _ _ _ rfl 0 62 i0 _ 3 32 Tryd.underlying50 hi0 hz0 hz1 hz2 rfl (by omega) vo y.out.length (y.out.flatMap cAtom) rfl (HX.out.1.out.alloc _) ⟨w1.heap.size, 0, none⟩ 1 1 (cAtom ⟨7, n, []⟩) rfl rfl (World.news_of_block (cs := #[.int .i64 7, .int .u64 n, S []]) (t := 62) (fr := (0, 0)) (heap_alloc_new w1 _)) (by simp [cAtom, Value.oneCell']) (by omega) (by unfold maxLen; omega) (by omega) (by omega) (w1.heap.size + 1) (by simp) ?_))
  intro gg cap w1 hown1 hgrow hat hlt
  have k11 := grown_cell1 hgrow c11 HX.out.1.ob.ne
  have e11 := grown_free1 hgrow c11 f11 HX.out.1.ob.ne
  go_wp2_with fail
  go_meet
  exact HX.out.1.afterOut hown1 (grown_alloc1 hgrow) (hat.elim .inl (fun e => .inr (by omega)))
 case rest =>
  obtain ⟨vo', hy, hyf, hyn⟩ := hcut
  have HY := Px.hid (And.intro hy (And.intro hyf hyn))
  clear hy hyf hyn c11 f11
  go_wp2
  go_ret2
  exact ⟨rfl, _, ⟨_, HY.out.1, rfl⟩, HX.out.2.step (Fresh.refl _ _) HY.out.2.1, Fresh.trans (Fresh.refl _ _) HX.out.2.size HY.out.2.2⟩

set_option maxRecDepth 100000 in
set_option maxHeartbeats 4000000 in
theorem item_4_full (s : Bytes) (lim : Lim) (hm : lim.may = true) (hs : s.length ≤ 140737488355327) (b p dp n q : Nat) (x y : St) (F : Nat → Prop) (w : World) (h : RdAt w b s lim x F) (hg : Good s lim x p 0) (hd : ((dp + 0 : Nat) : Int) = lim.d) (hh : Headed s lim x p 4 n q y) :
  Calls Tryd.prog 60 #[.pointer (some ⟨b, 0, none⟩), .int .i64 (p : Nat), .int .i64 (dp : Nat)] w fun r w' => r = .returned (itemV (((none, fault y p 10) : Option Nat × St)).1) ∧ Did w b s lim F (((none, fault y p 10) : Option Nat × St)).2 w' := by
 obtain ⟨vo, h, rfl⟩ := h
 have hmay := Cf.may_of hm
 have hol := hg.out
 have ho : x.out.length ≤ 1000000 := by omega
 obtain ⟨hmv, hpq, hyo, hn64, hk8, hlt⟩ := hg.head hh
 have hqs := hmv.qs
 have hqb := hmv.qb
 have hyl : y.out.length ≤ 1000000 := by rw [hyo]; exact ho
 have hw := rhead_any s lim hm hs b p x vo w h hg.ps ho
 have e : R7.head s lim x p = (some (4, n, q), y) := hh
 rw [e] at hw
 have HW := Px.hid hw
 have HG := Px.hid (And.intro hg (And.intro hm (And.intro hmv (And.intro hyo (And.intro hlt hn64)))))
 have hdp : ((dp : Nat) : Int) + (0 : Nat) = lim.d := by omega
 have HD := Px.hid hd
 clear hw e hh hg hmv hyo hlt hk8 h hm hol ho hd hmay
 have hdd : lim.d ≤ (dp : Int) := by omega
 have hdc : decide (lim.d ≤ (dp : Int)) = true := decide_eq_true hdd
 go_enter Tryd.func60, Tryd.ntmps60
 go_wp2_with fail
 refine HW.out.mono ?_
 rintro e w1 ⟨rfl, hx, hxf⟩
 have HX := Px.hid (And.intro hx hxf)
 clear hx hxf HW
 unfold headV
 obtain ⟨_, c1, _, _, _, _, _, _, _⟩ := HX.out.1.rd.cells
 go_wp2_with fail
 refine (xfault_any b _ p 10 s lim y _ _ _ HX.out.1.rd).mono ?_
 rintro e w2 ⟨rfl, hr, hf⟩
 have HY := Px.hid (And.intro (HX.out.1.step hr hf rfl) (HX.out.2.trans (It.foot (vo := vo) hf) (fun _ _ h => h)))
 clear hr hf
 go_wp2
 go_ret2
 exact ⟨rfl, _, ⟨_, HY.out.1, rfl⟩, HY.out.2, Fresh.refl _ _⟩

set_option maxRecDepth 100000 in
set_option maxHeartbeats 4000000 in
theorem item_5_full (s : Bytes) (lim : Lim) (hm : lim.may = true) (hs : s.length ≤ 140737488355327) (b p dp n q : Nat) (x y : St) (F : Nat → Prop) (w : World) (h : RdAt w b s lim x F) (hg : Good s lim x p 0) (hd : ((dp + 0 : Nat) : Int) = lim.d) (hh : Headed s lim x p 5 n q y) :
  Calls Tryd.prog 60 #[.pointer (some ⟨b, 0, none⟩), .int .i64 (p : Nat), .int .i64 (dp : Nat)] w fun r w' => r = .returned (itemV (((none, fault y p 10) : Option Nat × St)).1) ∧ Did w b s lim F (((none, fault y p 10) : Option Nat × St)).2 w' := by
 obtain ⟨vo, h, rfl⟩ := h
 have hmay := Cf.may_of hm
 have hol := hg.out
 have ho : x.out.length ≤ 1000000 := by omega
 obtain ⟨hmv, hpq, hyo, hn64, hk8, hlt⟩ := hg.head hh
 have hqs := hmv.qs
 have hqb := hmv.qb
 have hyl : y.out.length ≤ 1000000 := by rw [hyo]; exact ho
 have hw := rhead_any s lim hm hs b p x vo w h hg.ps ho
 have e : R7.head s lim x p = (some (5, n, q), y) := hh
 rw [e] at hw
 have HW := Px.hid hw
 have HG := Px.hid (And.intro hg (And.intro hm (And.intro hmv (And.intro hyo (And.intro hlt hn64)))))
 have hdp : ((dp : Nat) : Int) + (0 : Nat) = lim.d := by omega
 have HD := Px.hid hd
 clear hw e hh hg hmv hyo hlt hk8 h hm hol ho hd hmay
 have hdd : lim.d ≤ (dp : Int) := by omega
 have hdc : decide (lim.d ≤ (dp : Int)) = true := decide_eq_true hdd
 go_enter Tryd.func60, Tryd.ntmps60
 go_wp2_with fail
 refine HW.out.mono ?_
 rintro e w1 ⟨rfl, hx, hxf⟩
 have HX := Px.hid (And.intro hx hxf)
 clear hx hxf HW
 unfold headV
 obtain ⟨_, c1, _, _, _, _, _, _, _⟩ := HX.out.1.rd.cells
 go_wp2_with fail
 refine (xfault_any b _ p 10 s lim y _ _ _ HX.out.1.rd).mono ?_
 rintro e w2 ⟨rfl, hr, hf⟩
 have HY := Px.hid (And.intro (HX.out.1.step hr hf rfl) (HX.out.2.trans (It.foot (vo := vo) hf) (fun _ _ h => h)))
 clear hr hf
 go_wp2
 go_ret2
 exact ⟨rfl, _, ⟨_, HY.out.1, rfl⟩, HY.out.2, Fresh.refl _ _⟩

set_option maxRecDepth 100000 in
set_option maxHeartbeats 4000000 in
theorem item_6_full (s : Bytes) (lim : Lim) (hm : lim.may = true) (hs : s.length ≤ 140737488355327) (b p dp n q : Nat) (x y : St) (F : Nat → Prop) (w : World) (h : RdAt w b s lim x F) (hg : Good s lim x p 0) (hd : ((dp + 0 : Nat) : Int) = lim.d) (hh : Headed s lim x p 6 n q y) :
  Calls Tryd.prog 60 #[.pointer (some ⟨b, 0, none⟩), .int .i64 (p : Nat), .int .i64 (dp : Nat)] w fun r w' => r = .returned (itemV (((none, fault y p 10) : Option Nat × St)).1) ∧ Did w b s lim F (((none, fault y p 10) : Option Nat × St)).2 w' := by
 obtain ⟨vo, h, rfl⟩ := h
 have hmay := Cf.may_of hm
 have hol := hg.out
 have ho : x.out.length ≤ 1000000 := by omega
 obtain ⟨hmv, hpq, hyo, hn64, hk8, hlt⟩ := hg.head hh
 have hqs := hmv.qs
 have hqb := hmv.qb
 have hyl : y.out.length ≤ 1000000 := by rw [hyo]; exact ho
 have hw := rhead_any s lim hm hs b p x vo w h hg.ps ho
 have e : R7.head s lim x p = (some (6, n, q), y) := hh
 rw [e] at hw
 have HW := Px.hid hw
 have HG := Px.hid (And.intro hg (And.intro hm (And.intro hmv (And.intro hyo (And.intro hlt hn64)))))
 have hdp : ((dp : Nat) : Int) + (0 : Nat) = lim.d := by omega
 have HD := Px.hid hd
 clear hw e hh hg hmv hyo hlt hk8 h hm hol ho hd hmay
 have hdd : lim.d ≤ (dp : Int) := by omega
 have hdc : decide (lim.d ≤ (dp : Int)) = true := decide_eq_true hdd
 go_enter Tryd.func60, Tryd.ntmps60
 go_wp2_with fail
 refine HW.out.mono ?_
 rintro e w1 ⟨rfl, hx, hxf⟩
 have HX := Px.hid (And.intro hx hxf)
 clear hx hxf HW
 unfold headV
 obtain ⟨_, c1, _, _, _, _, _, _, _⟩ := HX.out.1.rd.cells
 go_wp2_with fail
 refine (xfault_any b _ p 10 s lim y _ _ _ HX.out.1.rd).mono ?_
 rintro e w2 ⟨rfl, hr, hf⟩
 have HY := Px.hid (And.intro (HX.out.1.step hr hf rfl) (HX.out.2.trans (It.foot (vo := vo) hf) (fun _ _ h => h)))
 clear hr hf
 go_wp2
 go_ret2
 exact ⟨rfl, _, ⟨_, HY.out.1, rfl⟩, HY.out.2, Fresh.refl _ _⟩

set_option maxRecDepth 100000 in
set_option maxHeartbeats 4000000 in
theorem item_4 (s : Bytes) (lim : Lim) (hm : lim.may = true) (hs : s.length ≤ 140737488355327) (d : Nat) (hI : ItemC s lim d) (b p dp n q : Nat) (x y : St) (F : Nat → Prop) (w : World) (h : RdAt w b s lim x F) (hg : Good s lim x p (d + 1)) (hd : ((dp + (d + 1) : Nat) : Int) = lim.d) (hh : Headed s lim x p 4 n q y) :
  Calls Tryd.prog 60 #[.pointer (some ⟨b, 0, none⟩), .int .i64 (p : Nat), .int .i64 (dp : Nat)] w fun r w' => r = .returned (itemV (holdN s (item s lim d) 4 n y q).1) ∧ Did w b s lim F (holdN s (item s lim d) 4 n y q).2 w' := by
 obtain ⟨vo, h, rfl⟩ := h
 have hmay := Cf.may_of hm
 have hol := hg.out
 have ho : x.out.length ≤ 1000000 := by omega
 obtain ⟨hmv, hpq, hyo, hn64, hk8, hlt⟩ := hg.head hh
 have hqs := hmv.qs
 have hqb := hmv.qb
 have hyl : y.out.length ≤ 1000000 := by rw [hyo]; exact ho
 have hw := rhead_any s lim hm hs b p x vo w h hg.ps ho
 have e : R7.head s lim x p = (some (4, n, q), y) := hh
 rw [e] at hw
 have HW := Px.hid hw
 have HG := Px.hid (And.intro hg (And.intro hm (And.intro hmv (And.intro hyo (And.intro hlt hn64)))))
 have hdp : ((dp : Nat) : Int) + ((d + 1) : Nat) = lim.d := by omega
 have HD := Px.hid hd
 clear hw e hh hg hmv hyo hlt hk8 h hm hol ho hd hmay
 have HI := Px.hid hI
 have HML := Px.hid (show s.length ≤ maxLen by unfold maxLen; omega)
 clear hI
 have hdd : ¬ lim.d ≤ (dp : Int) := by push_cast at hdp; omega
 have hdc : decide (lim.d ≤ (dp : Int)) = false := decide_eq_false hdd
 have hdp2 : (dp : Int) ≤ 32 := by have := Cf.may_of HG.out.2.1; omega
 have hfr : y.frames ≤ 1000 := by have := HG.out.1.deep; have := Cf.may_of HG.out.2.1; rw [HG.out.2.2.1.frames]; omega
 have HR := Px.hid (show holdN s (item s lim d) 4 n y q = (match itemsN (item s lim d) n { y with out := y.out ++ [⟨4, n, []⟩], frames := y.frames + 1 } q with | (some t, z) => (some t, { z with frames := z.frames - 1 }) | (none, z) => (none, z)) from rfl)
 have HGG := Px.hid (show Good s lim { y with out := y.out ++ [⟨4, n, []⟩], frames := y.frames + 1 } q d from by
  have hg := HG.out.1
  have hmv := HG.out.2.2.1
  exact ⟨hmv.qs, hmv.qb, hmv.err, hmv.taken, hmv.ended, by have := hg.deep; have := hmv.frames; show ((y.frames + 1 + d : Nat) : Int) = lim.d; omega, by have := HG.out.2.2.2.1; have := HG.out.2.2.2.2.1; simp [HG.out.2.2.2.1]; omega⟩)
 have HZFR := Px.hid (show ∀ t z, itemsN (item s lim d) n { y with out := y.out ++ [⟨4, n, []⟩], frames := y.frames + 1 } q = (some t, z) → z.frames = y.frames + 1 from fun t z e => inner_frames_4 s lim d HG.out.2.1 n q _ HGG.out t z e)
 have HDD := Px.hid (show ((dp + 1 + d : Nat) : Int) = lim.d by have := HD.out; omega)
 clear HD
 go_enter Tryd.func60, Tryd.ntmps60
 go_wp2_with fail
 refine HW.out.mono ?_
 rintro e w1 ⟨rfl, hx, hxf⟩
 have HX := Px.hid (And.intro hx hxf)
 clear hx hxf HW
 unfold headV
 obtain ⟨_, c1, _, _, _, _, _, _, _⟩ := HX.out.1.rd.cells
 have f11 := HX.out.1.rd.free 11
 have hb : b < w1.heap.size := HX.out.1.rd.lt
 have c11 : w1.cell? ⟨b, 11, none⟩ = some vo := HX.out.1.cell11
 obtain ⟨i0, hi0, hz0, hz1, hz2⟩ := info_parts Tryd.infoAtom
 go_upto_region 18 with fail
 go_cut [] (fun wx => RAfter w1 wx b s lim y ⟨4, n, []⟩ vo)
 case first =>
  go_wp2_with (at_builtin; go_must (refine wpList_append_lies _ rfl _ _ _ rfl 0 62 i0 _ 3 32 Tryd.underlying50 hi0 hz0 hz1 hz2 rfl (by omega) vo y.out.length (y.out.flatMap cAtom) rfl (HX.out.1.out.alloc _) ⟨w1.heap.size, 0, none⟩ 1 1 (cAtom ⟨4, n, []⟩) rfl rfl (World.news_of_block (cs := #[.int .i64 4, .int .u64 n, S []]) (t := 62) (fr := (0, 0)) (heap_alloc_new w1 _)) (by simp [cAtom, Value.oneCell']) (by omega) (by unfold maxLen; omega) (by omega) (by omega) (w1.heap.size + 1) (by simp) ?_))
  intro gg cap w1 hown1 hgrow hat hlt
  have k11 := grown_cell1 hgrow c11 HX.out.1.ob.ne
  have e11 := grown_free1 hgrow c11 f11 HX.out.1.ob.ne
  go_wp2_with fail
  go_meet
  exact HX.out.1.afterOut hown1 (grown_alloc1 hgrow) (hat.elim .inl (fun e => .inr (by omega)))
 case rest =>
  obtain ⟨vo', hy, hyf, hyn⟩ := hcut
  have HY := Px.hid (And.intro hy (And.intro hyf hyn))
  clear hy hyf hyn c11 f11
  clear c1
  obtain ⟨_, _, _, _, _, _, _, c9, _⟩ := HY.out.1.rd.cells
  have f9 := HY.out.1.rd.free 9
  have hzz := HY.out.1.rd.setFrames (y.frames + 1)
  have en : ((y.frames + 1 : Nat) : Int) = (y.frames : Int) + 1 := by omega
  rw [en] at hzz
  have hzf : Fr (It b) wc (wc.setCell ⟨b, 9, none⟩ (.int .i64 ((y.frames : Int) + 1))) := It.set _
  have HZ := Px.hid (show RdAt (wc.setCell ⟨b, 9, none⟩ (.int .i64 ((y.frames : Int) + 1))) b s lim { y with out := y.out ++ [⟨4, n, []⟩], frames := y.frames + 1 } (rfoot b vo') ∧ Fr (rfoot b vo) w (wc.setCell ⟨b, 9, none⟩ (.int .i64 ((y.frames : Int) + 1))) ∧ Fresh w (rfoot b vo) (rfoot b vo') from
   ⟨⟨_, HY.out.1.step hzz hzf rfl, rfl⟩, (HX.out.2.step (Fresh.refl _ _) HY.out.2.1).step (Fresh.trans (Fresh.refl _ _) HX.out.2.size HY.out.2.2) (It.foot (vo := vo') hzf), Fresh.trans (Fresh.refl _ _) HX.out.2.size HY.out.2.2⟩)
  clear hzz hzf en HX HY
  go_wp2_with fail
  have hcl := items_any s lim d HG.out.2.1 HI.out b q n (dp + 1) _ _ _ HZ.out.1 HGG.out HDD.out HG.out.2.2.2.2.2
  have edp : ((dp + 1 : Nat) : Int) = (dp : Int) + 1 := by omega
  rw [edp] at hcl
  refine hcl.mono ?_
  clear hcl edp c9 f9
  rintro e w2 ⟨rfl, hd⟩
  cases hr : itemsN (item s lim d) n { y with out := y.out ++ [⟨4, n, []⟩], frames := y.frames + 1 } q with
  | mk o z =>
   rw [hr] at hd HR
   have HDI := Px.hid (Did.trans HZ.out.2.1 HZ.out.2.2 hd)
   clear hd
   cases o with
   | none =>
    unfold itemV
    go_wp2
    go_ret2
    rw [HR.out]
    exact ⟨rfl, HDI.out⟩
   | some t =>
    have hzfr : 1 ≤ z.frames ∧ z.frames ≤ 1001 := by
     have := HZFR.out t z hr
     omega
    clear hr
    obtain ⟨F2, d1, d2, d3⟩ := HDI.out
    obtain ⟨vo2, rep, rfl⟩ := d1
    obtain ⟨_, _, _, _, _, _, _, c9, _⟩ := rep.rd.cells
    have f9 := rep.rd.free 9
    have hzz := rep.rd.setFrames (z.frames - 1)
    have en : ((z.frames - 1 : Nat) : Int) = (z.frames : Int) - 1 := by omega
    rw [en] at hzz
    have HFIN := Px.hid (And.intro (rep.step hzz (It.set _) rfl) (And.intro (d2.step d3 (It.foot (vo := vo2) (It.set (i := 9) (.int .i64 ((z.frames : Int) - 1))))) d3))
    clear hzz rep d2 d3 HDI en
    unfold itemV
    go_wp2
    go_ret2
    rw [HR.out]
    exact ⟨rfl, _, ⟨_, HFIN.out.1, rfl⟩, HFIN.out.2.1, HFIN.out.2.2⟩

set_option maxRecDepth 100000 in
set_option maxHeartbeats 4000000 in
theorem item_5 (s : Bytes) (lim : Lim) (hm : lim.may = true) (hs : s.length ≤ 140737488355327) (d : Nat) (hI : ItemC s lim d) (b p dp n q : Nat) (x y : St) (F : Nat → Prop) (w : World) (h : RdAt w b s lim x F) (hg : Good s lim x p (d + 1)) (hd : ((dp + (d + 1) : Nat) : Int) = lim.d) (hh : Headed s lim x p 5 n q y) :
  Calls Tryd.prog 60 #[.pointer (some ⟨b, 0, none⟩), .int .i64 (p : Nat), .int .i64 (dp : Nat)] w fun r w' => r = .returned (itemV (holdN s (item s lim d) 5 n y q).1) ∧ Did w b s lim F (holdN s (item s lim d) 5 n y q).2 w' := by
 obtain ⟨vo, h, rfl⟩ := h
 have hmay := Cf.may_of hm
 have hol := hg.out
 have ho : x.out.length ≤ 1000000 := by omega
 obtain ⟨hmv, hpq, hyo, hn64, hk8, hlt⟩ := hg.head hh
 have hqs := hmv.qs
 have hqb := hmv.qb
 have hyl : y.out.length ≤ 1000000 := by rw [hyo]; exact ho
 have hw := rhead_any s lim hm hs b p x vo w h hg.ps ho
 have e : R7.head s lim x p = (some (5, n, q), y) := hh
 rw [e] at hw
 have HW := Px.hid hw
 have HG := Px.hid (And.intro hg (And.intro hm (And.intro hmv (And.intro hyo (And.intro hlt hn64)))))
 have hdp : ((dp : Nat) : Int) + ((d + 1) : Nat) = lim.d := by omega
 have HD := Px.hid hd
 clear hw e hh hg hmv hyo hlt hk8 h hm hol ho hd hmay
 have HI := Px.hid hI
 have HML := Px.hid (show s.length ≤ maxLen by unfold maxLen; omega)
 clear hI
 have hdd : ¬ lim.d ≤ (dp : Int) := by push_cast at hdp; omega
 have hdc : decide (lim.d ≤ (dp : Int)) = false := decide_eq_false hdd
 have hdp2 : (dp : Int) ≤ 32 := by have := Cf.may_of HG.out.2.1; omega
 have hfr : y.frames ≤ 1000 := by have := HG.out.1.deep; have := Cf.may_of HG.out.2.1; rw [HG.out.2.2.1.frames]; omega
 have HR := Px.hid (show holdN s (item s lim d) 5 n y q = (match pairsN s (item s lim d) n none { y with out := y.out ++ [⟨5, n, []⟩], frames := y.frames + 1 } q with | (some t, z) => (some t, { z with frames := z.frames - 1 }) | (none, z) => (none, z)) from rfl)
 have HGG := Px.hid (show Good s lim { y with out := y.out ++ [⟨5, n, []⟩], frames := y.frames + 1 } q d from by
  have hg := HG.out.1
  have hmv := HG.out.2.2.1
  exact ⟨hmv.qs, hmv.qb, hmv.err, hmv.taken, hmv.ended, by have := hg.deep; have := hmv.frames; show ((y.frames + 1 + d : Nat) : Int) = lim.d; omega, by have := HG.out.2.2.2.1; have := HG.out.2.2.2.2.1; simp [HG.out.2.2.2.1]; omega⟩)
 have HZFR := Px.hid (show ∀ t z, pairsN s (item s lim d) n none { y with out := y.out ++ [⟨5, n, []⟩], frames := y.frames + 1 } q = (some t, z) → z.frames = y.frames + 1 from fun t z e => inner_frames_5 s lim d HG.out.2.1 n q _ HGG.out t z e)
 have HDD := Px.hid (show ((dp + 1 + d : Nat) : Int) = lim.d by have := HD.out; omega)
 clear HD
 go_enter Tryd.func60, Tryd.ntmps60
 go_wp2_with fail
 refine HW.out.mono ?_
 rintro e w1 ⟨rfl, hx, hxf⟩
 have HX := Px.hid (And.intro hx hxf)
 clear hx hxf HW
 unfold headV
 obtain ⟨_, c1, _, _, _, _, _, _, _⟩ := HX.out.1.rd.cells
 have f11 := HX.out.1.rd.free 11
 have hb : b < w1.heap.size := HX.out.1.rd.lt
 have c11 : w1.cell? ⟨b, 11, none⟩ = some vo := HX.out.1.cell11
 obtain ⟨i0, hi0, hz0, hz1, hz2⟩ := info_parts Tryd.infoAtom
 go_upto_region 18 with fail
 go_cut [] (fun wx => RAfter w1 wx b s lim y ⟨5, n, []⟩ vo)
 case first =>
  go_wp2_with (at_builtin; go_must (refine wpList_append_lies _ rfl _ _ _ rfl 0 62 i0 _ 3 32 Tryd.underlying50 hi0 hz0 hz1 hz2 rfl (by omega) vo y.out.length (y.out.flatMap cAtom) rfl (HX.out.1.out.alloc _) ⟨w1.heap.size, 0, none⟩ 1 1 (cAtom ⟨5, n, []⟩) rfl rfl (World.news_of_block (cs := #[.int .i64 5, .int .u64 n, S []]) (t := 62) (fr := (0, 0)) (heap_alloc_new w1 _)) (by simp [cAtom, Value.oneCell']) (by omega) (by unfold maxLen; omega) (by omega) (by omega) (w1.heap.size + 1) (by simp) ?_))
  intro gg cap w1 hown1 hgrow hat hlt
  have k11 := grown_cell1 hgrow c11 HX.out.1.ob.ne
  have e11 := grown_free1 hgrow c11 f11 HX.out.1.ob.ne
  go_wp2_with fail
  go_meet
  exact HX.out.1.afterOut hown1 (grown_alloc1 hgrow) (hat.elim .inl (fun e => .inr (by omega)))
 case rest =>
  obtain ⟨vo', hy, hyf, hyn⟩ := hcut
  have HY := Px.hid (And.intro hy (And.intro hyf hyn))
  clear hy hyf hyn c11 f11
  clear c1
  obtain ⟨_, _, _, _, _, _, _, c9, _⟩ := HY.out.1.rd.cells
  have f9 := HY.out.1.rd.free 9
  have hzz := HY.out.1.rd.setFrames (y.frames + 1)
  have en : ((y.frames + 1 : Nat) : Int) = (y.frames : Int) + 1 := by omega
  rw [en] at hzz
  have hzf : Fr (It b) wc (wc.setCell ⟨b, 9, none⟩ (.int .i64 ((y.frames : Int) + 1))) := It.set _
  have HZ := Px.hid (show RdAt (wc.setCell ⟨b, 9, none⟩ (.int .i64 ((y.frames : Int) + 1))) b s lim { y with out := y.out ++ [⟨5, n, []⟩], frames := y.frames + 1 } (rfoot b vo') ∧ Fr (rfoot b vo) w (wc.setCell ⟨b, 9, none⟩ (.int .i64 ((y.frames : Int) + 1))) ∧ Fresh w (rfoot b vo) (rfoot b vo') from
   ⟨⟨_, HY.out.1.step hzz hzf rfl, rfl⟩, (HX.out.2.step (Fresh.refl _ _) HY.out.2.1).step (Fresh.trans (Fresh.refl _ _) HX.out.2.size HY.out.2.2) (It.foot (vo := vo') hzf), Fresh.trans (Fresh.refl _ _) HX.out.2.size HY.out.2.2⟩)
  clear hzz hzf en HX HY
  go_wp2_with fail
  have hcl := pairs_any s lim d HG.out.2.1 HML.out HI.out b q n (dp + 1) _ _ _ HZ.out.1 HGG.out HDD.out HG.out.2.2.2.2.2
  have edp : ((dp + 1 : Nat) : Int) = (dp : Int) + 1 := by omega
  rw [edp] at hcl
  refine hcl.mono ?_
  clear hcl edp c9 f9
  rintro e w2 ⟨rfl, hd⟩
  cases hr : pairsN s (item s lim d) n none { y with out := y.out ++ [⟨5, n, []⟩], frames := y.frames + 1 } q with
  | mk o z =>
   rw [hr] at hd HR
   have HDI := Px.hid (Did.trans HZ.out.2.1 HZ.out.2.2 hd)
   clear hd
   cases o with
   | none =>
    unfold itemV
    go_wp2
    go_ret2
    rw [HR.out]
    exact ⟨rfl, HDI.out⟩
   | some t =>
    have hzfr : 1 ≤ z.frames ∧ z.frames ≤ 1001 := by
     have := HZFR.out t z hr
     omega
    clear hr
    obtain ⟨F2, d1, d2, d3⟩ := HDI.out
    obtain ⟨vo2, rep, rfl⟩ := d1
    obtain ⟨_, _, _, _, _, _, _, c9, _⟩ := rep.rd.cells
    have f9 := rep.rd.free 9
    have hzz := rep.rd.setFrames (z.frames - 1)
    have en : ((z.frames - 1 : Nat) : Int) = (z.frames : Int) - 1 := by omega
    rw [en] at hzz
    have HFIN := Px.hid (And.intro (rep.step hzz (It.set _) rfl) (And.intro (d2.step d3 (It.foot (vo := vo2) (It.set (i := 9) (.int .i64 ((z.frames : Int) - 1))))) d3))
    clear hzz rep d2 d3 HDI en
    unfold itemV
    go_wp2
    go_ret2
    rw [HR.out]
    exact ⟨rfl, _, ⟨_, HFIN.out.1, rfl⟩, HFIN.out.2.1, HFIN.out.2.2⟩

set_option maxRecDepth 100000 in
set_option maxHeartbeats 4000000 in
theorem item_6 (s : Bytes) (lim : Lim) (hm : lim.may = true) (hs : s.length ≤ 140737488355327) (d : Nat) (hI : ItemC s lim d) (b p dp n q : Nat) (x y : St) (F : Nat → Prop) (w : World) (h : RdAt w b s lim x F) (hg : Good s lim x p (d + 1)) (hd : ((dp + (d + 1) : Nat) : Int) = lim.d) (hh : Headed s lim x p 6 n q y) :
  Calls Tryd.prog 60 #[.pointer (some ⟨b, 0, none⟩), .int .i64 (p : Nat), .int .i64 (dp : Nat)] w fun r w' => r = .returned (itemV (holdN s (item s lim d) 6 n y q).1) ∧ Did w b s lim F (holdN s (item s lim d) 6 n y q).2 w' := by
 obtain ⟨vo, h, rfl⟩ := h
 have hmay := Cf.may_of hm
 have hol := hg.out
 have ho : x.out.length ≤ 1000000 := by omega
 obtain ⟨hmv, hpq, hyo, hn64, hk8, hlt⟩ := hg.head hh
 have hqs := hmv.qs
 have hqb := hmv.qb
 have hyl : y.out.length ≤ 1000000 := by rw [hyo]; exact ho
 have hw := rhead_any s lim hm hs b p x vo w h hg.ps ho
 have e : R7.head s lim x p = (some (6, n, q), y) := hh
 rw [e] at hw
 have HW := Px.hid hw
 have HG := Px.hid (And.intro hg (And.intro hm (And.intro hmv (And.intro hyo (And.intro hlt hn64)))))
 have hdp : ((dp : Nat) : Int) + ((d + 1) : Nat) = lim.d := by omega
 have HD := Px.hid hd
 clear hw e hh hg hmv hyo hlt hk8 h hm hol ho hd hmay
 have HI := Px.hid hI
 have HML := Px.hid (show s.length ≤ maxLen by unfold maxLen; omega)
 clear hI
 have hdd : ¬ lim.d ≤ (dp : Int) := by push_cast at hdp; omega
 have hdc : decide (lim.d ≤ (dp : Int)) = false := decide_eq_false hdd
 have hdp2 : (dp : Int) ≤ 32 := by have := Cf.may_of HG.out.2.1; omega
 have hfr : y.frames ≤ 1000 := by have := HG.out.1.deep; have := Cf.may_of HG.out.2.1; rw [HG.out.2.2.1.frames]; omega
 have HR := Px.hid (show holdN s (item s lim d) 6 n y q = (match item s lim d { y with out := y.out ++ [⟨6, n, []⟩], frames := y.frames + 1 } q with | (some t, z) => (some t, { z with frames := z.frames - 1 }) | (none, z) => (none, z)) from rfl)
 have HGG := Px.hid (show Good s lim { y with out := y.out ++ [⟨6, n, []⟩], frames := y.frames + 1 } q d from by
  have hg := HG.out.1
  have hmv := HG.out.2.2.1
  exact ⟨hmv.qs, hmv.qb, hmv.err, hmv.taken, hmv.ended, by have := hg.deep; have := hmv.frames; show ((y.frames + 1 + d : Nat) : Int) = lim.d; omega, by have := HG.out.2.2.2.1; have := HG.out.2.2.2.2.1; simp [HG.out.2.2.2.1]; omega⟩)
 have HZFR := Px.hid (show ∀ t z, item s lim d { y with out := y.out ++ [⟨6, n, []⟩], frames := y.frames + 1 } q = (some t, z) → z.frames = y.frames + 1 from fun t z e => inner_frames_6 s lim d HG.out.2.1 n q _ HGG.out t z e)
 have HDD := Px.hid (show ((dp + 1 + d : Nat) : Int) = lim.d by have := HD.out; omega)
 clear HD
 go_enter Tryd.func60, Tryd.ntmps60
 go_wp2_with fail
 refine HW.out.mono ?_
 rintro e w1 ⟨rfl, hx, hxf⟩
 have HX := Px.hid (And.intro hx hxf)
 clear hx hxf HW
 unfold headV
 obtain ⟨_, c1, _, _, _, _, _, _, _⟩ := HX.out.1.rd.cells
 have f11 := HX.out.1.rd.free 11
 have hb : b < w1.heap.size := HX.out.1.rd.lt
 have c11 : w1.cell? ⟨b, 11, none⟩ = some vo := HX.out.1.cell11
 obtain ⟨i0, hi0, hz0, hz1, hz2⟩ := info_parts Tryd.infoAtom
 go_upto_region 18 with fail
 go_cut [] (fun wx => RAfter w1 wx b s lim y ⟨6, n, []⟩ vo)
 case first =>
  go_wp2_with (at_builtin; go_must (refine wpList_append_lies _ rfl _ _ _ rfl 0 62 i0 _ 3 32 Tryd.underlying50 hi0 hz0 hz1 hz2 rfl (by omega) vo y.out.length (y.out.flatMap cAtom) rfl (HX.out.1.out.alloc _) ⟨w1.heap.size, 0, none⟩ 1 1 (cAtom ⟨6, n, []⟩) rfl rfl (World.news_of_block (cs := #[.int .i64 6, .int .u64 n, S []]) (t := 62) (fr := (0, 0)) (heap_alloc_new w1 _)) (by simp [cAtom, Value.oneCell']) (by omega) (by unfold maxLen; omega) (by omega) (by omega) (w1.heap.size + 1) (by simp) ?_))
  intro gg cap w1 hown1 hgrow hat hlt
  have k11 := grown_cell1 hgrow c11 HX.out.1.ob.ne
  have e11 := grown_free1 hgrow c11 f11 HX.out.1.ob.ne
  go_wp2_with fail
  go_meet
  exact HX.out.1.afterOut hown1 (grown_alloc1 hgrow) (hat.elim .inl (fun e => .inr (by omega)))
 case rest =>
  obtain ⟨vo', hy, hyf, hyn⟩ := hcut
  have HY := Px.hid (And.intro hy (And.intro hyf hyn))
  clear hy hyf hyn c11 f11
  clear c1
  obtain ⟨_, _, _, _, _, _, _, c9, _⟩ := HY.out.1.rd.cells
  have f9 := HY.out.1.rd.free 9
  have hzz := HY.out.1.rd.setFrames (y.frames + 1)
  have en : ((y.frames + 1 : Nat) : Int) = (y.frames : Int) + 1 := by omega
  rw [en] at hzz
  have hzf : Fr (It b) wc (wc.setCell ⟨b, 9, none⟩ (.int .i64 ((y.frames : Int) + 1))) := It.set _
  have HZ := Px.hid (show RdAt (wc.setCell ⟨b, 9, none⟩ (.int .i64 ((y.frames : Int) + 1))) b s lim { y with out := y.out ++ [⟨6, n, []⟩], frames := y.frames + 1 } (rfoot b vo') ∧ Fr (rfoot b vo) w (wc.setCell ⟨b, 9, none⟩ (.int .i64 ((y.frames : Int) + 1))) ∧ Fresh w (rfoot b vo) (rfoot b vo') from
   ⟨⟨_, HY.out.1.step hzz hzf rfl, rfl⟩, (HX.out.2.step (Fresh.refl _ _) HY.out.2.1).step (Fresh.trans (Fresh.refl _ _) HX.out.2.size HY.out.2.2) (It.foot (vo := vo') hzf), Fresh.trans (Fresh.refl _ _) HX.out.2.size HY.out.2.2⟩)
  clear hzz hzf en HX HY
  go_wp2_with fail
  have hcl := HI.out b q (dp + 1) _ _ _ HZ.out.1 HGG.out HDD.out
  have edp : ((dp + 1 : Nat) : Int) = (dp : Int) + 1 := by omega
  rw [edp] at hcl
  refine hcl.mono ?_
  clear hcl edp c9 f9
  rintro e w2 ⟨rfl, hd⟩
  cases hr : item s lim d { y with out := y.out ++ [⟨6, n, []⟩], frames := y.frames + 1 } q with
  | mk o z =>
   rw [hr] at hd HR
   have HDI := Px.hid (Did.trans HZ.out.2.1 HZ.out.2.2 hd)
   clear hd
   cases o with
   | none =>
    unfold itemV
    go_wp2
    go_ret2
    rw [HR.out]
    exact ⟨rfl, HDI.out⟩
   | some t =>
    have hzfr : 1 ≤ z.frames ∧ z.frames ≤ 1001 := by
     have := HZFR.out t z hr
     omega
    clear hr
    obtain ⟨F2, d1, d2, d3⟩ := HDI.out
    obtain ⟨vo2, rep, rfl⟩ := d1
    obtain ⟨_, _, _, _, _, _, _, c9, _⟩ := rep.rd.cells
    have f9 := rep.rd.free 9
    have hzz := rep.rd.setFrames (z.frames - 1)
    have en : ((z.frames - 1 : Nat) : Int) = (z.frames : Int) - 1 := by omega
    rw [en] at hzz
    have HFIN := Px.hid (And.intro (rep.step hzz (It.set _) rfl) (And.intro (d2.step d3 (It.foot (vo := vo2) (It.set (i := 9) (.int .i64 ((z.frames : Int) - 1))))) d3))
    clear hzz rep d2 d3 HDI en
    unfold itemV
    go_wp2
    go_ret2
    rw [HR.out]
    exact ⟨rfl, _, ⟨_, HFIN.out.1, rfl⟩, HFIN.out.2.1, HFIN.out.2.2⟩

set_option maxRecDepth 100000 in
set_option maxHeartbeats 4000000 in
theorem item_2 (s : Bytes) (lim : Lim) (hm : lim.may = true) (hs : s.length ≤ 140737488355327) (d : Nat) (b p dp n q : Nat) (x y : St) (F : Nat → Prop) (w : World) (h : RdAt w b s lim x F) (hg : Good s lim x p d) (hd : ((dp + d : Nat) : Int) = lim.d) (hh : Headed s lim x p 2 n q y) :
  Calls Tryd.prog 60 #[.pointer (some ⟨b, 0, none⟩), .int .i64 (p : Nat), .int .i64 (dp : Nat)] w fun r w' => r = .returned (itemV (textN s lim 2 n y p q).1) ∧ Did w b s lim F (textN s lim 2 n y p q).2 w' := by
 obtain ⟨vo, h, rfl⟩ := h
 have hmay := Cf.may_of hm
 have hol := hg.out
 have ho : x.out.length ≤ 1000000 := by omega
 obtain ⟨hmv, hpq, hyo, hn64, hk8, hlt⟩ := hg.head hh
 have hqs := hmv.qs
 have hqb := hmv.qb
 have hyl : y.out.length ≤ 1000000 := by rw [hyo]; exact ho
 have hw := rhead_any s lim hm hs b p x vo w h hg.ps ho
 have e : R7.head s lim x p = (some (2, n, q), y) := hh
 rw [e] at hw
 have HW := Px.hid hw
 have HG := Px.hid (And.intro hg (And.intro hm (And.intro hmv (And.intro hyo (And.intro hlt hn64)))))
 have hdp : ((dp : Nat) : Int) + (d : Nat) = lim.d := by omega
 have HD := Px.hid hd
 clear hw e hh hg hmv hyo hlt hk8 h hm hol ho hd hmay
 have HML := Px.hid (show s.length ≤ maxLen by unfold maxLen; omega)
 go_enter Tryd.func60, Tryd.ntmps60
 go_wp2_with fail
 refine HW.out.mono ?_
 rintro e w1 ⟨rfl, hx, hxf⟩
 have HX := Px.hid (And.intro hx hxf)
 clear hx hxf HW
 unfold headV
 obtain ⟨_, _, _, _, _, _, _, _, _⟩ := HX.out.1.rd.cells
 go_wp2
 go_loopw [10, 12] (fun a i wr => ∃ j z, j ≤ n ∧ i = .int .u64 (j : Nat) ∧ a = .int .i64 ((q + j : Nat) : Int) ∧ q + j ≤ s.length ∧ Hid (RdRep wr b s lim z vo ∧ Fr (rfoot b vo) w wr ∧ wantN s lim n y q = wantN s lim (n - j) z (q + j) ∧ z.out = y.out)) (fun _ i _ => n - (intOf i).toNat)
 case atStart => exact ⟨0, y, Nat.zero_le _, rfl, rfl, hqs, Px.hid ⟨HX.out.1, HX.out.2, rfl, rfl⟩⟩
 case round =>
  clear HX
  obtain ⟨j, z, hj, rfl, rfl, hjs, HZ⟩ := hrel
  have hn64 := HG.out.2.2.2.2.2
  by_cases hlt : j < n
  ·have hltz : (j : Int) < (n : Int) := by omega
   have hwj : IntKind.u64.wrap ((j : Int) + 1) = (j : Int) + 1 := IntWalk.u64_in _ ⟨by omega, by omega⟩
   have hmay := Cf.may_of HG.out.2.1
   have hw0 := want_any b _ (q + j) s lim z _ _ wr HZ.out.1.rd HML.out hmay.2.2.2.2.1 hmay.2.2.2.2.2.1 (Nat.le_trans hjs HML.out)
   have hpj : ((q + j : Nat) : Int) = (q : Int) + j := by omega
   rw [hpj] at hw0
   cases hwt : want s lim z (q + j) with
   | mk wb z2 =>
    have hzo := want_out s lim z (q + j)
    rw [hwt] at hw0 hzo
    have harg : wantN s lim n y q = match (wb, z2) with | (false, u) => (false, u) | (true, u) => wantN s lim (n - (j + 1)) u (q + j + 1) := by
     rw [HZ.out.2.2.1, show n - j = (n - (j + 1)) + 1 by omega]
     conv => lhs; unfold wantN; rw [hwt]
     rfl
    cases wb with
    | false =>
     have HR := Px.hid (show textN s lim 2 n y p q = (none, z2) by unfold textN; rw [harg])
     have HW2 := Px.hid hw0
     have HZO := Px.hid hzo
     clear hwt hw0 hzo harg hn64 hmay hpj
     go_wp2_with fail
     refine HW2.out.mono ?_
     rintro e w2 ⟨rfl, hr, hf⟩
     have HY := Px.hid (And.intro (HZ.out.1.step hr hf HZO.out) (HZ.out.2.1.trans (It.foot (vo := vo) hf) (fun _ _ h => h)))
     clear hr hf
     go_wp2
     go_ret2
     rw [HR.out]
     exact ⟨rfl, _, ⟨_, HY.out.1, rfl⟩, HY.out.2, Fresh.refl _ _⟩
    | true =>
     obtain ⟨hps2, hpb2, hyt⟩ := want_true hwt
     have HARG := Px.hid harg
     have HW2 := Px.hid hw0
     have HZO := Px.hid hzo
     clear hwt hw0 hzo harg hn64 hmay hpj hyt
     go_wp2_with fail
     refine HW2.out.mono ?_
     rintro e w2 ⟨rfl, hr, hf⟩
     have HY := Px.hid (And.intro (HZ.out.1.step hr hf HZO.out) (HZ.out.2.1.trans (It.foot (vo := vo) hf) (fun _ _ h => h)))
     clear hr hf
     go_wp2
     go_roundw
     case rel => exact ⟨j + 1, z2, by omega, by go_num, by go_num, by omega, Px.hid ⟨HY.out.1, HY.out.2, HARG.out, HZO.out.trans HZ.out.2.2.2⟩⟩
     case measure => simp [intOf]; omega
  ·have hltz : ¬ (j : Int) < (n : Int) := by omega
   have hje : j = n := by omega
   subst hje
   have hwn : wantN s lim j y q = (true, z) := by rw [HZ.out.2.2.1, Nat.sub_self]; rfl
   have hcv : IntKind.i64.wrap (j : Int) = (j : Int) := IntWalk.i64_in _ ⟨by omega, by omega⟩
   have hsl : ∀ w, (Instr.slice 9 (S s) (some (.int .i64 (q : Int))) (some (.int .i64 ((q : Int) + j))) none).run Tryd.prog w = .ok (S ((s.take (q + j)).drop q)) w := fun w => by
    have := slice_S s q (q + j) (by omega) hjs w
    have hpj : ((q + j : Nat) : Int) = (q : Int) + j := by omega
    rw [hpj] at this
    exact this
   have HR := Px.hid (show textN s lim 2 j y p q = (if ((2 == 3) && !Lib.validD ((s.take (q + j)).drop q)) = true then (none, fault z p 9) else (some (q + j), { z with out := z.out ++ [⟨2, 0, (s.take (q + j)).drop q⟩] })) by unfold textN; rw [hwn]; rfl)
   have htl : ((s.take (q + j)).drop q).length ≤ maxLen := by have := HML.out; rw [List.length_drop, List.length_take]; omega
   obtain ⟨t, ht⟩ : ∃ t, t = (s.take (q + j)).drop q := ⟨_, rfl⟩
   rw [← ht] at HR hsl htl
   have HTL := Px.hid htl
   have hzl : z.out.length ≤ 1000000 := by rw [HZ.out.2.2.2]; exact hyl
   have c0 := HZ.out.1.rd.cells.1
   clear ht htl hwn hn64
   have HR := Px.hid (HR.out.trans (if_neg (by simp)))
   have HX := Px.hid (And.intro HZ.out.1 HZ.out.2.1)
   clear HZ
   have f11 := HX.out.1.rd.free 11
   have hb : b < wr.heap.size := HX.out.1.rd.lt
   have c11 : wr.cell? ⟨b, 11, none⟩ = some vo := HX.out.1.cell11
   obtain ⟨i0, hi0, hz0, hz1, hz2⟩ := info_parts Tryd.infoAtom
   go_upto_region 14 with fail
   go_cut [] (fun wx => RAfter wr wx b s lim z ⟨2, 0, t⟩ vo)
   case first =>
    go_wp2_with (at_builtin; go_must (refine wpList_append_lies _ rfl _ _ _ rfl 0 62 i0 _ 3 32 Tryd.underlying50 hi0 hz0 hz1 hz2 rfl (by omega) vo z.out.length (z.out.flatMap cAtom) rfl (HX.out.1.out.alloc _) ⟨wr.heap.size, 0, none⟩ 1 1 (cAtom ⟨2, 0, t⟩) rfl rfl (World.news_of_block (cs := #[.int .i64 2, .int .u64 0, S t]) (t := 62) (fr := (0, 0)) (heap_alloc_new wr _)) (by simp [cAtom, Value.oneCell']) (by omega) (by unfold maxLen; omega) (by omega) (by omega) (wr.heap.size + 1) (by simp) ?_))
    intro gg cap w1 hown1 hgrow hat hlt
    have k11 := grown_cell1 hgrow c11 HX.out.1.ob.ne
    have e11 := grown_free1 hgrow c11 f11 HX.out.1.ob.ne
    go_wp2_with fail
    go_meet
    exact HX.out.1.afterOut hown1 (grown_alloc1 hgrow) (hat.elim .inl (fun e => .inr (by omega)))
   case rest =>
    obtain ⟨vo', hy, hyf, hyn⟩ := hcut
    have HY := Px.hid (And.intro hy (And.intro hyf hyn))
    clear hy hyf hyn c11 f11
    go_wp2
    go_ret2
    rw [HR.out]
    exact ⟨rfl, _, ⟨_, HY.out.1, rfl⟩, HX.out.2.step (Fresh.refl _ _) HY.out.2.1, Fresh.trans (Fresh.refl _ _) HX.out.2.size HY.out.2.2⟩

set_option maxRecDepth 100000 in
set_option maxHeartbeats 4000000 in
theorem item_3 (s : Bytes) (lim : Lim) (hm : lim.may = true) (hs : s.length ≤ 140737488355327) (d : Nat) (b p dp n q : Nat) (x y : St) (F : Nat → Prop) (w : World) (h : RdAt w b s lim x F) (hg : Good s lim x p d) (hd : ((dp + d : Nat) : Int) = lim.d) (hh : Headed s lim x p 3 n q y) :
  Calls Tryd.prog 60 #[.pointer (some ⟨b, 0, none⟩), .int .i64 (p : Nat), .int .i64 (dp : Nat)] w fun r w' => r = .returned (itemV (textN s lim 3 n y p q).1) ∧ Did w b s lim F (textN s lim 3 n y p q).2 w' := by
 obtain ⟨vo, h, rfl⟩ := h
 have hmay := Cf.may_of hm
 have hol := hg.out
 have ho : x.out.length ≤ 1000000 := by omega
 obtain ⟨hmv, hpq, hyo, hn64, hk8, hlt⟩ := hg.head hh
 have hqs := hmv.qs
 have hqb := hmv.qb
 have hyl : y.out.length ≤ 1000000 := by rw [hyo]; exact ho
 have hw := rhead_any s lim hm hs b p x vo w h hg.ps ho
 have e : R7.head s lim x p = (some (3, n, q), y) := hh
 rw [e] at hw
 have HW := Px.hid hw
 have HG := Px.hid (And.intro hg (And.intro hm (And.intro hmv (And.intro hyo (And.intro hlt hn64)))))
 have hdp : ((dp : Nat) : Int) + (d : Nat) = lim.d := by omega
 have HD := Px.hid hd
 clear hw e hh hg hmv hyo hlt hk8 h hm hol ho hd hmay
 have HML := Px.hid (show s.length ≤ maxLen by unfold maxLen; omega)
 go_enter Tryd.func60, Tryd.ntmps60
 go_wp2_with fail
 refine HW.out.mono ?_
 rintro e w1 ⟨rfl, hx, hxf⟩
 have HX := Px.hid (And.intro hx hxf)
 clear hx hxf HW
 unfold headV
 obtain ⟨_, _, _, _, _, _, _, _, _⟩ := HX.out.1.rd.cells
 go_wp2
 go_loopw [10, 12] (fun a i wr => ∃ j z, j ≤ n ∧ i = .int .u64 (j : Nat) ∧ a = .int .i64 ((q + j : Nat) : Int) ∧ q + j ≤ s.length ∧ Hid (RdRep wr b s lim z vo ∧ Fr (rfoot b vo) w wr ∧ wantN s lim n y q = wantN s lim (n - j) z (q + j) ∧ z.out = y.out)) (fun _ i _ => n - (intOf i).toNat)
 case atStart => exact ⟨0, y, Nat.zero_le _, rfl, rfl, hqs, Px.hid ⟨HX.out.1, HX.out.2, rfl, rfl⟩⟩
 case round =>
  clear HX
  obtain ⟨j, z, hj, rfl, rfl, hjs, HZ⟩ := hrel
  have hn64 := HG.out.2.2.2.2.2
  by_cases hlt : j < n
  ·have hltz : (j : Int) < (n : Int) := by omega
   have hwj : IntKind.u64.wrap ((j : Int) + 1) = (j : Int) + 1 := IntWalk.u64_in _ ⟨by omega, by omega⟩
   have hmay := Cf.may_of HG.out.2.1
   have hw0 := want_any b _ (q + j) s lim z _ _ wr HZ.out.1.rd HML.out hmay.2.2.2.2.1 hmay.2.2.2.2.2.1 (Nat.le_trans hjs HML.out)
   have hpj : ((q + j : Nat) : Int) = (q : Int) + j := by omega
   rw [hpj] at hw0
   cases hwt : want s lim z (q + j) with
   | mk wb z2 =>
    have hzo := want_out s lim z (q + j)
    rw [hwt] at hw0 hzo
    have harg : wantN s lim n y q = match (wb, z2) with | (false, u) => (false, u) | (true, u) => wantN s lim (n - (j + 1)) u (q + j + 1) := by
     rw [HZ.out.2.2.1, show n - j = (n - (j + 1)) + 1 by omega]
     conv => lhs; unfold wantN; rw [hwt]
     rfl
    cases wb with
    | false =>
     have HR := Px.hid (show textN s lim 3 n y p q = (none, z2) by unfold textN; rw [harg])
     have HW2 := Px.hid hw0
     have HZO := Px.hid hzo
     clear hwt hw0 hzo harg hn64 hmay hpj
     go_wp2_with fail
     refine HW2.out.mono ?_
     rintro e w2 ⟨rfl, hr, hf⟩
     have HY := Px.hid (And.intro (HZ.out.1.step hr hf HZO.out) (HZ.out.2.1.trans (It.foot (vo := vo) hf) (fun _ _ h => h)))
     clear hr hf
     go_wp2
     go_ret2
     rw [HR.out]
     exact ⟨rfl, _, ⟨_, HY.out.1, rfl⟩, HY.out.2, Fresh.refl _ _⟩
    | true =>
     obtain ⟨hps2, hpb2, hyt⟩ := want_true hwt
     have HARG := Px.hid harg
     have HW2 := Px.hid hw0
     have HZO := Px.hid hzo
     clear hwt hw0 hzo harg hn64 hmay hpj hyt
     go_wp2_with fail
     refine HW2.out.mono ?_
     rintro e w2 ⟨rfl, hr, hf⟩
     have HY := Px.hid (And.intro (HZ.out.1.step hr hf HZO.out) (HZ.out.2.1.trans (It.foot (vo := vo) hf) (fun _ _ h => h)))
     clear hr hf
     go_wp2
     go_roundw
     case rel => exact ⟨j + 1, z2, by omega, by go_num, by go_num, by omega, Px.hid ⟨HY.out.1, HY.out.2, HARG.out, HZO.out.trans HZ.out.2.2.2⟩⟩
     case measure => simp [intOf]; omega
  ·have hltz : ¬ (j : Int) < (n : Int) := by omega
   have hje : j = n := by omega
   subst hje
   have hwn : wantN s lim j y q = (true, z) := by rw [HZ.out.2.2.1, Nat.sub_self]; rfl
   have hcv : IntKind.i64.wrap (j : Int) = (j : Int) := IntWalk.i64_in _ ⟨by omega, by omega⟩
   have hsl : ∀ w, (Instr.slice 9 (S s) (some (.int .i64 (q : Int))) (some (.int .i64 ((q : Int) + j))) none).run Tryd.prog w = .ok (S ((s.take (q + j)).drop q)) w := fun w => by
    have := slice_S s q (q + j) (by omega) hjs w
    have hpj : ((q + j : Nat) : Int) = (q : Int) + j := by omega
    rw [hpj] at this
    exact this
   have HR := Px.hid (show textN s lim 3 j y p q = (if ((3 == 3) && !Lib.validD ((s.take (q + j)).drop q)) = true then (none, fault z p 9) else (some (q + j), { z with out := z.out ++ [⟨3, 0, (s.take (q + j)).drop q⟩] })) by unfold textN; rw [hwn]; rfl)
   have htl : ((s.take (q + j)).drop q).length ≤ maxLen := by have := HML.out; rw [List.length_drop, List.length_take]; omega
   obtain ⟨t, ht⟩ : ∃ t, t = (s.take (q + j)).drop q := ⟨_, rfl⟩
   rw [← ht] at HR hsl htl
   have HTL := Px.hid htl
   have hzl : z.out.length ≤ 1000000 := by rw [HZ.out.2.2.2]; exact hyl
   have c0 := HZ.out.1.rd.cells.1
   clear ht htl hwn hn64
   by_cases hv : Lib.validD t = true
   ·have HR := Px.hid (HR.out.trans (if_neg (by simp [hv])))
    have HV := Px.hid hv
    clear hv
    go_wp2_with fail
    refine (text_any t _ HTL.out).mono ?_
    rintro e w2 ⟨rfl, hs2⟩
    have HX := Px.hid (And.intro (HZ.out.1.same hs2) (HZ.out.2.1.trans (hs2.fr (rfoot b vo)) (fun _ _ h => h)))
    rw [HV.out]
    clear hs2 c0 HZ
    have f11 := HX.out.1.rd.free 11
    have hb : b < w2.heap.size := HX.out.1.rd.lt
    have c11 : w2.cell? ⟨b, 11, none⟩ = some vo := HX.out.1.cell11
    obtain ⟨i0, hi0, hz0, hz1, hz2⟩ := info_parts Tryd.infoAtom
    go_upto_region 14 with fail
    go_cut [] (fun wx => RAfter w2 wx b s lim z ⟨3, 0, t⟩ vo)
    case first =>
     go_wp2_with (at_builtin; go_must (refine wpList_append_lies _ rfl _ _ _ rfl 0 62 i0 _ 3 32 Tryd.underlying50 hi0 hz0 hz1 hz2 rfl (by omega) vo z.out.length (z.out.flatMap cAtom) rfl (HX.out.1.out.alloc _) ⟨w2.heap.size, 0, none⟩ 1 1 (cAtom ⟨3, 0, t⟩) rfl rfl (World.news_of_block (cs := #[.int .i64 3, .int .u64 0, S t]) (t := 62) (fr := (0, 0)) (heap_alloc_new w2 _)) (by simp [cAtom, Value.oneCell']) (by omega) (by unfold maxLen; omega) (by omega) (by omega) (w2.heap.size + 1) (by simp) ?_))
     intro gg cap w1 hown1 hgrow hat hlt
     have k11 := grown_cell1 hgrow c11 HX.out.1.ob.ne
     have e11 := grown_free1 hgrow c11 f11 HX.out.1.ob.ne
     go_wp2_with fail
     go_meet
     exact HX.out.1.afterOut hown1 (grown_alloc1 hgrow) (hat.elim .inl (fun e => .inr (by omega)))
    case rest =>
     obtain ⟨vo', hy, hyf, hyn⟩ := hcut
     have HY := Px.hid (And.intro hy (And.intro hyf hyn))
     clear hy hyf hyn c11 f11
     go_wp2
     go_ret2
     rw [HR.out]
     exact ⟨rfl, _, ⟨_, HY.out.1, rfl⟩, HX.out.2.step (Fresh.refl _ _) HY.out.2.1, Fresh.trans (Fresh.refl _ _) HX.out.2.size HY.out.2.2⟩
   ·have hv : Lib.validD t = false := by simpa using hv
    have HR := Px.hid (HR.out.trans (if_pos (by simp [hv])))
    have HV := Px.hid hv
    clear hv
    go_wp2_with fail
    refine (text_any t _ HTL.out).mono ?_
    rintro e w2 ⟨rfl, hs2⟩
    have HX := Px.hid (And.intro (HZ.out.1.same hs2) (HZ.out.2.1.trans (hs2.fr (rfoot b vo)) (fun _ _ h => h)))
    rw [HV.out]
    clear hs2 c0 HZ
    go_wp2_with fail
    refine (xfault_any b _ p 9 s lim z _ _ _ HX.out.1.rd).mono ?_
    rintro e w3 ⟨rfl, hr, hf⟩
    have HY := Px.hid (And.intro (HX.out.1.step hr hf rfl) (HX.out.2.trans (It.foot (vo := vo) hf) (fun _ _ h => h)))
    clear hr hf
    go_wp2
    go_ret2
    rw [HR.out]
    exact ⟨rfl, _, ⟨_, HY.out.1, rfl⟩, HY.out.2, Fresh.refl _ _⟩

set_option maxRecDepth 100000 in
set_option maxHeartbeats 1000000 in
theorem item_none (s : Bytes) (lim : Lim) (hm : lim.may = true) (hs : s.length ≤ 140737488355327) (d b p dp : Nat) (x y : St) (F : Nat → Prop) (w : World) (h : RdAt w b s lim x F) (hg : Good s lim x p d) (hh : R7.head s lim x p = (none, y)) :
  Calls Tryd.prog 60 #[.pointer (some ⟨b, 0, none⟩), .int .i64 (p : Nat), .int .i64 (dp : Nat)] w fun r w' => r = .returned (itemV none) ∧ Did w b s lim F y w' := by
 obtain ⟨vo, h, rfl⟩ := h
 have hmay := Cf.may_of hm
 have hol := hg.out
 have hw := rhead_any s lim hm hs b p x vo w h hg.ps (by omega)
 rw [hh] at hw
 have HW := Px.hid hw
 clear hw hh hg hol hmay h hm
 go_enter Tryd.func60, Tryd.ntmps60
 go_wp2_with fail
 refine HW.out.mono ?_
 rintro e w1 ⟨rfl, hx, hxf⟩
 have HX := Px.hid (And.intro hx hxf)
 clear hx hxf HW
 unfold headV
 go_wp2
 go_ret2
 exact ⟨rfl, _, ⟨_, HX.out.1, rfl⟩, HX.out.2, Fresh.refl _ _⟩

theorem item_any (s : Bytes) (lim : Lim) (hm : lim.may = true) (hs : s.length ≤ 140737488355327) : ∀ d, ItemC s lim d := by
 intro d
 induction d with
 | zero =>
  intro b p dp x F w h hg hd
  have hitem : item s lim 0 x p = match R7.head s lim x p with
   | (none, y) => (none, y)
   | (some (k, n, at_), y) =>
    if k == 2 || k == 3 then textN s lim k n y p at_
    else if k == 4 || k == 5 || k == 6 then (none, fault y p 10)
    else (some at_, { y with out := y.out ++ [⟨k, n, []⟩] }) := rfl
  cases hr : R7.head s lim x p with
  | mk o y =>
   rw [hr] at hitem
   cases o with
   | none => rw [hitem]; exact item_none s lim hm hs 0 b p dp x y F w h hg hr
   | some t =>
    obtain ⟨kk, n, q⟩ := t
    obtain ⟨_, _, _, _, hk8, _⟩ := hg.head hr
    rw [hitem]
    have h8 : kk = 0 ∨ kk = 1 ∨ kk = 2 ∨ kk = 3 ∨ kk = 4 ∨ kk = 5 ∨ kk = 6 ∨ kk = 7 := by omega
    rcases h8 with rfl | rfl | rfl | rfl | rfl | rfl | rfl | rfl
    ·exact item_0 s lim hm hs 0 b p dp n q x y F w h hg hd hr
    ·exact item_1 s lim hm hs 0 b p dp n q x y F w h hg hd hr
    ·exact item_2 s lim hm hs 0 b p dp n q x y F w h hg hd hr
    ·exact item_3 s lim hm hs 0 b p dp n q x y F w h hg hd hr
    ·exact item_4_full s lim hm hs b p dp n q x y F w h hg hd hr
    ·exact item_5_full s lim hm hs b p dp n q x y F w h hg hd hr
    ·exact item_6_full s lim hm hs b p dp n q x y F w h hg hd hr
    ·exact item_7 s lim hm hs 0 b p dp n q x y F w h hg hd hr
 | succ d ih =>
  intro b p dp x F w h hg hd
  have hitem : item s lim (d + 1) x p = match R7.head s lim x p with
   | (none, y) => (none, y)
   | (some (k, n, at_), y) =>
    if k == 2 || k == 3 then textN s lim k n y p at_
    else if k == 4 || k == 5 || k == 6 then holdN s (item s lim d) k n y at_
    else (some at_, { y with out := y.out ++ [⟨k, n, []⟩] }) := rfl
  cases hr : R7.head s lim x p with
  | mk o y =>
   rw [hr] at hitem
   cases o with
   | none => rw [hitem]; exact item_none s lim hm hs (d + 1) b p dp x y F w h hg hr
   | some t =>
    obtain ⟨kk, n, q⟩ := t
    obtain ⟨_, _, _, _, hk8, _⟩ := hg.head hr
    rw [hitem]
    have h8 : kk = 0 ∨ kk = 1 ∨ kk = 2 ∨ kk = 3 ∨ kk = 4 ∨ kk = 5 ∨ kk = 6 ∨ kk = 7 := by omega
    rcases h8 with rfl | rfl | rfl | rfl | rfl | rfl | rfl | rfl
    ·exact item_0 s lim hm hs (d + 1) b p dp n q x y F w h hg hd hr
    ·exact item_1 s lim hm hs (d + 1) b p dp n q x y F w h hg hd hr
    ·exact item_2 s lim hm hs (d + 1) b p dp n q x y F w h hg hd hr
    ·exact item_3 s lim hm hs (d + 1) b p dp n q x y F w h hg hd hr
    ·exact item_4 s lim hm hs d ih b p dp n q x y F w h hg hd hr
    ·exact item_5 s lim hm hs d ih b p dp n q x y F w h hg hd hr
    ·exact item_6 s lim hm hs d ih b p dp n q x y F w h hg hd hr
    ·exact item_7 s lim hm hs (d + 1) b p dp n q x y F w h hg hd hr
end Go.Proofs.YtddiabaagpmkgaaDoor

/-! The walks over the reference's Read and Same (layer 17) and the statements' read (layer 20). -/
namespace Go.Proofs.YtddiabaagpmkgaaDoor
open Go.RowKit Go.Px Go.Px.R7

/-- A reader by value. -/
def rdV (s : Bytes) (lim : Lim) (x : St) : Value :=
 .agg #[S s, .int .i64 lim.d, .int .i64 lim.i, .int .i64 lim.b, .int .i64 lim.r, .slice none 0 0, .int .i64 x.err, .int .i64 x.place, .int .i64 (x.taken : Nat), .int .i64 (x.frames : Nat), .bool x.ended]
theorem Rd.cells2 {w : World} {b T : Nat} {s : Bytes} {lim : Lim} {x : St} {vn : Value} {tl : List Value} (h : Rd w b T s lim x vn tl) :
  w.cell? ⟨b, 4, none⟩ = some (.int .i64 lim.r) ∧ w.cell? ⟨b, 5, none⟩ = some vn := ⟨cellOf h.blk 4 (by simp [rdCells]), cellOf h.blk 5 (by simp [rdCells])⟩
theorem start_rep {w : World} {b : Nat} (s : Bytes) (lim : Lim) (h : w.heap[b]? = some (.cells #[S s, .int .i64 lim.d, .int .i64 lim.i, .int .i64 lim.b, .int .i64 lim.r, .slice none 0 0, .int .i64 0, .int .i64 0, .int .i64 0, .int .i64 0, .bool false, .slice none 0 0] 123 (0, 0))) :
  RdRep w b s lim R7.start (.slice none 0 0) :=
 ⟨⟨h⟩, owns_nil _ _ _ _, fun k hk => by simp [Value.ownBlock] at hk⟩
theorem start_good (s : Bytes) (lim : Lim) (hm : lim.may = true) : Good s lim R7.start 0 lim.d.toNat := by
 have hmay := Cf.may_of hm
 exact ⟨Nat.zero_le _, by omega, rfl, rfl, rfl, by show ((0 + lim.d.toNat : Nat) : Int) = lim.d; omega, by show ((0 : Nat) : Int) ≤ lim.i; omega⟩

def zero68 : Array Value := #[.string ByteArray.empty, .int .i64 0, .int .i64 0, .int .i64 0, .int .i64 0, .slice none 0 0, .int .i64 0, .int .i64 0, .int .i64 0, .int .i64 0, .bool false]
/-- While it is read: the reader and the block of the result are the call's own. -/
def RFin (w w4 : World) (s : Bytes) (lim : Lim) (y : St) : Prop := ∃ vo, RdRep w4 (w.heap.size + 1 + 1) s lim y vo ∧ Same w w4 ∧ w4.heap[w.heap.size + 1]? = some (.cells zero68 92 (0, 0)) ∧ (∀ k, rfoot (w.heap.size + 1 + 1) vo k → w.heap.size + 2 ≤ k)
theorem RFin.did {w w4 w5 : World} {s : Bytes} {lim : Lim} {y z : St} {vo : Value} (_ : RdRep w4 (w.heap.size + 1 + 1) s lim y vo) (h2 : Same w w4) (h3 : w4.heap[w.heap.size + 1]? = some (.cells zero68 92 (0, 0))) (h4 : ∀ k, rfoot (w.heap.size + 1 + 1) vo k → w.heap.size + 2 ≤ k)
  (hd : Did w4 (w.heap.size + 1 + 1) s lim (rfoot (w.heap.size + 1 + 1) vo) z w5) : RFin w w5 s lim z := by
 obtain ⟨F', ⟨vo', k1, rfl⟩, k2, k3⟩ := hd
 have hlt := ltOf h3
 refine ⟨vo', k1, ?_, ?_, ?_⟩
 ·exact Fr.toSame ((h2.fr _).trans k2 (fun _ _ x => x)) (fun k hk => by have := h4 k hk; omega)
 ·exact (k2.block _ hlt (fun e => by have := h4 _ e; omega)).trans h3
 ·intro k hk
  rcases k3 k hk with e | e
  ·exact h4 k e
  ·omega
theorem RFin.it {w w4 w5 : World} {s : Bytes} {lim : Lim} {y z : St} (h : RFin w w4 s lim y) (hz : z.out = y.out) (hr : ∀ vo, Rd w4 (w.heap.size + 1 + 1) 123 s lim y (.slice none 0 0) [vo] → Rd w5 (w.heap.size + 1 + 1) 123 s lim z (.slice none 0 0) [vo]) (hf : Fr (It (w.heap.size + 1 + 1)) w4 w5) : RFin w w5 s lim z := by
 obtain ⟨vo, h1, h2, h3, h4⟩ := h
 exact RFin.did h1 h2 h3 h4 ⟨_, ⟨vo, h1.step (hr vo h1.rd) hf hz, rfl⟩, It.foot hf, Fresh.refl _ _⟩
theorem RFin.begin (w : World) (s : Bytes) (lim : Lim) : RFin w (((w.alloc (.cells #[.int .i64 lim.d, .int .i64 lim.i, .int .i64 lim.b, .int .i64 lim.r] 23 (0, 0))).alloc (.cells zero68 92 (0, 0))).alloc (.cells #[S s, .int .i64 lim.d, .int .i64 lim.i, .int .i64 lim.b, .int .i64 lim.r, .slice none 0 0, .int .i64 0, .int .i64 0, .int .i64 0, .int .i64 0, .bool false, .slice none 0 0] 123 (0, 0))) s lim R7.start := by
 refine ⟨.slice none 0 0, start_rep s lim ?_, (((Fr.refl _ w).alloc _).alloc _).alloc _, ?_, ?_⟩
 ·have := heap_alloc_new ((w.alloc (.cells #[.int .i64 lim.d, .int .i64 lim.i, .int .i64 lim.b, .int .i64 lim.r] 23 (0, 0))).alloc (.cells zero68 92 (0, 0))) (.cells #[S s, .int .i64 lim.d, .int .i64 lim.i, .int .i64 lim.b, .int .i64 lim.r, .slice none 0 0, .int .i64 0, .int .i64 0, .int .i64 0, .int .i64 0, .bool false, .slice none 0 0] 123 (0, 0))
  simpa using this
 ·rw [Below.heap_alloc _ _ _ (by simp)]
  have := heap_alloc_new (w.alloc (.cells #[.int .i64 lim.d, .int .i64 lim.i, .int .i64 lim.b, .int .i64 lim.r] 23 (0, 0))) (.cells zero68 92 (0, 0))
  simpa using this
 ·rintro k (rfl | hk)
  ·omega
  ·simp [Value.ownBlock] at hk

theorem chain11 (w : World) (b : Nat) (v0 v1 v2 v3 v4 v5 v6 v7 v8 v9 v10 : Value) : Fr (fun k => k = b) w (((((((((((w.setCell ⟨b, 0, none⟩ v0).setCell ⟨b, 1, none⟩ v1).setCell ⟨b, 2, none⟩ v2).setCell ⟨b, 3, none⟩ v3).setCell ⟨b, 4, none⟩ v4).setCell ⟨b, 5, none⟩ v5).setCell ⟨b, 6, none⟩ v6).setCell ⟨b, 7, none⟩ v7).setCell ⟨b, 8, none⟩ v8).setCell ⟨b, 9, none⟩ v9).setCell ⟨b, 10, none⟩ v10).drew := ((((((((((((Fr.refl (fun k => k = b) w).setCell (p := ⟨b, 0, none⟩) (.inl rfl) v0).setCell (p := ⟨b, 1, none⟩) (.inl rfl) v1).setCell (p := ⟨b, 2, none⟩) (.inl rfl) v2).setCell (p := ⟨b, 3, none⟩) (.inl rfl) v3).setCell (p := ⟨b, 4, none⟩) (.inl rfl) v4).setCell (p := ⟨b, 5, none⟩) (.inl rfl) v5).setCell (p := ⟨b, 6, none⟩) (.inl rfl) v6).setCell (p := ⟨b, 7, none⟩) (.inl rfl) v7).setCell (p := ⟨b, 8, none⟩) (.inl rfl) v8).setCell (p := ⟨b, 9, none⟩) (.inl rfl) v9).setCell (p := ⟨b, 10, none⟩) (.inl rfl) v10).drew
theorem list_bad {x : St} (h : ¬ x.err = 0) : R7.list x = [] := by unfold R7.list; rw [if_neg (by simpa using h)]
theorem list_ok {x : St} (h : x.err = 0) : R7.list x = x.out := by unfold R7.list; rw [if_pos (by simpa using h)]
theorem rfin_same {w w4 w5 : World} (h : Same w w4) (hc : Fr (fun k => k = w.heap.size + 1) w4 w5) : Same w w5 :=
 Fr.toSame ((h.fr (fun k => k = w.heap.size + 1)).trans hc (fun _ _ x => x)) (fun k hk => by omega)
theorem want_frames {s : Bytes} {lim : Lim} {x z : St} {p : Nat} {b : Bool} (h : want s lim x p = (b, z)) : want s lim { x with frames := 0 } p = (b, { z with frames := 0 }) := by
 unfold want at h ⊢
 by_cases h1 : p < s.length ∧ (p : Int) < lim.b
 ·rw [if_pos h1] at h ⊢
  simp only [Prod.mk.injEq] at h
  obtain ⟨rfl, rfl⟩ := h
  rfl
 ·rw [if_neg h1] at h ⊢
  by_cases h2 : lim.b < s.length
  ·rw [if_pos h2] at h ⊢
   simp only [Prod.mk.injEq] at h
   obtain ⟨rfl, rfl⟩ := h
   rfl
  ·rw [if_neg h2] at h ⊢
   simp only [Prod.mk.injEq] at h
   obtain ⟨rfl, rfl⟩ := h
   rfl
set_option maxRecDepth 100000 in
set_option maxHeartbeats 4000000 in
theorem read17_any (s : Bytes) (lim : Lim) (w : World) (hm : lim.may = true) (hs : s.length ≤ 140737488355327) :
  Calls Tryd.prog 42 #[S s, limV lim] w fun r w' => ∃ v, r = .returned (.tuple #[v, rdV s lim (R7.read s lim)]) ∧ Owns w' 62 3 cAtom v (list (R7.read s lim)) ∧ Same w w' ∧ (∀ g, v.ownBlock = some g → w.heap.size ≤ g) := by
 have hd : ((lim.d.toNat : Nat) : Int) = lim.d := by have := Cf.may_of hm; omega
 have HM := Px.hid (And.intro hm (And.intro hs hd))
 have hsz : (ByteArray.mk s.toArray).size = s.length := size_S s
 have hsl : s.length ≤ 140737488355327 := hs
 clear hm hs hd
 unfold limV
 go_enter Tryd.func42, Tryd.ntmps42
 go_wp2_with fail
 have HF := Px.hid (RFin.begin w s lim)
 have hi := item_any s lim HM.out.1 HM.out.2.1 lim.d.toNat (w.heap.size + 1 + 1) 0 0 R7.start _ _ ⟨_, HF.out.choose_spec.1, rfl⟩ (start_good s lim HM.out.1) (by rw [Nat.zero_add]; exact HM.out.2.2)
 have HI := Px.hid hi
 clear hi
 refine HI.out.mono ?_
 rintro e w1 ⟨rfl, hd⟩
 have hgood := start_good s lim HM.out.1
 cases hr : R7.item s lim lim.d.toNat R7.start 0 with
 | mk o y =>
  rw [hr] at hd
  have HY := Px.hid (show RFin w w1 s lim y from by
   have hs := HF.out.choose_spec
   exact RFin.did hs.1 hs.2.1 hs.2.2.1 hs.2.2.2 hd)
  have hsim := item_sim (s := s) HM.out.1 lim.d.toNat R7.start 0 _ hgood.sim hgood.out
  rw [hr] at hsim
  clear hd HF HI
  cases o with
  | none =>
   have HE := Px.hid (show R7.read s lim = y by unfold R7.read; rw [hr])
   have hne : ¬ y.err = 0 := hsim.xerr
   have hneb : (y.err == 0) = false := by simpa using hne
   have hneb2 : (y.err != 0) = true := by simpa using hne
   have HN := Px.hid hne
   clear hne hsim hr hgood
   unfold itemV
   obtain ⟨vo, h1, h2, h3, h4⟩ := HY.out
   obtain ⟨c0, c1, c2, c3, c6, c7, c8, c9, c10⟩ := h1.rd.cells
   obtain ⟨c4, c5⟩ := h1.rd.cells2
   have c11 := h1.cell11
   have hz : ∀ i v, zero68[i]? = some v → w1.cell? ⟨w.heap.size + 1, i, none⟩ = some v := fun i v e => cellOf h3 i e
   have z0 := hz 0 _ rfl
   have z1 := hz 1 _ rfl
   have z2 := hz 2 _ rfl
   have z3 := hz 3 _ rfl
   have z4 := hz 4 _ rfl
   have z5 := hz 5 _ rfl
   have z6 := hz 6 _ rfl
   have z7 := hz 7 _ rfl
   have z8 := hz 8 _ rfl
   have z9 := hz 9 _ rfl
   have z10 := hz 10 _ rfl
   have zf : ∀ i, w1.frozen? ⟨w.heap.size + 1, i, none⟩ = false := freeOf h3
   have f0 := zf 0
   have f1 := zf 1
   have f2 := zf 2
   have f3 := zf 3
   have f4 := zf 4
   have f5 := zf 5
   have f6 := zf 6
   have f7 := zf 7
   have f8 := zf 8
   have f9 := zf 9
   have f10 := zf 10
   have HK := Px.hid (And.intro h1 (And.intro h2 (And.intro h3 h4)))
   clear h1 h2 h3 h4 hz zf HY
   go_wp2_with fail
   go_region
   all_goals
    go_wp2
    refine bodyPost_ret (v := .tuple #[.slice none 0 0, rdV s lim y]) (by simp [results, Tryd.results42, go_sem, rdV, z0, z1, z2, z3, z4, z5, z6, z7, z8, z9, z10]) rfl ?_
    rw [HE.out]
    refine ⟨_, rfl, ?_, ?_, fun g hg => by simp [Value.ownBlock] at hg⟩
    ·rw [list_bad HN.out]; exact owns_nil _ _ _ _
    ·exact rfin_same HK.out.2.1 (chain11 _ _ _ _ _ _ _ _ _ _ _ _ _)
  | some q =>
   obtain ⟨i1, _⟩ := hsim
   have hye := i1.err
   have hqs := i1.qs
   have HI1 := Px.hid i1
   unfold itemV
   by_cases hlt : q < s.length
   ·have hltz : (q : Int) < (s.length : Int) := by omega
    have HE := Px.hid (show R7.read s lim = (match want s lim y q with | (true, y) => fault y q 9 | (false, y) => y) by unfold R7.read; rw [hr]; simp only; rw [if_pos hlt]; rfl)
    have hmay := Cf.may_of HM.out.1
    have hml : s.length ≤ maxLen := by unfold maxLen; omega
    have hw0 := fun vo (h : Rd w1 (w.heap.size + 1 + 1) 123 s lim y (.slice none 0 0) [vo]) => want_any (w.heap.size + 1 + 1) _ q s lim y _ _ w1 h hml hmay.2.2.2.2.1 hmay.2.2.2.2.2.1 (Nat.le_trans hqs hml)
    have hzo := want_out s lim y q
    cases hwt : want s lim y q with
    | mk wb z =>
     rw [hwt] at hw0 hzo HE
     cases wb with
     | false =>
      have hne : ¬ z.err = 0 := by
       have h2 := want_no (f := { Cf.init lim with text := s.take q, out := y.out, next := 0 }) (x := { y with frames := 0 }) (p := q) (y := { z with frames := 0 }) (s := s) (lim := lim) ⟨rfl, rfl, i1.qs, i1.qb, rfl, i1.err, i1.taken, rfl, i1.ended⟩ (by simp) (want_frames hwt)
       exact h2.xerr
      have HZO := Px.hid hzo
      have HW := Px.hid hw0
      have hneb : (z.err == 0) = false := by simpa using hne
      have hneb2 : (z.err != 0) = true := by simpa using hne
      have HN := Px.hid hne
      clear hne hr hgood i1 hye hwt hw0 hzo hmay hml hlt
      obtain ⟨vo0, r1, _⟩ := HY.out
      have HRD := Px.hid r1
      clear r1
      go_wp2_with fail
      refine (HW.out vo0 HRD.out.rd).mono ?_
      rintro e w2 ⟨rfl, hrd, hf⟩
      have HY := Px.hid (show RFin w w2 s lim z from by
       obtain ⟨vo1, k1, k2, k3, k4⟩ := HY.out
       have e : vo1 = vo0 := by
        have a := k1.cell11
        have b := HRD.out.cell11
        rw [a] at b
        exact Option.some.inj b
       subst e
       exact RFin.did k1 k2 k3 k4 ⟨_, ⟨vo1, k1.step hrd hf HZO.out, rfl⟩, It.foot hf, Fresh.refl _ _⟩)
      clear hrd hf HRD HW
      obtain ⟨vo, h1, h2, h3, h4⟩ := HY.out
      obtain ⟨c0, c1, c2, c3, c6, c7, c8, c9, c10⟩ := h1.rd.cells
      obtain ⟨c4, c5⟩ := h1.rd.cells2
      have c11 := h1.cell11
      have hz : ∀ i v, zero68[i]? = some v → w2.cell? ⟨w.heap.size + 1, i, none⟩ = some v := fun i v e => cellOf h3 i e
      have z0 := hz 0 _ rfl
      have z1 := hz 1 _ rfl
      have z2 := hz 2 _ rfl
      have z3 := hz 3 _ rfl
      have z4 := hz 4 _ rfl
      have z5 := hz 5 _ rfl
      have z6 := hz 6 _ rfl
      have z7 := hz 7 _ rfl
      have z8 := hz 8 _ rfl
      have z9 := hz 9 _ rfl
      have z10 := hz 10 _ rfl
      have zf : ∀ i, w2.frozen? ⟨w.heap.size + 1, i, none⟩ = false := freeOf h3
      have f0 := zf 0
      have f1 := zf 1
      have f2 := zf 2
      have f3 := zf 3
      have f4 := zf 4
      have f5 := zf 5
      have f6 := zf 6
      have f7 := zf 7
      have f8 := zf 8
      have f9 := zf 9
      have f10 := zf 10
      have HK := Px.hid (And.intro h1 (And.intro h2 (And.intro h3 h4)))
      clear h1 h2 h3 h4 hz zf HY
      go_wp2_with fail
      go_region
      all_goals
       go_wp2
       refine bodyPost_ret (v := .tuple #[.slice none 0 0, rdV s lim z]) (by simp [results, Tryd.results42, go_sem, rdV, z0, z1, z2, z3, z4, z5, z6, z7, z8, z9, z10]) rfl ?_
       rw [HE.out]
       refine ⟨_, rfl, ?_, ?_, fun g hg => by simp [Value.ownBlock] at hg⟩
       ·rw [list_bad HN.out]; exact owns_nil _ _ _ _
       ·exact rfin_same HK.out.2.1 (chain11 _ _ _ _ _ _ _ _ _ _ _ _ _)
     | true =>
      have HZO := Px.hid hzo
      have HW := Px.hid hw0
      have HN := Px.hid (show ¬ (fault z (q : Int) 9).err = 0 by simp [fault])
      clear hr hgood i1 hye hwt hw0 hzo hmay hml hlt
      obtain ⟨vo0, r1, _⟩ := HY.out
      have HRD := Px.hid r1
      clear r1
      go_wp2_with fail
      refine (HW.out vo0 HRD.out.rd).mono ?_
      rintro e w2 ⟨rfl, hrd, hf⟩
      have HRD2 := Px.hid (And.intro hrd hf)
      clear hrd hf
      go_wp2_with fail
      refine (xfault_any (w.heap.size + 1 + 1) _ q 9 s lim z _ _ w2 HRD2.out.1).mono ?_
      rintro e w3 ⟨rfl, hrd, hf⟩
      have HY := Px.hid (show RFin w w3 s lim (fault z (q : Int) 9) from by
       obtain ⟨vo1, k1, k2, k3, k4⟩ := HY.out
       have e : vo1 = vo0 := by
        have a := k1.cell11
        have b := HRD.out.cell11
        rw [a] at b
        exact Option.some.inj b
       subst e
       exact RFin.did k1 k2 k3 k4 ⟨_, ⟨vo1, (k1.step HRD2.out.1 HRD2.out.2 HZO.out).step hrd hf rfl, rfl⟩, It.foot (HRD2.out.2.trans hf (fun _ _ h => h)), Fresh.refl _ _⟩)
      clear hrd hf HRD HW HRD2
      obtain ⟨vo, h1, h2, h3, h4⟩ := HY.out
      obtain ⟨c0, c1, c2, c3, c6, c7, c8, c9, c10⟩ := h1.rd.cells
      obtain ⟨c4, c5⟩ := h1.rd.cells2
      have c11 := h1.cell11
      have hz : ∀ i v, zero68[i]? = some v → w3.cell? ⟨w.heap.size + 1, i, none⟩ = some v := fun i v e => cellOf h3 i e
      have z0 := hz 0 _ rfl
      have z1 := hz 1 _ rfl
      have z2 := hz 2 _ rfl
      have z3 := hz 3 _ rfl
      have z4 := hz 4 _ rfl
      have z5 := hz 5 _ rfl
      have z6 := hz 6 _ rfl
      have z7 := hz 7 _ rfl
      have z8 := hz 8 _ rfl
      have z9 := hz 9 _ rfl
      have z10 := hz 10 _ rfl
      have zf : ∀ i, w3.frozen? ⟨w.heap.size + 1, i, none⟩ = false := freeOf h3
      have f0 := zf 0
      have f1 := zf 1
      have f2 := zf 2
      have f3 := zf 3
      have f4 := zf 4
      have f5 := zf 5
      have f6 := zf 6
      have f7 := zf 7
      have f8 := zf 8
      have f9 := zf 9
      have f10 := zf 10
      have HK := Px.hid (And.intro h1 (And.intro h2 (And.intro h3 h4)))
      clear h1 h2 h3 h4 hz zf HY
      go_wp2_with fail
      go_region
      all_goals
       go_wp2
       refine bodyPost_ret (v := .tuple #[.slice none 0 0, rdV s lim (fault z (q : Int) 9)]) (by simp [results, Tryd.results42, go_sem, rdV, z0, z1, z2, z3, z4, z5, z6, z7, z8, z9, z10]) rfl ?_
       rw [HE.out]
       refine ⟨_, rfl, ?_, ?_, fun g hg => by simp [Value.ownBlock] at hg⟩
       ·rw [list_bad HN.out]; exact owns_nil _ _ _ _
       ·exact rfin_same HK.out.2.1 (chain11 _ _ _ _ _ _ _ _ _ _ _ _ _)
   ·have hltz : ¬ (q : Int) < (s.length : Int) := by omega
    have HE := Px.hid (show R7.read s lim = y by unfold R7.read; rw [hr]; simp only; rw [if_neg hlt])
    have hneb : (y.err == 0) = true := by simpa using hye
    have hneb2 : (y.err != 0) = false := by simp [hye]
    have HN := Px.hid hye
    clear hye hr hgood i1 hlt
    obtain ⟨vo, h1, h2, h3, h4⟩ := HY.out
    obtain ⟨c0, c1, c2, c3, c6, c7, c8, c9, c10⟩ := h1.rd.cells
    obtain ⟨c4, c5⟩ := h1.rd.cells2
    have c11 := h1.cell11
    have hz : ∀ i v, zero68[i]? = some v → w1.cell? ⟨w.heap.size + 1, i, none⟩ = some v := fun i v e => cellOf h3 i e
    have z0 := hz 0 _ rfl
    have z1 := hz 1 _ rfl
    have z2 := hz 2 _ rfl
    have z3 := hz 3 _ rfl
    have z4 := hz 4 _ rfl
    have z5 := hz 5 _ rfl
    have z6 := hz 6 _ rfl
    have z7 := hz 7 _ rfl
    have z8 := hz 8 _ rfl
    have z9 := hz 9 _ rfl
    have z10 := hz 10 _ rfl
    have zf : ∀ i, w1.frozen? ⟨w.heap.size + 1, i, none⟩ = false := freeOf h3
    have f0 := zf 0
    have f1 := zf 1
    have f2 := zf 2
    have f3 := zf 3
    have f4 := zf 4
    have f5 := zf 5
    have f6 := zf 6
    have f7 := zf 7
    have f8 := zf 8
    have f9 := zf 9
    have f10 := zf 10
    have HK := Px.hid (And.intro h1 (And.intro h2 (And.intro h3 h4)))
    clear h1 h2 h3 h4 hz zf HY
    go_wp2_with fail
    go_region
    all_goals
     go_wp2
     refine bodyPost_ret (v := .tuple #[vo, rdV s lim y]) (by simp [results, Tryd.results42, go_sem, rdV, z0, z1, z2, z3, z4, z5, z6, z7, z8, z9, z10]) rfl ?_
     rw [HE.out]
     refine ⟨_, rfl, ?_, ?_, fun g hg => by have := HK.out.2.2.2 g (.inr hg); omega⟩
     ·rw [list_ok HN.out]; exact HK.out.1.out.fr (F := fun k => k = w.heap.size + 1) (chain11 _ _ _ _ _ _ _ _ _ _ _ _ _) (fun k hk e => by have := HK.out.2.2.2 k (.inr hk); omega)
     ·exact rfin_same HK.out.2.1 (chain11 _ _ _ _ _ _ _ _ _ _ _ _ _)
end Go.Proofs.YtddiabaagpmkgaaDoor
