/-
  The walk over the reference's head (layer 17).
-/
import Derived.Test.YtddiabaagpmkgaaDoorRr
namespace Go.Proofs.YtddiabaagpmkgaaDoor
open Go.RowKit Go.Px Go.Px.R7

theorem wd0 (w : World) : (Instr.index 163 (.agg #[.int .i64 1, .int .i64 2, .int .i64 4, .int .i64 8]) (.int .i64 0)).run Tryd.prog w = .ok (.int .i64 1) w := by kernel_rfl
theorem wd1 (w : World) : (Instr.index 163 (.agg #[.int .i64 1, .int .i64 2, .int .i64 4, .int .i64 8]) (.int .i64 1)).run Tryd.prog w = .ok (.int .i64 2) w := by kernel_rfl
theorem wd2 (w : World) : (Instr.index 163 (.agg #[.int .i64 1, .int .i64 2, .int .i64 4, .int .i64 8]) (.int .i64 2)).run Tryd.prog w = .ok (.int .i64 4) w := by kernel_rfl
theorem wd3 (w : World) : (Instr.index 163 (.agg #[.int .i64 1, .int .i64 2, .int .i64 4, .int .i64 8]) (.int .i64 3)).run Tryd.prog w = .ok (.int .i64 8) w := by kernel_rfl
theorem widths (a : Nat) (h1 : 24 ≤ a) (h2 : a ≤ 27) (w : World) :
    (Instr.index 163 (.agg #[.int .i64 1, .int .i64 2, .int .i64 4, .int .i64 8]) (.int .i64 ((a : Int) - 24))).run Tryd.prog w = .ok (.int .i64 ((2 ^ (a - 24) : Nat) : Int)) w := by
  have ha : a = 24 ∨ a = 25 ∨ a = 26 ∨ a = 27 := by omega
  rcases ha with rfl | rfl | rfl | rfl
  · exact wd0 w
  · exact wd1 w
  · exact wd2 w
  · exact wd3 w
theorem head_small (s : Bytes) (lim : Lim) (x y : St) (p c : Nat) (hw : want s lim x p = (true, y)) (hc : (s.getD p 0).toNat = c) :
    R7.head s lim x p = if lim.i ≤ y.out.length then (none, fault y p 10) else if 27 < c % 32 then (none, fault y p 9) else if c / 32 == 7 && (decide (c % 32 < 20) || decide (23 < c % 32)) then (none, fault y p 11) else if c % 32 < 24 then (some (c / 32, c % 32, p + 1), y)
      else match argN s lim (2 ^ (c % 32 - 24)) y (p + 1) 0 with
        | (none, z) => (none, z)
        | (some n, z) => if (headB (c / 32) n).length = 2 ^ (c % 32 - 24) + 1 then (some (c / 32, n, p + 1 + 2 ^ (c % 32 - 24)), z) else (none, fault z p 9) := by
  unfold R7.head
  rw [hw]
  simp only [hc]
  rfl

set_option maxRecDepth 100000 in
set_option maxHeartbeats 4000000 in
theorem rhead_any (s : Bytes) (lim : Lim) (hm : lim.may = true) (hs : s.length ≤ 140737488355327) (b p : Nat) (x : St) (vo : Value) (w : World) (h : RdRep w b s lim x vo) (hp : p ≤ s.length) (hol : x.out.length ≤ 1000000) :
    Calls Tryd.prog 77 #[.pointer (some ⟨b, 0, none⟩), .int .i64 (p : Nat)] w fun r w' => r = .returned (headV (R7.head s lim x p).1) ∧ RdRep w' b s lim (R7.head s lim x p).2 vo ∧ Fr (rfoot b vo) w w' := by
  have hmay := Cf.may_of hm
  have hml : s.length ≤ maxLen := by unfold maxLen; omega
  have HM := Px.hid (And.intro hml (And.intro hmay.2.2.2.2.1 hmay.2.2.2.2.2.1))
  have hw0 := want_any b _ p s lim x _ _ w h.rd hml hmay.2.2.2.2.1 hmay.2.2.2.2.2.1 (Nat.le_trans hp hml)
  have H := Px.hid h
  clear h hml hmay
  cases hwt : want s lim x p with
  | mk wb y =>
    have hyo := want_out s lim x p
    rw [hwt] at hw0 hyo
    have HW := Px.hid hw0
    clear hw0
    cases wb with
    | false =>
      have HR := Px.hid (show R7.head s lim x p = (none, y) by unfold R7.head; rw [hwt])
      have HYO := Px.hid hyo
      clear hwt hyo
      go_enter Tryd.func77, Tryd.ntmps77
      go_wp2_with fail
      refine HW.out.mono ?_
      rintro e w1 ⟨rfl, hr, hf⟩
      have HX := Px.hid (And.intro (H.out.step hr hf HYO.out) (It.foot (vo := vo) hf))
      clear hr hf
      go_wp2
      refine bodyPost_ret (v := headV none) (by simp [results, Tryd.results77, go_sem, headV]) rfl ?_
      rw [HR.out]
      exact ⟨rfl, HX.out.1, HX.out.2⟩
    | true =>
      obtain ⟨hps, hpb, hyt⟩ := want_true hwt
      clear hyt
      obtain ⟨c, hc⟩ : ∃ c, c = (s.getD p 0).toNat := ⟨_, rfl⟩
      have hcb : c < 256 := by rw [hc]; exact UInt8.toNat_lt _
      have hix : ∀ w, (Instr.index 9 (S s) (.int .i64 (p : Nat))).run Tryd.prog w = .ok (.int .u8 (c : Nat)) w := fun w => by rw [hc]; exact idx_S s p hps w
      have HR := Px.hid (head_small s lim x y p c hwt hc.symm)
      have HYO := Px.hid hyo
      have HC := Px.hid hc
      have hol2 : y.out.length ≤ 1000000 := by rw [hyo]; exact hol
      clear hwt hyo hc hol
      obtain ⟨k, hk⟩ : ∃ k, k = c / 32 := ⟨_, rfl⟩
      obtain ⟨a, ha⟩ : ∃ a, a = c % 32 := ⟨_, rfl⟩
      have hq : (c : Int) / 32 = (k : Int) := by omega
      have hmd : (c : Int) % 32 = (a : Int) := by omega
      have hk8 : k < 8 := by omega
      have ha32 : a < 32 := by omega
      rw [← hk, ← ha] at HR
      clear hk ha
      go_enter Tryd.func77, Tryd.ntmps77
      go_wp2_with fail
      refine HW.out.mono ?_
      rintro e w1 ⟨rfl, hr, hf⟩
      have hx := H.out.step hr hf HYO.out
      have HX := Px.hid (And.intro hx (It.foot (vo := vo) hf))
      clear hr hf HW H
      obtain ⟨oa, oc, hov, _⟩ := hx.out.len
      have c11 : w1.cell? ⟨b, 11, none⟩ = some (.slice oa y.out.length oc) := by rw [← hov]; exact hx.cell11
      obtain ⟨c0, _, c2, _, _, _, _, _, _⟩ := hx.rd.cells
      clear hx hov
      rcases Bool.eq_false_or_eq_true (decide (lim.i ≤ (y.out.length : Int))) with hd | hd
      · have HR := Px.hid (HR.out.trans (if_pos (of_decide_eq_true hd)))
        go_wp2_with fail
        go_quiet (fail)
        go_wp2_with fail
        refine (xfault_any b _ p 10 s lim y _ _ _ (HX.out.1.rd.drewN nq)).mono ?_
        rintro e w2 ⟨rfl, hr, hf⟩
        have HY := Px.hid (And.intro ((HX.out.1.drewN nq).step hr hf rfl) ((HX.out.2.drewN nq).trans (It.foot (vo := vo) hf) (fun _ _ h => h)))
        clear hr hf
        go_wp2
        refine bodyPost_ret (v := headV none) (by simp [results, Tryd.results77, go_sem, headV]) rfl ?_
        rw [HR.out]
        exact ⟨rfl, HY.out.1, HY.out.2⟩
      · have HR := Px.hid (HR.out.trans (if_neg (of_decide_eq_false hd)))
        go_wp2_with fail
        go_quiet (fail)
        have HX := Px.hid (And.intro (HX.out.1.drewN nq) (HX.out.2.drewN nq))
        obtain ⟨WX, hWX⟩ : ∃ WX, WX = w1.drewN nq := ⟨_, rfl⟩
        rw [← hWX] at HX ⊢
        clear hWX c0 c2 c11
        have c0 := HX.out.1.rd.cells.1
        by_cases h27 : 27 < a
        · have HR := Px.hid (HR.out.trans (if_pos h27))
          have z27 : (27 : Int) < a := by omega
          go_wp2_with fail
          refine (xfault_any b _ p 9 s lim y _ _ _ HX.out.1.rd).mono ?_
          rintro e w2 ⟨rfl, hr, hf⟩
          have HY := Px.hid (And.intro (HX.out.1.step hr hf rfl) (HX.out.2.trans (It.foot (vo := vo) hf) (fun _ _ h => h)))
          clear hr hf
          go_wp2
          refine bodyPost_ret (v := headV none) (by simp [results, Tryd.results77, go_sem, headV]) rfl ?_
          rw [HR.out]
          exact ⟨rfl, HY.out.1, HY.out.2⟩
        · have HR := Px.hid (HR.out.trans (if_neg h27))
          have z27 : ¬ (27 : Int) < a := by omega
          by_cases h7 : (k == 7 && (decide (a < 20) || decide (23 < a))) = true
          · have HR := Px.hid (HR.out.trans (if_pos h7))
            simp only [Bool.and_eq_true, beq_iff_eq, Bool.or_eq_true, decide_eq_true_eq] at h7
            obtain ⟨h7a, h7b⟩ := h7
            have zk : ((k : Int) == 7) = true := by simp; omega
            have HK := Px.hid h7a
            clear h7a
            rcases Nat.lt_or_ge a 20 with h20 | h20
            · have z20 : (a : Int) < 20 := by omega
              clear h7b
              go_wp2_with fail
              refine (xfault_any b _ p 11 s lim y _ _ _ HX.out.1.rd).mono ?_
              rintro e w2 ⟨rfl, hr, hf⟩
              have HY := Px.hid (And.intro (HX.out.1.step hr hf rfl) (HX.out.2.trans (It.foot (vo := vo) hf) (fun _ _ h => h)))
              clear hr hf
              go_wp2
              refine bodyPost_ret (v := headV none) (by simp [results, Tryd.results77, go_sem, headV]) rfl ?_
              rw [HR.out]
              exact ⟨rfl, HY.out.1, HY.out.2⟩
            · have z20 : ¬ (a : Int) < 20 := by omega
              have z23 : (23 : Int) < a := by omega
              clear h7b
              go_wp2_with fail
              refine (xfault_any b _ p 11 s lim y _ _ _ HX.out.1.rd).mono ?_
              rintro e w2 ⟨rfl, hr, hf⟩
              have HY := Px.hid (And.intro (HX.out.1.step hr hf rfl) (HX.out.2.trans (It.foot (vo := vo) hf) (fun _ _ h => h)))
              clear hr hf
              go_wp2
              refine bodyPost_ret (v := headV none) (by simp [results, Tryd.results77, go_sem, headV]) rfl ?_
              rw [HR.out]
              exact ⟨rfl, HY.out.1, HY.out.2⟩
          · have HR := Px.hid (HR.out.trans (if_neg h7))
            have h7' : k = 7 → 20 ≤ a ∧ a ≤ 23 := by
              intro e
              simp only [Bool.and_eq_true, beq_iff_eq, Bool.or_eq_true, decide_eq_true_eq, not_and, not_or] at h7
              have := h7 e
              omega
            clear h7
            have hk7 : (((k : Int) == 7) = false) ∨ (((k : Int) == 7) = true ∧ ¬ (a : Int) < 20 ∧ ¬ (23 : Int) < a) := by
              by_cases e : k = 7
              · have := h7' e
                exact .inr ⟨by simp; omega, by omega, by omega⟩
              · exact .inl (by simp; omega)
            clear h7'
            by_cases h24 : a < 24
            · have HR := Px.hid (HR.out.trans (if_pos h24))
              have z24 : (a : Int) < 24 := by omega
              rcases hk7 with zk | ⟨zk, z20, z23⟩
              all_goals
                go_wp2
                refine bodyPost_ret (v := headV (some (k, a, p + 1))) (by simp [results, Tryd.results77, go_sem, headV]) rfl ?_
                rw [HR.out]
                exact ⟨rfl, HX.out.1, HX.out.2⟩
            · have HR := Px.hid (HR.out.trans (if_neg h24))
              have z24 : ¬ (a : Int) < 24 := by omega
              have hwd := widths a (by omega) (by omega)
              have hw8 := Cf.two_pow_le a (by omega)
              have hw1 := Nat.one_le_two_pow (n := a - 24)
              obtain ⟨W, hW⟩ : ∃ W, W = 2 ^ (a - 24) := ⟨_, rfl⟩
              rw [← hW] at hwd hw8 hw1 HR
              clear hW h24
              have zk : ((k : Int) == 7) = false := by
                rcases hk7 with zk | ⟨_, _, z⟩
                · exact zk
                · omega
              clear hk7
              go_wp2_with fail
              go_loopw [11, 12] (fun nn i wr => ∃ j n z, 1 ≤ j ∧ j ≤ W + 1 ∧ i = .int .i64 (j : Nat) ∧ nn = .int .u64 (n : Nat) ∧ Hid (n < 256 ^ (j - 1) ∧ z.out.length ≤ 1000000 ∧ RdRep wr b s lim z vo ∧ Fr (rfoot b vo) w wr ∧ argN s lim W y (p + 1) 0 = argN s lim (W + 1 - j) z (p + j) n)) (fun _ i _ => W + 1 - (intOf i).toNat)
              case atStart => exact ⟨1, 0, y, Nat.le_refl _, by omega, rfl, rfl, Px.hid ⟨by simp, hol2, HX.out.1, HX.out.2, by rw [Nat.add_sub_cancel]⟩⟩
              case round =>
                clear c0 HX
                obtain ⟨j, n, z, hj1, hj2, rfl, rfl, HZ⟩ := hrel
                obtain ⟨hn, hzl, hz, hzf, harg⟩ := HZ.out
                have c0 := hz.rd.cells.1
                by_cases hlt : j ≤ W
                · have hltz : (j : Int) ≤ (W : Int) := by omega
                  have hn7 : n < 72057594037927936 := Nat.lt_of_lt_of_le hn (by have : 256 ^ (j - 1) ≤ 256 ^ 7 := Nat.pow_le_pow_right (by omega) (by omega); simpa using this)
                  have hpj : ((p + j : Nat) : Int) = (p : Int) + j := by omega
                  have hw0 := want_any b _ (p + j) s lim z _ _ wr hz.rd HM.out.1 HM.out.2.1 HM.out.2.2 (by have := HM.out.1; unfold maxLen at *; omega)
                  rw [hpj] at hw0
                  cases hwt : want s lim z (p + j) with
                  | mk wb z2 =>
                    have hzo := want_out s lim z (p + j)
                    rw [hwt] at hw0 hzo
                    have harg2 : argN s lim W y (p + 1) 0 = match (wb, z2) with | (false, u) => (none, u) | (true, u) => argN s lim (W - j) u (p + j + 1) (n * 256 + (s.getD (p + j) 0).toNat) := by
                      rw [harg, show W + 1 - j = (W - j) + 1 by omega]
                      conv => lhs; unfold argN; rw [hwt]
                      rfl
                    cases wb with
                    | false =>
                      have HR := Px.hid (show R7.head s lim x p = (none, z2) by rw [HR.out, harg2])
                      have HW := Px.hid hw0
                      have HZO := Px.hid (And.intro hz (And.intro hzf hzo))
                      clear hwt hw0 hzo harg2 harg hz hzf hn hpj c0
                      go_wp2_with fail
                      refine HW.out.mono ?_
                      rintro e w2 ⟨rfl, hr, hf⟩
                      have HY := Px.hid (And.intro (HZO.out.1.step hr hf HZO.out.2.2) (HZO.out.2.1.trans (It.foot (vo := vo) hf) (fun _ _ h => h)))
                      clear hr hf
                      go_wp2
                      refine bodyPost_ret (v := headV none) (by simp [results, Tryd.results77, go_sem, headV]) rfl ?_
                      rw [HR.out]
                      exact ⟨rfl, HY.out.1, HY.out.2⟩
                    | true =>
                      obtain ⟨hps2, hpb2, hyt⟩ := want_true hwt
                      clear hyt
                      obtain ⟨d, hd⟩ : ∃ d, d = (s.getD (p + j) 0).toNat := ⟨_, rfl⟩
                      have hdb : d < 256 := by rw [hd]; exact UInt8.toNat_lt _
                      have hixj : ∀ w, (Instr.index 9 (S s) (.int .i64 ((p : Int) + j))).run Tryd.prog w = .ok (.int .u8 (d : Nat)) w := fun w => by rw [hd, ← hpj]; exact idx_S s (p + j) hps2 w
                      rw [← hd] at harg2
                      have HN := Px.hid (And.intro (show n * 256 + d < 256 ^ (j + 1 - 1) by rw [Nat.add_sub_cancel, show j = (j - 1) + 1 by omega, Nat.pow_succ]; omega) harg2)
                      have HW := Px.hid hw0
                      have HZO := Px.hid (And.intro hz (And.intro hzf hzo))
                      have hwa : IntKind.u64.wrap ((n : Int) * 256) = (n : Int) * 256 := IntWalk.u64_in _ ⟨by omega, by omega⟩
                      have hwb : IntKind.u64.wrap ((n : Int) * 256 + d) = (n : Int) * 256 + d := IntWalk.u64_in _ ⟨by omega, by omega⟩
                      clear hwt hw0 hzo harg2 harg hz hzf hn hd c0 hn7
                      go_wp2_with fail
                      refine HW.out.mono ?_
                      rintro e w2 ⟨rfl, hr, hf⟩
                      have hst := HZO.out.1.step hr hf HZO.out.2.2
                      have c0 := hst.rd.cells.1
                      have HY := Px.hid (And.intro hst (HZO.out.2.1.trans (It.foot (vo := vo) hf) (fun _ _ h => h)))
                      clear hr hf hst
                      go_wp2
                      go_roundw
                      case rel => exact ⟨j + 1, n * 256 + d, z2, by omega, by omega, by go_num, by go_num, Px.hid ⟨HN.out.1, by rw [HZO.out.2.2]; exact HZ.out.2.1, HY.out.1, HY.out.2, by rw [HN.out.2]; rw [show W - j = W + 1 - (j + 1) by omega, Nat.add_assoc]⟩⟩
                      case measure => simp [intOf]; omega
                · have hltz : ¬ (j : Int) ≤ (W : Int) := by omega
                  have hje : j = W + 1 := by omega
                  have HA := Px.hid (show argN s lim W y (p + 1) 0 = (some n, z) by rw [harg, show W + 1 - j = 0 by omega]; rfl)
                  have HZO := Px.hid (And.intro hz hzf)
                  have hn64 : n < 18446744073709551616 := Nat.lt_of_lt_of_le hn (Cf.pow256_le _ (by omega))
                  have HN := Px.hid hn64
                  clear harg hz hzf hn hn64 hje hlt HZ
                  go_wp2_with fail
                  refine (head17_any k n _ hk8 HN.out).mono ?_
                  rintro e w2 ⟨rfl, hs2⟩
                  have HY := Px.hid (And.intro (HZO.out.1.same hs2) (HZO.out.2.trans (hs2.fr (rfoot b vo)) (fun _ _ h => h)))
                  have hsz : (ByteArray.mk (headB k n).toArray).size = (headB k n).length := size_S _
                  clear hs2 c0
                  by_cases hlen : (headB k n).length = W + 1
                  · have HR := Px.hid (show R7.head s lim x p = (some (k, n, p + 1 + W), z) by rw [HR.out, HA.out]; simp only; rw [if_pos hlen])
                    have zl : (((headB k n).length : Int) == (W : Int) + 1) = true := by simp; omega
                    have zl2 : (((headB k n).length : Int) != (W : Int) + 1) = false := by simp; omega
                    clear hlen
                    go_wp2
                    refine bodyPost_ret (v := headV (some (k, n, p + 1 + W))) (by simp [results, Tryd.results77, go_sem, headV]) rfl ?_
                    rw [HR.out]
                    exact ⟨rfl, HY.out.1, HY.out.2⟩
                  · have HR := Px.hid (show R7.head s lim x p = (none, fault z p 9) by rw [HR.out, HA.out]; simp only; rw [if_neg hlen])
                    have zl : (((headB k n).length : Int) == (W : Int) + 1) = false := by simp; omega
                    have zl2 : (((headB k n).length : Int) != (W : Int) + 1) = true := by simp; omega
                    clear hlen
                    go_wp2_with fail
                    refine (xfault_any b _ p 9 s lim z _ _ _ HY.out.1.rd).mono ?_
                    rintro e w3 ⟨rfl, hr, hf⟩
                    have HY2 := Px.hid (And.intro (HY.out.1.step hr hf rfl) (HY.out.2.trans (It.foot (vo := vo) hf) (fun _ _ h => h)))
                    clear hr hf
                    go_wp2
                    refine bodyPost_ret (v := headV none) (by simp [results, Tryd.results77, go_sem, headV]) rfl ?_
                    rw [HR.out]
                    exact ⟨rfl, HY2.out.1, HY2.out.2⟩
end Go.Proofs.YtddiabaagpmkgaaDoor
