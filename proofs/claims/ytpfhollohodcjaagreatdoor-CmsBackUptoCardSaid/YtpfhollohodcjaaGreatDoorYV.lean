/-
  Several texts in one: The walk over the reference's Same (printed by gen_cqm.py).
-/
import Derived.Test.YtpfhollohodcjaaGreatDoorYT
/-! The walk over the reference's Same (printed by gen_cqm.py). -/
namespace Go.Proofs.YtpfhollohodcjaaGreatDoor
open Go.RowKit Go.Px Go.Px.Co
/-- Two envelopes, boxed. -/
structure SmS (w wx : World) (X Y : Array Value) : Prop where
  same : Same w wx
  a : Blk wx w.heap.size X 27
  b : Blk wx (w.heap.size + 1) Y 27
theorem SmS.sm {w wx wy : World} {X Y : Array Value} (h : SmS w wx X Y) (hs : Same wx wy) : SmS w wy X Y := ⟨h.same.trans hs, h.a.fr hs (fun x => x), h.b.fr hs (fun x => x)⟩
theorem run_eql_rec (x : Rec) (w : World) : (binOp .neq 78 (.agg #[.int .i64 x.way, .int .i64 x.size, .int .i64 x.kind, S x.name, S x.key, S x.salt, .int .i64 x.rounds, S x.iv, S x.loose]) (.agg #[.int .i64 x.way, .int .i64 x.size, .int .i64 x.kind, S x.name, S x.key, S x.salt, .int .i64 x.rounds, S x.iv, S x.loose])).run Tryz.prog w = .ok (.bool false) w := by
  rw [run_neq_struct, run_equalIn_struct w 9999 _ _ _ (by kernel_rfl) (by kernel_rfl)]
  simp only [Program.fieldsOf, Tryz.underlying78]
  go_simp
set_option maxRecDepth 100000 in
set_option maxHeartbeats 20000000 in
theorem rsame_any (x y : Env) (va vb : Value) (w : World) (ha : Lies w 9 cRec va x.to) (hb : Lies w 9 cRec vb y.to) (hl : x.to.length ≤ 140737488351232) :
    Calls Tryz.prog 12 #[.agg (envC x va), .agg (envC y vb)] w fun e w' => e = .returned (.bool (decide (x = y))) ∧ Same w w' := by
  obtain ⟨aa, ac, rfl, _, _⟩ := ha.slice
  obtain ⟨ba, bc, rfl, _, _⟩ := hb.slice
  have H := Px.hid (And.intro ha hb)
  clear ha hb
  obtain ⟨D, hD⟩ : ∃ D, D = decide (x = y) := ⟨_, rfl⟩
  rw [← hD]
  have HD := Px.hid hD
  clear hD
  obtain ⟨x0, x1, x2, x3, x4, x5, x6, x7, x8⟩ := x
  obtain ⟨y0, y1, y2, y3, y4, y5, y6, y7, y8⟩ := y
  unfold envC
  simp only at H hl ⊢
  have h0 : SmS w ((w.alloc (.cells #[.int .i64 x0, .int .i64 x1, .slice aa x2.length ac, S x3, S x4, S x5, S x6, S x7, S x8] 27)).alloc (.cells #[.int .i64 y0, .int .i64 y1, .slice ba y2.length bc, S y3, S y4, S y5, S y6, S y7, S y8] 27)) #[.int .i64 x0, .int .i64 x1, .slice aa x2.length ac, S x3, S x4, S x5, S x6, S x7, S x8] #[.int .i64 y0, .int .i64 y1, .slice ba y2.length bc, S y3, S y4, S y5, S y6, S y7, S y8] := ⟨Fr.alloc (Fr.alloc (Fr.refl _ w) _) _, Blk.alloc (blk_new w _ _) _, blk_new1 w _ _ _⟩
  go_enter Tryz.func12, Tryz.ntmps12
  go_upto_region 1 with fail
  generalize ((w.alloc (.cells #[.int .i64 x0, .int .i64 x1, .slice aa x2.length ac, S x3, S x4, S x5, S x6, S x7, S x8] 27)).alloc (.cells #[.int .i64 y0, .int .i64 y1, .slice ba y2.length bc, S y3, S y4, S y5, S y6, S y7, S y8] 27)) = w1 at h0 ⊢
  have H0 := Px.hid h0
  obtain ⟨c0, c1, c2, c3, c4, c5, c6, c7, c8, _⟩ := blk9 h0.a
  obtain ⟨e0, e1, e2, e3, e4, e5, e6, e7, e8, _⟩ := blk9 h0.b
  clear h0
  by_cases hn : x2.length = y2.length
  · have hnz : (x2.length : Int) = (y2.length : Int) := by omega
    have HN := Px.hid hn
    rw [← hn] at e2 H0
    clear hn hnz
    go_wp2
    go_loopg [5] (x2.length + 1) (fun gk t5 wr => ∃ i : Nat, gk + i = x2.length + 1 ∧ i ≤ x2.length ∧ t5 = .int .i64 i ∧ Hid (((x2 = y2) ↔ (x2.drop i = y2.drop i)) ∧ Same w1 wr))
    case atStart => exact ⟨0, rfl, Nat.zero_le _, rfl, Px.hid ⟨Iff.rfl, Same.refl _⟩⟩
    case round =>
      clear c0 c1 c2 c3 c4 c5 c6 c7 c8 e0 e1 e2 e3 e4 e5 e6 e7 e8
      obtain ⟨i, hgk, hi, rfl, HS⟩ := hrel
      have HGK := Px.hid hgk
      clear hgk
      have HW := Px.hid (H0.out.sm HS.out.2)
      obtain ⟨c0, c1, c2, c3, c4, c5, c6, c7, c8, _⟩ := blk9 HW.out.a
      obtain ⟨e0, e1, e2, e3, e4, e5, e6, e7, e8, _⟩ := blk9 HW.out.b
      by_cases hlt : i < x2.length
      · have hltz : (i : Int) < (x2.length : Int) := by omega
        have hlb : i < y2.length := by have := HN.out; omega
        have hA := Lies.same H.out.1 HW.out.same
        have hB := Lies.same H.out.2 HW.out.same
        obtain ⟨xb, xo, xc, hve, _, _⟩ := hA.cell i x2[i] (by simp [hlt])
        obtain ⟨yb, yo, yc, hve2, _, _⟩ := hB.cell i y2[i] (by simp [hlb])
        simp only [Value.slice.injEq, true_and] at hve hve2
        obtain ⟨rfl, rfl⟩ := hve
        obtain ⟨rfl, rfl⟩ := hve2
        obtain ⟨q0, q1, q2, q3, q4, q5, q6, q7, q8⟩ := lies_rec hA i hlt
        obtain ⟨r0, r1, r2, r3, r4, r5, r6, r7, r8⟩ := lies_rec hB i hlb
        have hst := drop_eq_step x2 y2 i hlt hlb
        obtain ⟨x, hx⟩ : ∃ x, x = x2[i] := ⟨_, rfl⟩
        obtain ⟨y, hy⟩ : ∃ y, y = y2[i] := ⟨_, rfl⟩
        rw [← hx] at q0 q1 q2 q3 q4 q5 q6 q7 q8 hst
        rw [← hy] at r0 r1 r2 r3 r4 r5 r6 r7 r8 hst
        have HST := Px.hid hst
        clear hx hy hst hA hB
        by_cases hxy : x = y
        · subst hxy
          have HE := Px.hid (show (x2 = y2) ↔ (x2.drop (i + 1) = y2.drop (i + 1)) from HS.out.1.trans (HST.out.trans ⟨fun h => h.2, fun h => ⟨rfl, h⟩⟩))
          have heq := fun W => run_eql_rec x W
          go_wp2_with fail
          go_quiet (fail)
          go_wp2
          go_roundg (x2.length - i)
          case measure => have := HGK.out; omega
          case rel => exact ⟨i + 1, by omega, by omega, by go_num, Px.hid ⟨HE.out, Fr.drewN HS.out.2 _⟩⟩
        · have HE := Px.hid (show ¬ x2 = y2 from fun h => hxy (HST.out.1 (HS.out.1.1 h)).1)
          have HF : Hid (D = false) := Px.hid (by rw [HD.out]; exact decide_eq_false (fun e => HE.out (congrArg Env.«to» e)))
          have hne := fun W => run_neq_rec hxy W
          clear hxy
          go_wp2_with fail
          go_quiet (fail)
          go_wp2
          go_ret
          rw [HF.out]
          exact ⟨rfl, Fr.drewN HW.out.same _⟩
      · have hltz : ¬ (i : Int) < (x2.length : Int) := by omega
        have HE : x2 = y2 := HS.out.1.2 (by rw [List.drop_of_length_le (by omega), List.drop_of_length_le (by have := HN.out; omega)])
        subst HE
        have HWS := Px.hid HW.out.same
        clear HW H0 H HS HN HGK
        by_cases h0 : x0 = y0
        · subst h0
          by_cases h1 : x1 = y1
          · subst h1
            by_cases h3 : x3 = y3
            · subst h3
              by_cases h4 : x4 = y4
              · subst h4
                by_cases h5 : x5 = y5
                · subst h5
                  by_cases h6 : x6 = y6
                  · subst h6
                    by_cases h7 : x7 = y7
                    · subst h7
                      by_cases h8 : x8 = y8
                      · subst h8
                        have HF : Hid (D = true) := Px.hid (by rw [HD.out]; exact decide_eq_true rfl)
                        go_wp2_with fail
                        try go_quiet (fail)
                        go_wp2
                        go_ret
                        rw [HF.out]
                        exact ⟨by first | rfl | simp, by first | exact HWS.out | exact Fr.drewN HWS.out _⟩
                      · have HF : Hid (D = false) := Px.hid (by rw [HD.out]; exact decide_eq_false (fun e => h8 (congrArg Env.tag e)))
                        have b8 : (x8 == y8) = false := by simpa using h8
                        have b8n : ¬ x8 = y8 := h8
                        clear h8
                        go_wp2_with fail
                        try go_quiet (fail)
                        go_wp2
                        go_ret
                        rw [HF.out]
                        exact ⟨by first | rfl | simp, by first | exact HWS.out | exact Fr.drewN HWS.out _⟩
                    · have HF : Hid (D = false) := Px.hid (by rw [HD.out]; exact decide_eq_false (fun e => h7 (congrArg Env.cipher e)))
                      have b7 : (x7 == y7) = false := by simpa using h7
                      have b7n : ¬ x7 = y7 := h7
                      clear h7
                      go_wp2_with fail
                      try go_quiet (fail)
                      go_wp2
                      go_ret
                      rw [HF.out]
                      exact ⟨by first | rfl | simp, by first | exact HWS.out | exact Fr.drewN HWS.out _⟩
                  · have HF : Hid (D = false) := Px.hid (by rw [HD.out]; exact decide_eq_false (fun e => h6 (congrArg Env.iv e)))
                    have b6 : (x6 == y6) = false := by simpa using h6
                    have b6n : ¬ x6 = y6 := h6
                    clear h6
                    go_wp2_with fail
                    try go_quiet (fail)
                    go_wp2
                    go_ret
                    rw [HF.out]
                    exact ⟨by first | rfl | simp, by first | exact HWS.out | exact Fr.drewN HWS.out _⟩
                · have HF : Hid (D = false) := Px.hid (by rw [HD.out]; exact decide_eq_false (fun e => h5 (congrArg Env.aad e)))
                  have b5 : (x5 == y5) = false := by simpa using h5
                  have b5n : ¬ x5 = y5 := h5
                  clear h5
                  go_wp2_with fail
                  try go_quiet (fail)
                  go_wp2
                  go_ret
                  rw [HF.out]
                  exact ⟨by first | rfl | simp, by first | exact HWS.out | exact Fr.drewN HWS.out _⟩
              · have HF : Hid (D = false) := Px.hid (by rw [HD.out]; exact decide_eq_false (fun e => h4 (congrArg Env.loose e)))
                have b4 : (x4 == y4) = false := by simpa using h4
                have b4n : ¬ x4 = y4 := h4
                clear h4
                go_wp2_with fail
                try go_quiet (fail)
                go_wp2
                go_ret
                rw [HF.out]
                exact ⟨by first | rfl | simp, by first | exact HWS.out | exact Fr.drewN HWS.out _⟩
            · have HF : Hid (D = false) := Px.hid (by rw [HD.out]; exact decide_eq_false (fun e => h3 (congrArg Env.header e)))
              have b3 : (x3 == y3) = false := by simpa using h3
              have b3n : ¬ x3 = y3 := h3
              clear h3
              go_wp2_with fail
              try go_quiet (fail)
              go_wp2
              go_ret
              rw [HF.out]
              exact ⟨by first | rfl | simp, by first | exact HWS.out | exact Fr.drewN HWS.out _⟩
          · have HF : Hid (D = false) := Px.hid (by rw [HD.out]; exact decide_eq_false (fun e => h1 (congrArg Env.alg e)))
            have b1 : (x1 == y1) = false := by simpa using h1
            have b1n : ¬ x1 = y1 := h1
            clear h1
            go_wp2_with fail
            try go_quiet (fail)
            go_wp2
            go_ret
            rw [HF.out]
            exact ⟨by first | rfl | simp, by first | exact HWS.out | exact Fr.drewN HWS.out _⟩
        · have HF : Hid (D = false) := Px.hid (by rw [HD.out]; exact decide_eq_false (fun e => h0 (congrArg Env.fmt e)))
          have b0 : (x0 == y0) = false := by simpa using h0
          have b0n : ¬ x0 = y0 := h0
          clear h0
          go_wp2_with fail
          try go_quiet (fail)
          go_wp2
          go_ret
          rw [HF.out]
          exact ⟨by first | rfl | simp, by first | exact HWS.out | exact Fr.drewN HWS.out _⟩
  · have hnz : ¬ (x2.length : Int) = (y2.length : Int) := by omega
    have hnz2 : ((x2.length : Int) != (y2.length : Int)) = true := by simp only [bne_iff_ne, ne_eq]; omega
    have HF : Hid (D = false) := Px.hid (by rw [HD.out]; exact decide_eq_false (fun e => hn (congrArg (fun e => (Env.«to» e).length) e)))
    clear hn
    go_wp2
    go_ret
    rw [HF.out]
    exact ⟨rfl, H0.out.same⟩
end Go.Proofs.YtpfhollohodcjaaGreatDoor
