/-
 Several texts in one: The walk over the reference's Tell (layer 25; printed by gen_cqn.py). The walk over the statement CoseTells (layer 25).
-/
import Derived.Test.YtddiabaagpmkgaaDoorCP
import Derived.Test.YtddiabaagpmkgaaDoorCH
import Derived.Test.YtddiabaagpmkgaaDoorAdS
import Derived.Test.YtddiabaagpmkgaaDoorCH
import Derived.BigRegion
import Derived.Test.YtddiabaagpmkgaaDoorCL
/-! The walk over the reference's Tell (layer 25; printed by gen_cqn.py). -/
namespace Go.Proofs.YtddiabaagpmkgaaDoor
open Go.RowKit Go.Px Go.Px.E7 Go.Px.Co
set_option maxRecDepth 100000 in
set_option maxHeartbeats 20000000 in
theorem rtell_any (x : Env) (vto : Value) (w : World) (hto : Lies w 9 cRec vto x.to) (htl : x.to.length ≤ 140737488351232) :
  Calls Tryd.prog 15 #[.agg (envC x vto)] w fun e w' => e = .returned (.tuple #[S (tellR x).1, .int .i64 (tellR x).2]) ∧ Same w w' := by
 obtain ⟨ta, tc, rfl, _, _⟩ := hto.slice
 have HTO := Px.hid (And.intro hto htl)
 have HP := Px.hid (show tellR x = if 300000 < x.header.length ∨ 300000 < x.loose.length ∨ 70000 < x.cipher.length ∨ 64 < x.tag.length then ([], 2)
  else if (Co.read (bytesOf x) Co.most).2 ≠ 0 ∨ x ≠ (Co.read (bytesOf x) Co.most).1 then ([], 2) else (bytesOf x, 0) from rfl)
 clear hto htl
 obtain ⟨T, hT⟩ : ∃ T, T = tellR x := ⟨_, rfl⟩
 rw [← hT] at HP ⊢
 clear hT
 have h0 : Blk (w.alloc (.cells #[.int .i64 x.fmt, .int .i64 x.alg, .slice ta x.to.length tc, S x.header, S x.loose, S x.aad, S x.iv, S x.cipher, S x.tag] 27)) w.heap.size #[.int .i64 x.fmt, .int .i64 x.alg, .slice ta x.to.length tc, S x.header, S x.loose, S x.aad, S x.iv, S x.cipher, S x.tag] 27 := blk_new w _ _
 have hs0 : Same w (w.alloc (.cells #[.int .i64 x.fmt, .int .i64 x.alg, .slice ta x.to.length tc, S x.header, S x.loose, S x.aad, S x.iv, S x.cipher, S x.tag] 27)) := Fr.alloc (Fr.refl _ w) _
 unfold envC
 go_enter Tryd.func15, Tryd.ntmps15
 go_upto_region 1 with fail
 generalize (w.alloc (.cells #[.int .i64 x.fmt, .int .i64 x.alg, .slice ta x.to.length tc, S x.header, S x.loose, S x.aad, S x.iv, S x.cipher, S x.tag] 27)) = w1 at h0 hs0 ⊢
 have HX := Px.hid h0
 have HS := Px.hid hs0
 obtain ⟨c0, c1, c2, c3, c4, c5, c6, c7, c8, _⟩ := blk9 h0
 have hwl := h0.lt
 clear h0 hs0
 by_cases h0 : 300000 < x.header.length
 ·have z0 : (300000 : Int) < (x.header.length : Int) := by omega
  have HE : Hid (T = ([], 2)) := Px.hid (by rw [HP.out, if_pos (.inl h0)])
  clear h0
  go_wp2_with fail
  try go_quiet (fail)
  go_wp2
  go_ret2
  rw [HE.out]
  exact ⟨rfl, by first | exact HS.out | exact Fr.drewN HS.out _⟩
 ·have z0 : ¬ (300000 : Int) < (x.header.length : Int) := by omega
  by_cases h1 : 300000 < x.loose.length
  ·have z1 : (300000 : Int) < (x.loose.length : Int) := by omega
   have HE : Hid (T = ([], 2)) := Px.hid (by rw [HP.out, if_pos (.inr (.inl h1))])
   clear h0 h1
   go_wp2_with fail
   try go_quiet (fail)
   go_wp2
   go_ret2
   rw [HE.out]
   exact ⟨rfl, by first | exact HS.out | exact Fr.drewN HS.out _⟩
  ·have z1 : ¬ (300000 : Int) < (x.loose.length : Int) := by omega
   by_cases h2 : 70000 < x.cipher.length
   ·have z2 : (70000 : Int) < (x.cipher.length : Int) := by omega
    have HE : Hid (T = ([], 2)) := Px.hid (by rw [HP.out, if_pos (.inr (.inr (.inl h2)))])
    clear h0 h1 h2
    go_wp2_with fail
    try go_quiet (fail)
    go_wp2
    go_ret2
    rw [HE.out]
    exact ⟨rfl, by first | exact HS.out | exact Fr.drewN HS.out _⟩
   ·have z2 : ¬ (70000 : Int) < (x.cipher.length : Int) := by omega
    by_cases h3 : 64 < x.tag.length
    ·have z3 : (64 : Int) < (x.tag.length : Int) := by omega
     have HE : Hid (T = ([], 2)) := Px.hid (by rw [HP.out, if_pos (.inr (.inr (.inr (h3))))])
     clear h0 h1 h2 h3
     go_wp2_with fail
     try go_quiet (fail)
     go_wp2
     go_ret2
     rw [HE.out]
     exact ⟨rfl, by first | exact HS.out | exact Fr.drewN HS.out _⟩
    ·have z3 : ¬ (64 : Int) < (x.tag.length : Int) := by omega
     have HP2 : Hid (T = if (Co.read (bytesOf x) Co.most).2 ≠ 0 ∨ x ≠ (Co.read (bytesOf x) Co.most).1 then ([], 2) else (bytesOf x, 0)) := Px.hid (by
      rw [HP.out, if_neg (by rintro (e | e | e | e); exact h0 e; exact h1 e; exact h2 e; exact h3 e)])
     clear HP
     obtain ⟨CT, hCT⟩ : ∃ C, C = x.cipher ++ x.tag := ⟨_, rfl⟩
     have lCT : CT.length = x.cipher.length + x.tag.length := by rw [hCT, List.length_append]
     have fCT : ∀ W : World, (Op.stringOp .add ⟨x.cipher.toArray⟩ ⟨x.tag.toArray⟩).run Tryd.prog W = .ok (.string ⟨CT.toArray⟩) W := fun W => add_S _ _ CT hCT (by omega) W
     obtain ⟨B1, hB1⟩ : ∃ B, B = bytesI x.header := ⟨_, rfl⟩
     have HB1 := Px.hid (show ∀ W, Calls Tryd.prog 30 #[S x.header] W fun e w' => e = .returned (S B1) ∧ Same W w' from fun W => by rw [hB1]; exact rbytes_any _ W (by first | omega | (rw [List.length_append]; omega)))
     have hb1 := bytesI_le x.header (by first | omega | (rw [List.length_append]; omega))
     rw [← hB1] at hb1
     obtain ⟨B2, hB2⟩ : ∃ B, B = bytesI x.cipher := ⟨_, rfl⟩
     have HB2 := Px.hid (show ∀ W, Calls Tryd.prog 30 #[S x.cipher] W fun e w' => e = .returned (S B2) ∧ Same W w' from fun W => by rw [hB2]; exact rbytes_any _ W (by first | omega | (rw [List.length_append]; omega)))
     have hb2 := bytesI_le x.cipher (by first | omega | (rw [List.length_append]; omega))
     rw [← hB2] at hb2
     obtain ⟨B3, hB3⟩ : ∃ B, B = bytesI x.tag := ⟨_, rfl⟩
     have HB3 := Px.hid (show ∀ W, Calls Tryd.prog 30 #[S x.tag] W fun e w' => e = .returned (S B3) ∧ Same W w' from fun W => by rw [hB3]; exact rbytes_any _ W (by first | omega | (rw [List.length_append]; omega)))
     have hb3 := bytesI_le x.tag (by first | omega | (rw [List.length_append]; omega))
     rw [← hB3] at hb3
     obtain ⟨B4, hB4⟩ : ∃ B, B = bytesI CT := ⟨_, rfl⟩
     have HB4 := Px.hid (show ∀ W, Calls Tryd.prog 30 #[S CT] W fun e w' => e = .returned (S B4) ∧ Same W w' from fun W => by rw [hB4]; exact rbytes_any _ W (by first | omega | (rw [List.length_append]; omega)))
     have hb4 := bytesI_le CT (by first | omega | (rw [List.length_append]; omega))
     rw [← hB4] at hb4
     obtain ⟨A1, hA1⟩ : ∃ C, C = ([208, 131] : Bytes) ++ B1 := ⟨_, rfl⟩
     have lA1 : A1.length = 2 + B1.length := by rw [hA1, List.length_append]; first | done | rfl
     have fA1 : ∀ W : World, (Op.stringOp .add ⟨#[208, 131]⟩ ⟨(B1).toArray⟩).run Tryd.prog W = .ok (.string ⟨A1.toArray⟩) W := fun W => add_S ([208, 131] : Bytes) B1 A1 hA1 (by first | omega | (simp only [List.length_cons, List.length_nil]; omega)) W
     obtain ⟨A2, hA2⟩ : ∃ C, C = A1 ++ x.loose := ⟨_, rfl⟩
     have lA2 : A2.length = A1.length + x.loose.length := by rw [hA2, List.length_append]; first | done | rfl
     have fA2 : ∀ W : World, (Op.stringOp .add ⟨(A1).toArray⟩ ⟨(x.loose).toArray⟩).run Tryd.prog W = .ok (.string ⟨A2.toArray⟩) W := fun W => add_S A1 x.loose A2 hA2 (by first | omega | (simp only [List.length_cons, List.length_nil]; omega)) W
     obtain ⟨A3, hA3⟩ : ∃ C, C = A2 ++ B4 := ⟨_, rfl⟩
     have lA3 : A3.length = A2.length + B4.length := by rw [hA3, List.length_append]; first | done | rfl
     have fA3 : ∀ W : World, (Op.stringOp .add ⟨(A2).toArray⟩ ⟨(B4).toArray⟩).run Tryd.prog W = .ok (.string ⟨A3.toArray⟩) W := fun W => add_S A2 B4 A3 hA3 (by first | omega | (simp only [List.length_cons, List.length_nil]; omega)) W
     have HNA := Px.hid (show A3.length ≤ 140737488351232 by omega)
     have HEA := Px.hid (fun hf : ¬ x.fmt = 6 => (show bytesOf x = A3 by rw [hA3, hA2, hA1, hB1, hB4, hCT]; unfold bytesOf; rw [if_neg hf]))
     obtain ⟨M1, hM1⟩ : ∃ C, C = ([209, 132] : Bytes) ++ B1 := ⟨_, rfl⟩
     have lM1 : M1.length = 2 + B1.length := by rw [hM1, List.length_append]; first | done | rfl
     have fM1 : ∀ W : World, (Op.stringOp .add ⟨#[209, 132]⟩ ⟨(B1).toArray⟩).run Tryd.prog W = .ok (.string ⟨M1.toArray⟩) W := fun W => add_S ([209, 132] : Bytes) B1 M1 hM1 (by first | omega | (simp only [List.length_cons, List.length_nil]; omega)) W
     obtain ⟨M2, hM2⟩ : ∃ C, C = M1 ++ x.loose := ⟨_, rfl⟩
     have lM2 : M2.length = M1.length + x.loose.length := by rw [hM2, List.length_append]; first | done | rfl
     have fM2 : ∀ W : World, (Op.stringOp .add ⟨(M1).toArray⟩ ⟨(x.loose).toArray⟩).run Tryd.prog W = .ok (.string ⟨M2.toArray⟩) W := fun W => add_S M1 x.loose M2 hM2 (by first | omega | (simp only [List.length_cons, List.length_nil]; omega)) W
     obtain ⟨M3, hM3⟩ : ∃ C, C = M2 ++ B2 := ⟨_, rfl⟩
     have lM3 : M3.length = M2.length + B2.length := by rw [hM3, List.length_append]; first | done | rfl
     have fM3 : ∀ W : World, (Op.stringOp .add ⟨(M2).toArray⟩ ⟨(B2).toArray⟩).run Tryd.prog W = .ok (.string ⟨M3.toArray⟩) W := fun W => add_S M2 B2 M3 hM3 (by first | omega | (simp only [List.length_cons, List.length_nil]; omega)) W
     obtain ⟨M4, hM4⟩ : ∃ C, C = M3 ++ B3 := ⟨_, rfl⟩
     have lM4 : M4.length = M3.length + B3.length := by rw [hM4, List.length_append]; first | done | rfl
     have fM4 : ∀ W : World, (Op.stringOp .add ⟨(M3).toArray⟩ ⟨(B3).toArray⟩).run Tryd.prog W = .ok (.string ⟨M4.toArray⟩) W := fun W => add_S M3 B3 M4 hM4 (by first | omega | (simp only [List.length_cons, List.length_nil]; omega)) W
     have HNM := Px.hid (show M4.length ≤ 140737488351232 by omega)
     have HEM := Px.hid (fun hf : x.fmt = 6 => (show bytesOf x = M4 by rw [hM4, hM3, hM2, hM1, hB1, hB2, hB3]; unfold bytesOf; rw [if_pos hf]))
     have HSW := Px.hid HS.out
     clear h0 h1 h2 h3 hb1 hb2 hb3 hb4 hCT lCT hB1 hB2 hB3 hB4 hA1 lA1 hA2 lA2 hA3 lA3 hM1 lM1 hM2 lM2 hM3 lM3 hM4 lM4
     replace HS := Px.hid (Same.refl w1)
     go_upto_region 3 with fail
     clear z0 z1 z2 z3
     go_cut [4] (fun t4 wx => t4 = S A3 ∧ Same w1 wx)
     case first =>
      obtain ⟨SS, hSS⟩ : ∃ SS : World → Prop, SS = (fun W : World => W.cell? ⟨w.heap.size, 3, none⟩ = some (S x.header) ∧ W.cell? ⟨w.heap.size, 4, none⟩ = some (S x.loose) ∧ W.cell? ⟨w.heap.size, 7, none⟩ = some (S x.cipher) ∧ W.cell? ⟨w.heap.size, 8, none⟩ = some (S x.tag)) := ⟨_, rfl⟩
      have hS0 : SS w1.drew := by rw [hSS]; exact ⟨c3, c4, c7, c8⟩
      refine wp_region_held_drew (S := SS) (by kernel_rfl) hS0 (fun hHeld => ?_)
      refine wpAnyH_take (i := 0) (v := ?_) rfl (by kernel_rfl) (by kernel_rfl) (by kernel_rfl) (fun _ _ _ h => h) (Or.inl ⟨by rfl, ?_⟩) (by assumption) ?_
      rotate_left
      ·intro w hw
       rw [hSS] at hw
       obtain ⟨q3, q4, q7, q8⟩ := hw
       go_simp
       try (with_reducible rfl)
      change wpAnyH _ _ _ _ _ _ _ (Act.put _ (some 29) _) _
      simp only [Act.put, List.setIfInBounds_toArray, List.set_cons_zero, List.set_cons_succ]
      refine wpAnyH_take (i := 1) (v := ?_) rfl (by kernel_rfl) (by kernel_rfl) (by kernel_rfl) (fun _ _ _ h => h) (Or.inl ⟨by rfl, ?_⟩) (by assumption) ?_
      rotate_left
      ·intro w hw
       rw [hSS] at hw
       obtain ⟨q3, q4, q7, q8⟩ := hw
       go_simp
       try (with_reducible rfl)
      change wpAnyH _ _ _ _ _ _ _ (Act.put _ (some 30) _) _
      simp only [Act.put, List.setIfInBounds_toArray, List.set_cons_zero, List.set_cons_succ]
      refine wpAnyH_take (i := 4) (v := ?_) rfl (by kernel_rfl) (by kernel_rfl) (by kernel_rfl) (fun _ _ _ h => h) (Or.inl ⟨by rfl, ?_⟩) (by assumption) ?_
      rotate_left
      ·intro w hw
       rw [hSS] at hw
       obtain ⟨q3, q4, q7, q8⟩ := hw
       go_simp
       try (with_reducible rfl)
      change wpAnyH _ _ _ _ _ _ _ (Act.put _ (some 33) _) _
      simp only [Act.put, List.setIfInBounds_toArray, List.set_cons_zero, List.set_cons_succ]
      refine wpAnyH_take (i := 5) (v := ?_) rfl (by kernel_rfl) (by kernel_rfl) (by kernel_rfl) (fun _ _ _ h => h) (Or.inl ⟨by rfl, ?_⟩) (by assumption) ?_
      rotate_left
      ·intro w hw
       rw [hSS] at hw
       obtain ⟨q3, q4, q7, q8⟩ := hw
       go_simp
       try (with_reducible rfl)
      change wpAnyH _ _ _ _ _ _ _ (Act.put _ (some 34) _) _
      simp only [Act.put, List.setIfInBounds_toArray, List.set_cons_zero, List.set_cons_succ]
      refine wpAnyH_take (i := 7) (v := ?_) rfl (by kernel_rfl) (by kernel_rfl) (by kernel_rfl) (fun _ _ _ h => h) (Or.inl ⟨by rfl, ?_⟩) (by assumption) ?_
      rotate_left
      ·intro w hw
       rw [hSS] at hw
       obtain ⟨q3, q4, q7, q8⟩ := hw
       go_simp
       try (with_reducible rfl)
      change wpAnyH _ _ _ _ _ _ _ (Act.put _ (some 36) _) _
      simp only [Act.put, List.setIfInBounds_toArray, List.set_cons_zero, List.set_cons_succ]
      refine wpAnyH_take (i := 8) (v := ?_) rfl (by kernel_rfl) (by kernel_rfl) (by kernel_rfl) (fun _ _ _ h => h) (Or.inl ⟨by rfl, ?_⟩) (by assumption) ?_
      rotate_left
      ·intro w hw
       rw [hSS] at hw
       obtain ⟨q3, q4, q7, q8⟩ := hw
       go_simp
       try (with_reducible rfl)
      change wpAnyH _ _ _ _ _ _ _ (Act.put _ (some 37) _) _
      simp only [Act.put, List.setIfInBounds_toArray, List.set_cons_zero, List.set_cons_succ]
      refine wpAnyH_take (i := 9) (v := ?_) rfl (by kernel_rfl) (by kernel_rfl) (by kernel_rfl) (fun _ _ _ h => h) (Or.inl ⟨by rfl, ?_⟩) (by assumption) ?_
      rotate_left
      ·intro w hw
       rw [hSS] at hw
       obtain ⟨q3, q4, q7, q8⟩ := hw
       go_simp
       try (with_reducible rfl)
      change wpAnyH _ _ _ _ _ _ _ (Act.put _ (some 38) _) _
      simp only [Act.put, List.setIfInBounds_toArray, List.set_cons_zero, List.set_cons_succ]
      refine wpAnyH_take (i := 10) (v := ?_) rfl (by kernel_rfl) (by kernel_rfl) (by kernel_rfl) (fun _ _ _ h => h) (Or.inl ⟨by rfl, ?_⟩) (by assumption) ?_
      rotate_left
      ·intro w hw
       rw [hSS] at hw
       obtain ⟨q3, q4, q7, q8⟩ := hw
       go_simp
       try (with_reducible rfl)
      change wpAnyH _ _ _ _ _ _ _ (Act.put _ (some 39) _) _
      simp only [Act.put, List.setIfInBounds_toArray, List.set_cons_zero, List.set_cons_succ]
      refine wpAnyH_take (i := 11) (v := ?_) rfl (by kernel_rfl) (by kernel_rfl) (by kernel_rfl) (fun _ _ _ h => h) (Or.inl ⟨by rfl, ?_⟩) (by assumption) ?_
      rotate_left
      ·intro w hw
       rw [hSS] at hw
       obtain ⟨q3, q4, q7, q8⟩ := hw
       go_simp
       try (with_reducible rfl)
      change wpAnyH _ _ _ _ _ _ _ (Act.put _ (some 40) _) _
      simp only [Act.put, List.setIfInBounds_toArray, List.set_cons_zero, List.set_cons_succ]
      refine wpAnyH_ready (rs := [2]) (by kernel_rfl) (by simp) ?_
      refine AllReadyH.cons rfl (fun K hK => ?_) AllReadyH.nil
      go_simp
      refine (HB1.out _).mono ?_
      rintro e wa ⟨rfl, ha⟩
      refine Shut.out hK _ _ ?_ (fun hHeld => ?_)
      ·rw [hSS]
       have hh := hHeld
       rw [hSS] at hh
       exact ⟨(ha.cell (p := ⟨w.heap.size, 3, none⟩) (World.block_lt_of_cell? _ _ hh.1) (fun x => x)).trans hh.1, (ha.cell (p := ⟨w.heap.size, 4, none⟩) (World.block_lt_of_cell? _ _ hh.2.1) (fun x => x)).trans hh.2.1, (ha.cell (p := ⟨w.heap.size, 7, none⟩) (World.block_lt_of_cell? _ _ hh.2.2.1) (fun x => x)).trans hh.2.2.1, (ha.cell (p := ⟨w.heap.size, 8, none⟩) (World.block_lt_of_cell? _ _ hh.2.2.2) (fun x => x)).trans hh.2.2.2⟩
      clear hK K
      refine wpAnyH_take (i := 3) (v := ?_) rfl (by kernel_rfl) (by kernel_rfl) (by kernel_rfl) (fun _ _ _ h => h) (Or.inl ⟨by rfl, ?_⟩) (by assumption) ?_
      rotate_left
      ·intro w hw
       rw [hSS] at hw
       obtain ⟨q3, q4, q7, q8⟩ := hw
       go_simp
       try (with_reducible rfl)
      change wpAnyH _ _ _ _ _ _ _ (Act.put _ (some 32) _) _
      simp only [Act.put, List.setIfInBounds_toArray, List.set_cons_zero, List.set_cons_succ]
      refine wpAnyH_take (i := 6) (v := ?_) rfl (by kernel_rfl) (by kernel_rfl) (by kernel_rfl) (fun _ _ _ h => h) (Or.inl ⟨by rfl, ?_⟩) (by assumption) ?_
      rotate_left
      ·intro w hw
       rw [hSS] at hw
       obtain ⟨q3, q4, q7, q8⟩ := hw
       go_simp
       try (with_reducible rfl)
      change wpAnyH _ _ _ _ _ _ _ (Act.put _ (some 35) _) _
      simp only [Act.put, List.setIfInBounds_toArray, List.set_cons_zero, List.set_cons_succ]
      refine wpAnyH_ready (rs := [12]) (by kernel_rfl) (by simp) ?_
      refine AllReadyH.cons rfl (fun K hK => ?_) AllReadyH.nil
      go_simp
      refine (HB4.out _).mono ?_
      rintro e wb ⟨rfl, hb⟩
      refine Shut.out hK _ _ ?_ (fun hHeld => ?_)
      ·rw [hSS]
       have hh := hHeld
       rw [hSS] at hh
       exact ⟨(hb.cell (p := ⟨w.heap.size, 3, none⟩) (World.block_lt_of_cell? _ _ hh.1) (fun x => x)).trans hh.1, (hb.cell (p := ⟨w.heap.size, 4, none⟩) (World.block_lt_of_cell? _ _ hh.2.1) (fun x => x)).trans hh.2.1, (hb.cell (p := ⟨w.heap.size, 7, none⟩) (World.block_lt_of_cell? _ _ hh.2.2.1) (fun x => x)).trans hh.2.2.1, (hb.cell (p := ⟨w.heap.size, 8, none⟩) (World.block_lt_of_cell? _ _ hh.2.2.2) (fun x => x)).trans hh.2.2.2⟩
      clear hK K
      refine wpAnyH_take (i := 13) (v := ?_) rfl (by kernel_rfl) (by kernel_rfl) (by kernel_rfl) (fun _ _ _ h => h) (Or.inl ⟨by rfl, ?_⟩) (by assumption) ?_
      rotate_left
      ·intro w hw
       rw [hSS] at hw
       obtain ⟨q3, q4, q7, q8⟩ := hw
       go_simp
       try (with_reducible rfl)
      change wpAnyH _ _ _ _ _ _ _ (Act.put _ (some 42) _) _
      simp only [Act.put, List.setIfInBounds_toArray, List.set_cons_zero, List.set_cons_succ]
      refine wpAnyH_ready (rs := [14]) (by kernel_rfl) (by simp) ?_
      refine AllReadyH.cons rfl (fun K hK => ?_) AllReadyH.nil
      go_simp
      refine Shut.out hK _ _ ?_ (fun hHeld => ?_)
      ·rw [hSS]
       rw [hSS] at hHeld
       exact hHeld
      clear hK K
      have hso := ha.trans hb
      refine wpAnyH_done (by kernel_rfl) ?_ _
      go_wp2_with fail
      go_meet
      exact ⟨rfl, Same.trans (Fr.drew (Fr.refl _ w1)) hso⟩
     case rest =>
      obtain ⟨rfl, hs⟩ := hcut
      replace HS := Px.hid hs
      clear hs c0 c1 c2 c3 c4 c5 c6 c7 c8
      obtain ⟨c0, c1, c2, c3, c4, c5, c6, c7, c8, _⟩ := blk9 (HX.out.fr HS.out (fun x => x))
      go_upto_if 45 with fail
      go_cut [4] (fun t4 wx => t4 = S (bytesOf x) ∧ Same w1 wx)
      case first =>
       by_cases h6 : x.fmt = 6
       ·have HE := Px.hid (HEM.out h6)
        have h6z : (x.fmt == 6) = true := by simpa using h6
        clear h6
        go_upto_region 5 with fail
        obtain ⟨SS, hSS⟩ : ∃ SS : World → Prop, SS = (fun W : World => W.cell? ⟨w.heap.size, 3, none⟩ = some (S x.header) ∧ W.cell? ⟨w.heap.size, 4, none⟩ = some (S x.loose) ∧ W.cell? ⟨w.heap.size, 7, none⟩ = some (S x.cipher) ∧ W.cell? ⟨w.heap.size, 8, none⟩ = some (S x.tag)) := ⟨_, rfl⟩
        have hS0 : SS wc.drew := by rw [hSS]; exact ⟨c3, c4, c7, c8⟩
        refine wp_region_held_drew (S := SS) (by kernel_rfl) hS0 (fun hHeld => ?_)
        refine wpAnyH_take (i := 0) (v := ?_) rfl (by kernel_rfl) (by kernel_rfl) (by kernel_rfl) (fun _ _ _ h => h) (Or.inl ⟨by rfl, ?_⟩) (by assumption) ?_
        rotate_left
        ·intro w hw
         rw [hSS] at hw
         obtain ⟨q3, q4, q7, q8⟩ := hw
         go_simp
         try (with_reducible rfl)
        change wpAnyH _ _ _ _ _ _ _ (Act.put _ (some 46) _) _
        simp only [Act.put, List.setIfInBounds_toArray, List.set_cons_zero, List.set_cons_succ]
        refine wpAnyH_take (i := 1) (v := ?_) rfl (by kernel_rfl) (by kernel_rfl) (by kernel_rfl) (fun _ _ _ h => h) (Or.inl ⟨by rfl, ?_⟩) (by assumption) ?_
        rotate_left
        ·intro w hw
         rw [hSS] at hw
         obtain ⟨q3, q4, q7, q8⟩ := hw
         go_simp
         try (with_reducible rfl)
        change wpAnyH _ _ _ _ _ _ _ (Act.put _ (some 47) _) _
        simp only [Act.put, List.setIfInBounds_toArray, List.set_cons_zero, List.set_cons_succ]
        refine wpAnyH_take (i := 4) (v := ?_) rfl (by kernel_rfl) (by kernel_rfl) (by kernel_rfl) (fun _ _ _ h => h) (Or.inl ⟨by rfl, ?_⟩) (by assumption) ?_
        rotate_left
        ·intro w hw
         rw [hSS] at hw
         obtain ⟨q3, q4, q7, q8⟩ := hw
         go_simp
         try (with_reducible rfl)
        change wpAnyH _ _ _ _ _ _ _ (Act.put _ (some 50) _) _
        simp only [Act.put, List.setIfInBounds_toArray, List.set_cons_zero, List.set_cons_succ]
        refine wpAnyH_take (i := 5) (v := ?_) rfl (by kernel_rfl) (by kernel_rfl) (by kernel_rfl) (fun _ _ _ h => h) (Or.inl ⟨by rfl, ?_⟩) (by assumption) ?_
        rotate_left
        ·intro w hw
         rw [hSS] at hw
         obtain ⟨q3, q4, q7, q8⟩ := hw
         go_simp
         try (with_reducible rfl)
        change wpAnyH _ _ _ _ _ _ _ (Act.put _ (some 51) _) _
        simp only [Act.put, List.setIfInBounds_toArray, List.set_cons_zero, List.set_cons_succ]
        refine wpAnyH_take (i := 7) (v := ?_) rfl (by kernel_rfl) (by kernel_rfl) (by kernel_rfl) (fun _ _ _ h => h) (Or.inl ⟨by rfl, ?_⟩) (by assumption) ?_
        rotate_left
        ·intro w hw
         rw [hSS] at hw
         obtain ⟨q3, q4, q7, q8⟩ := hw
         go_simp
         try (with_reducible rfl)
        change wpAnyH _ _ _ _ _ _ _ (Act.put _ (some 53) _) _
        simp only [Act.put, List.setIfInBounds_toArray, List.set_cons_zero, List.set_cons_succ]
        refine wpAnyH_take (i := 8) (v := ?_) rfl (by kernel_rfl) (by kernel_rfl) (by kernel_rfl) (fun _ _ _ h => h) (Or.inl ⟨by rfl, ?_⟩) (by assumption) ?_
        rotate_left
        ·intro w hw
         rw [hSS] at hw
         obtain ⟨q3, q4, q7, q8⟩ := hw
         go_simp
         try (with_reducible rfl)
        change wpAnyH _ _ _ _ _ _ _ (Act.put _ (some 54) _) _
        simp only [Act.put, List.setIfInBounds_toArray, List.set_cons_zero, List.set_cons_succ]
        refine wpAnyH_take (i := 11) (v := ?_) rfl (by kernel_rfl) (by kernel_rfl) (by kernel_rfl) (fun _ _ _ h => h) (Or.inl ⟨by rfl, ?_⟩) (by assumption) ?_
        rotate_left
        ·intro w hw
         rw [hSS] at hw
         obtain ⟨q3, q4, q7, q8⟩ := hw
         go_simp
         try (with_reducible rfl)
        change wpAnyH _ _ _ _ _ _ _ (Act.put _ (some 57) _) _
        simp only [Act.put, List.setIfInBounds_toArray, List.set_cons_zero, List.set_cons_succ]
        refine wpAnyH_take (i := 12) (v := ?_) rfl (by kernel_rfl) (by kernel_rfl) (by kernel_rfl) (fun _ _ _ h => h) (Or.inl ⟨by rfl, ?_⟩) (by assumption) ?_
        rotate_left
        ·intro w hw
         rw [hSS] at hw
         obtain ⟨q3, q4, q7, q8⟩ := hw
         go_simp
         try (with_reducible rfl)
        change wpAnyH _ _ _ _ _ _ _ (Act.put _ (some 58) _) _
        simp only [Act.put, List.setIfInBounds_toArray, List.set_cons_zero, List.set_cons_succ]
        refine wpAnyH_ready (rs := [2]) (by kernel_rfl) (by simp) ?_
        refine AllReadyH.cons rfl (fun K hK => ?_) AllReadyH.nil
        go_simp
        refine (HB1.out _).mono ?_
        rintro e wa ⟨rfl, ha⟩
        refine Shut.out hK _ _ ?_ (fun hHeld => ?_)
        ·rw [hSS]
         have hh := hHeld
         rw [hSS] at hh
         exact ⟨(ha.cell (p := ⟨w.heap.size, 3, none⟩) (World.block_lt_of_cell? _ _ hh.1) (fun x => x)).trans hh.1, (ha.cell (p := ⟨w.heap.size, 4, none⟩) (World.block_lt_of_cell? _ _ hh.2.1) (fun x => x)).trans hh.2.1, (ha.cell (p := ⟨w.heap.size, 7, none⟩) (World.block_lt_of_cell? _ _ hh.2.2.1) (fun x => x)).trans hh.2.2.1, (ha.cell (p := ⟨w.heap.size, 8, none⟩) (World.block_lt_of_cell? _ _ hh.2.2.2) (fun x => x)).trans hh.2.2.2⟩
        clear hK K
        refine wpAnyH_take (i := 3) (v := ?_) rfl (by kernel_rfl) (by kernel_rfl) (by kernel_rfl) (fun _ _ _ h => h) (Or.inl ⟨by rfl, ?_⟩) (by assumption) ?_
        rotate_left
        ·intro w hw
         rw [hSS] at hw
         obtain ⟨q3, q4, q7, q8⟩ := hw
         go_simp
         try (with_reducible rfl)
        change wpAnyH _ _ _ _ _ _ _ (Act.put _ (some 49) _) _
        simp only [Act.put, List.setIfInBounds_toArray, List.set_cons_zero, List.set_cons_succ]
        refine wpAnyH_take (i := 6) (v := ?_) rfl (by kernel_rfl) (by kernel_rfl) (by kernel_rfl) (fun _ _ _ h => h) (Or.inl ⟨by rfl, ?_⟩) (by assumption) ?_
        rotate_left
        ·intro w hw
         rw [hSS] at hw
         obtain ⟨q3, q4, q7, q8⟩ := hw
         go_simp
         try (with_reducible rfl)
        change wpAnyH _ _ _ _ _ _ _ (Act.put _ (some 52) _) _
        simp only [Act.put, List.setIfInBounds_toArray, List.set_cons_zero, List.set_cons_succ]
        refine wpAnyH_ready (rs := [9]) (by kernel_rfl) (by simp) ?_
        refine AllReadyH.cons rfl (fun K hK => ?_) AllReadyH.nil
        go_simp
        refine (HB2.out _).mono ?_
        rintro e wb ⟨rfl, hb⟩
        refine Shut.out hK _ _ ?_ (fun hHeld => ?_)
        ·rw [hSS]
         have hh := hHeld
         rw [hSS] at hh
         exact ⟨(hb.cell (p := ⟨w.heap.size, 3, none⟩) (World.block_lt_of_cell? _ _ hh.1) (fun x => x)).trans hh.1, (hb.cell (p := ⟨w.heap.size, 4, none⟩) (World.block_lt_of_cell? _ _ hh.2.1) (fun x => x)).trans hh.2.1, (hb.cell (p := ⟨w.heap.size, 7, none⟩) (World.block_lt_of_cell? _ _ hh.2.2.1) (fun x => x)).trans hh.2.2.1, (hb.cell (p := ⟨w.heap.size, 8, none⟩) (World.block_lt_of_cell? _ _ hh.2.2.2) (fun x => x)).trans hh.2.2.2⟩
        clear hK K
        refine wpAnyH_take (i := 10) (v := ?_) rfl (by kernel_rfl) (by kernel_rfl) (by kernel_rfl) (fun _ _ _ h => h) (Or.inl ⟨by rfl, ?_⟩) (by assumption) ?_
        rotate_left
        ·intro w hw
         rw [hSS] at hw
         obtain ⟨q3, q4, q7, q8⟩ := hw
         go_simp
         try (with_reducible rfl)
        change wpAnyH _ _ _ _ _ _ _ (Act.put _ (some 56) _) _
        simp only [Act.put, List.setIfInBounds_toArray, List.set_cons_zero, List.set_cons_succ]
        refine wpAnyH_ready (rs := [13]) (by kernel_rfl) (by simp) ?_
        refine AllReadyH.cons rfl (fun K hK => ?_) AllReadyH.nil
        go_simp
        refine (HB3.out _).mono ?_
        rintro e wd ⟨rfl, hd⟩
        refine Shut.out hK _ _ ?_ (fun hHeld => ?_)
        ·rw [hSS]
         have hh := hHeld
         rw [hSS] at hh
         exact ⟨(hd.cell (p := ⟨w.heap.size, 3, none⟩) (World.block_lt_of_cell? _ _ hh.1) (fun x => x)).trans hh.1, (hd.cell (p := ⟨w.heap.size, 4, none⟩) (World.block_lt_of_cell? _ _ hh.2.1) (fun x => x)).trans hh.2.1, (hd.cell (p := ⟨w.heap.size, 7, none⟩) (World.block_lt_of_cell? _ _ hh.2.2.1) (fun x => x)).trans hh.2.2.1, (hd.cell (p := ⟨w.heap.size, 8, none⟩) (World.block_lt_of_cell? _ _ hh.2.2.2) (fun x => x)).trans hh.2.2.2⟩
        clear hK K
        refine wpAnyH_take (i := 14) (v := ?_) rfl (by kernel_rfl) (by kernel_rfl) (by kernel_rfl) (fun _ _ _ h => h) (Or.inl ⟨by rfl, ?_⟩) (by assumption) ?_
        rotate_left
        ·intro w hw
         rw [hSS] at hw
         obtain ⟨q3, q4, q7, q8⟩ := hw
         go_simp
         try (with_reducible rfl)
        change wpAnyH _ _ _ _ _ _ _ (Act.put _ (some 60) _) _
        simp only [Act.put, List.setIfInBounds_toArray, List.set_cons_zero, List.set_cons_succ]
        refine wpAnyH_ready (rs := [15]) (by kernel_rfl) (by simp) ?_
        refine AllReadyH.cons rfl (fun K hK => ?_) AllReadyH.nil
        go_simp
        refine Shut.out hK _ _ ?_ (fun hHeld => ?_)
        ·rw [hSS]
         rw [hSS] at hHeld
         exact hHeld
        clear hK K
        have hso := ha.trans (hb.trans hd)
        refine wpAnyH_done (by kernel_rfl) ?_ _
        go_wp2_with fail
        go_meet
        exact ⟨by rw [HE.out], HS.out.trans (Same.trans (Fr.drew (Fr.refl _ wc)) hso)⟩
       ·have HE := Px.hid (HEA.out h6)
        have h6z : (x.fmt == 6) = false := by simpa using h6
        have h6y : ¬ x.fmt = 6 := h6
        clear h6
        go_wp2_with fail
        go_meet
        exact ⟨by rw [HE.out], HS.out⟩
      case rest =>
       obtain ⟨rfl, hs⟩ := hcut
       have hlb : (bytesOf x).length ≤ 140737488355327 := by
        by_cases h6 : x.fmt = 6
        ·rw [HEM.out h6]; have := HNM.out; omega
        ·rw [HEA.out h6]; have := HNA.out; omega
       have HS3 := Px.hid hs
       clear hs HS HEM HEA HNM HNA HB1 HB2 HB3 HB4 c0 c1 c2 c3 c4 c5 c6 c7 c8 fCT fA1 fA2 fA3 fM1 fM2 fM3 fM4
       have HRD := Px.hid (show ∀ W, Calls Tryd.prog 11 #[S (bytesOf x), limV Co.most] W (GivesE W (Co.read (bytesOf x) Co.most)) from fun W => rreadAll_any _ _ W hlb)
       clear hlb
       obtain ⟨s, hs⟩ : ∃ s, s = bytesOf x := ⟨_, rfl⟩
       rw [← hs] at HP2 HRD ⊢
       clear hs
       obtain ⟨d, hd⟩ : ∃ d, d = Co.read s Co.most := ⟨_, rfl⟩
       have hto := read_to s Co.most
       rw [← hd] at HP2 HRD hto
       clear hd
       go_wp2_with fail
       refine (most_any _).mono ?_
       rintro e w4 ⟨rfl, hs4⟩
       have HS4 := Px.hid hs4
       clear hs4
       go_wp2_with fail
       refine (HRD.out _).mono ?_
       rintro e w5 ⟨vy, rfl, hyo, hs5, hyn, ya, yc, rfl⟩
       have HS5 := Px.hid (HS3.out.trans (HS4.out.trans hs5))
       have HYO := Px.hid hyo
       clear hs5 hyn hyo
       obtain ⟨y, ye⟩ := d
       simp only at HP2 HYO hto ⊢
       unfold envC
       have HB5 := Px.hid (HX.out.fr HS5.out (fun x => x))
       obtain ⟨c0, c1, c2, c3, c4, c5, c6, c7, c8, _⟩ := blk9 HB5.out
       have hwl5 := HB5.out.lt
       by_cases he : ye = 0
       ·subst he
        have HSM := Px.hid (show ∀ W, Same w5 W → Calls Tryd.prog 12 #[.agg (envC x (.slice ta x.to.length tc)), .agg (envC y (.slice ya y.to.length yc))] W fun e w' => e = .returned (.bool (decide (x = y))) ∧ Same W w' from fun W hW => rsame_any x y _ _ W (Lies.same HTO.out.1 (HSW.out.trans (HS5.out.trans hW))) (Lies.same (HYO.out.lies (fun _ => rfl)) hW) HTO.out.2)
        unfold envC at HSM
        have HP3 : Hid (T = if x = y then (s, 0) else ([], 2)) := Px.hid (by
         rw [HP2.out]
         by_cases c : x = y
         ·rw [if_pos c, if_neg (by rintro (e | e); exact e rfl; exact e c)]
         ·rw [if_neg c, if_pos (.inr c)])
        clear HP2
        go_wp2_with fail
        refine (HSM.out _ (Fr.alloc (Fr.refl _ w5) _)).mono ?_
        rintro e w6 ⟨rfl, hs6⟩
        have HS6 := Px.hid (HSW.out.trans (HS5.out.trans (Same.trans (Fr.alloc (Fr.refl _ w5) _) hs6)))
        clear hs6
        by_cases hxy : x = y
        ·have HE : Hid (T = (s, 0)) := Px.hid (by rw [HP3.out, if_pos hxy])
         have hdz : decide (x = y) = true := decide_eq_true hxy
         rw [hdz]
         clear hxy hdz
         go_wp2
         go_ret2
         rw [HE.out]
         exact ⟨rfl, HS6.out⟩
        ·have HE : Hid (T = ([], 2)) := Px.hid (by rw [HP3.out, if_neg hxy])
         have hdz : decide (x = y) = false := decide_eq_false hxy
         rw [hdz]
         clear hxy hdz
         go_wp2
         go_ret2
         rw [HE.out]
         exact ⟨rfl, HS6.out⟩
       ·have HE : Hid (T = ([], 2)) := Px.hid (by rw [HP2.out, if_pos (.inl he)])
        have hez : (ye != 0) = true := by simpa using he
        have hez2 : ¬ ye = 0 := he
        clear he HP2
        go_wp2_with fail
        try go_quiet (fail)
        go_wp2
        go_ret2
        rw [HE.out]
        exact ⟨rfl, HSW.out.trans (by first | exact Fr.alloc HS5.out _ | exact Fr.drewN (Fr.alloc HS5.out _) _)⟩
end Go.Proofs.YtddiabaagpmkgaaDoor

/-! The walk over the statement CoseTells (layer 25). -/
namespace Go.Proofs.YtddiabaagpmkgaaDoor
open Go.RowKit Go.Px Go.Px.E7 Go.Px.Co
set_option maxRecDepth 100000 in
set_option maxHeartbeats 8000000 in
theorem law_CoseTells (x : Env) (vto : Value) (w : World) (hto : Lies w 9 cRec vto x.to) (hl : x.to.length * 112 ≤ 140737488351232) (htx : x.header.length ≤ 140737488351232 ∧ x.loose.length ≤ 140737488351232 ∧ x.aad.length ≤ 140737488351232 ∧ x.iv.length ≤ 140737488351232 ∧ x.cipher.length ≤ 140737488351232 ∧ x.tag.length ≤ 140737488351232) (hT : Tabs w) :
  Calls Tryd.prog 4 #[.agg (envC x vto)] w fun e w' => e = .returned (.bool true) ∧ Below w.heap.size w w' := by
 have HT := Px.hid hT
 have HL := Px.hid (And.intro hl htx)
 have HTO := Px.hid hto
 obtain ⟨ta, tc, rfl, _, _⟩ := hto.slice
 clear hT hl htx hto
 have HX := Px.hid (show Blk (w.alloc (.cells #[.int .i64 x.fmt, .int .i64 x.alg, .slice ta x.to.length tc, S x.header, S x.loose, S x.aad, S x.iv, S x.cipher, S x.tag] 27)) w.heap.size #[.int .i64 x.fmt, .int .i64 x.alg, .slice ta x.to.length tc, S x.header, S x.loose, S x.aad, S x.iv, S x.cipher, S x.tag] 27 from blk_new w _ _)
 unfold envC
 go_enter Tryd.func4, Tryd.ntmps4
 go_wp2_with fail
 refine (wakes_any _ (HT.out.same (Fr.alloc (Fr.refl _ w) _))).mono ?_
 rintro e w1 ⟨rfl, hs⟩
 replace HX := Px.hid (HX.out.fr hs (fun x => x))
 have HS := Px.hid (show Same w w1 from Same.trans (Fr.alloc (Fr.refl _ w) _) hs)
 clear hs
 obtain ⟨c0, c1, c2, c3, c4, c5, c6, c7, c8, _⟩ := blk9 HX.out
 have HC := Px.hid (copied_any x (.slice ta x.to.length tc) w1 (Lies.same HTO.out HS.out) HL.out.1)
 unfold envC at HC
 go_wp2_with fail
 refine HC.out.mono ?_
 rintro e w2 ⟨a, c, rfl, ho, hs⟩
 replace HX := Px.hid (HX.out.fr hs (fun x => x))
 have HT2 := Px.hid (ctell_any x (.slice a x.to.length c) w2 (ho.lies cRec_len) (by have := HL.out.1; omega) HL.out.2.1 HL.out.2.2.1 HL.out.2.2.2.2.2.1 HL.out.2.2.2.2.2.2 (HT.out.same (HS.out.trans hs)))
 replace HS := Px.hid (HS.out.trans hs)
 clear ho hs HC c0 c1 c2 c3 c4 c5 c6 c7 c8
 unfold envC at HT2
 rw [tell_eq x] at HT2
 go_wp2_with fail
 refine HT2.out.mono ?_
 rintro e w3 ⟨rfl, hs⟩
 replace HX := Px.hid (HX.out.fr hs (fun x => x))
 replace HS := Px.hid (HS.out.trans hs)
 clear hs HT2
 have HRT := Px.hid (rtell_any x (.slice ta x.to.length tc) w3 (Lies.same HTO.out HS.out) (by have := HL.out.1; omega))
 unfold envC at HRT
 obtain ⟨c0, c1, c2, c3, c4, c5, c6, c7, c8, _⟩ := blk9 HX.out
 obtain ⟨d, hd⟩ : ∃ d, d = tellR x := ⟨_, rfl⟩
 rw [← hd] at HRT ⊢
 clear hd
 obtain ⟨s, e⟩ := d
 simp only at HRT ⊢
 go_wp2_with fail
 refine HRT.out.mono ?_
 rintro e w4 ⟨rfl, hs⟩
 replace HS := Px.hid (HS.out.trans hs)
 clear hs
 go_wp2
 go_ret
 exact ⟨by simp, HS.out.toBelow _ (fun _ h => h.elim) (Nat.le_refl _)⟩
end Go.Proofs.YtddiabaagpmkgaaDoor
