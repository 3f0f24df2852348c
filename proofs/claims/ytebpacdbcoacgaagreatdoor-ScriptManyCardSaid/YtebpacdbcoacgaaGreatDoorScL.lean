/-
  The walks over script's limits (lines that may be) and key.
-/
import Derived.Test.YtebpacdbcoacgaaGreatDoorScK
namespace Go.Proofs.YtebpacdbcoacgaaGreatDoor
open Go.RowKit Go.Px
set_option maxRecDepth 100000 in
set_option maxHeartbeats 4000000 in
theorem limits_yes (sb wb lb off : Nat) (ks rg : Value) (d i b r : Int) (w : World) (hs : SesB w sb ks rg d i b r) (hw : Wd w wb lb off 4 false) (h0 : w.cell? ⟨lb, off, none⟩ = some (.string ⟨#[49]⟩)) (h1 : w.cell? ⟨lb, off + 1, none⟩ = some (.string ⟨#[49]⟩)) (h2 : w.cell? ⟨lb, off + 2, none⟩ = some (.string ⟨#[49]⟩)) (h3 : w.cell? ⟨lb, off + 3, none⟩ = some (.string ⟨#[49]⟩)) (hlw : ¬ lb = wb) (hsw : ¬ sb = wb) :
    Calls Tryz.prog 16 #[.pointer (some ⟨sb, 0, none⟩), .pointer (some ⟨wb, 0, none⟩)] w fun e w' => e = .returned (.string ⟨#[111, 107]⟩) ∧ Fr (fun k => k = sb ∨ k = wb) w w' ∧ SesB w' sb ks rg 1 1 1 1 := by
  have HS := Px.hid hs
  have keep : ∀ (W W' : World) (j : Nat) (v : Value), Fr (fun k => k = wb) W W' → W.cell? ⟨lb, j, none⟩ = some v → W'.cell? ⟨lb, j, none⟩ = some v := fun W W' j v hf hc => (hf.cell (p := ⟨lb, j, none⟩) (World.block_lt_of_cell? _ _ hc) hlw).trans hc
  have H0 := Px.hid (number_49 w wb lb off 3 (off + 1) hw h0 (by omega) rfl)
  have H1 := Px.hid h1
  have H2 := Px.hid h2
  have H3 := Px.hid h3
  have KEEP := Px.hid keep
  clear hs hw h0 h1 h2 h3 keep
  go_enter Tryz.func16, Tryz.ntmps16
  go_wp2_with fail
  refine H0.out.mono ?_
  rintro e w1 ⟨rfl, hf1, hw1⟩
  have HN1 := Px.hid (number_49 w1 wb lb (off + 1) 2 (off + 2) hw1 (KEEP.out _ _ _ _ hf1 H1.out) (by omega) rfl)
  have HF1 := Px.hid hf1
  clear hf1 hw1 H0
  go_wp2_with fail
  refine HN1.out.mono ?_
  rintro e w2 ⟨rfl, hf2, hw2⟩
  have HF2 := Px.hid (HF1.out.trans hf2 (fun _ _ x => x))
  have HN2 := Px.hid (number_49 w2 wb lb (off + 2) 1 (off + 3) hw2 (KEEP.out _ _ _ _ HF2.out H2.out) (by omega) rfl)
  clear hf2 hw2 HN1 HF1
  go_wp2_with fail
  refine HN2.out.mono ?_
  rintro e w3 ⟨rfl, hf3, hw3⟩
  have HF3 := Px.hid (HF2.out.trans hf3 (fun _ _ x => x))
  have HN3 := Px.hid (number_49 w3 wb lb (off + 3) 0 (off + 3) hw3 (KEEP.out _ _ _ _ HF3.out H3.out) (by omega) rfl)
  clear hf3 hw3 HN2 HF2
  go_wp2_with fail
  refine HN3.out.mono ?_
  rintro e w4 ⟨rfl, hf4, hw4⟩
  have HF4 := Px.hid (HF3.out.trans hf4 (fun _ _ x => x))
  have HB4 := Px.hid (Blk.fr HS.out HF4.out hsw)
  have c1 : w4.cell? ⟨wb, 1, none⟩ = some (.bool false) := hw4.cell 1 rfl
  have hwl := hw4.lt
  clear hf4 hw4 HN3 HF3
  have hb4 : SesB w4 sb ks rg d i b r := HB4.out
  have s2 : w4.cell? ⟨sb, 2, none⟩ = some (.int .i64 d) := hb4.cell 2 rfl
  have s3 : w4.cell? ⟨sb, 3, none⟩ = some (.int .i64 i) := hb4.cell 3 rfl
  have s4 : w4.cell? ⟨sb, 4, none⟩ = some (.int .i64 b) := hb4.cell 4 rfl
  have s5 : w4.cell? ⟨sb, 5, none⟩ = some (.int .i64 r) := hb4.cell 5 rfl
  have f2 : w4.frozen? ⟨sb, 2, none⟩ = false := hb4.free 2
  have f3 : w4.frozen? ⟨sb, 3, none⟩ = false := hb4.free 3
  have f4 : w4.frozen? ⟨sb, 4, none⟩ = false := hb4.free 4
  have f5 : w4.frozen? ⟨sb, 5, none⟩ = false := hb4.free 5
  have hsl4 := hb4.lt
  clear hb4
  go_wp2_with (go_at_call 40; go_in)
  go_ret
  have fs : ∀ (W : World) (j : Nat) (v : Value), Fr (fun k => k = sb ∨ k = wb) w W → Fr (fun k => k = sb ∨ k = wb) w (W.setCell ⟨sb, j, none⟩ v) := fun W j v h => Fr.setCell (F := fun k => k = sb ∨ k = wb) h (.inl (.inl rfl)) v
  exact ⟨rfl, Fr.alloc (Fr.alloc (fs _ _ _ (fs _ _ _ (fs _ _ _ (fs _ _ _ (Fr.mono HF4.out (fun _ x => .inr x)))))) _) _, Blk.alloc (Blk.alloc ((((HB4.out.set 2 _).set 3 _).set 4 _).set 5 _) _) _⟩
theorem key_part (sb : Nat) (rg : Value) (d i b r : Int) (w3 : World) (hb : SesB w3 sb (.slice none 0 0) rg d i b r) (kb kc : Nat) (w4 : World) (hown : w4.ownsRow w3.heap.size 68 2 (.slice (some ⟨kb, 0, none⟩) (0 + 1) kc) (0 + 1) ([] ++ [.string ⟨#[97]⟩, .string ⟨#[97]⟩]))
    (hgrow : ((w3.alloc (.cells #[.string ⟨#[97]⟩, .string ⟨#[97]⟩] 68 (0, 0))).drew).grownBy w4 (Value.slice none 0 0).ownBlock) :
    Same w3 w4 ∧ Hid (Calls Tryz.prog 34 #[.pointer (some ⟨sb, 0, none⟩), .slice (some ⟨kb, 0, none⟩) 1 kc] w4 fun e w' => e = .returned (.string ⟨#[111, 107]⟩) ∧ Fr (fun k => k = sb) w4 w' ∧ ∃ rb, w4.heap.size ≤ rb ∧ SesB w' sb (.slice (some ⟨kb, 0, none⟩) 1 kc) (.pointer (some ⟨rb, 0, none⟩)) d i b r ∧ RingA w' w4.heap.size rb) := by
  have hs4 : Same w3 w4 := Fr.grown (Fr.drew (Fr.alloc (Fr.refl _ w3) _)) hgrow (fun k hk => by cases hk)
  exact ⟨hs4, Px.hid (renew_a sb kb kc (.slice none 0 0) rg d i b r w4 (Blk.sm hb hs4) (World.ownsRow.cellAt hown 0 (by decide)) (World.ownsRow.cellAt hown 1 (by decide)))⟩
set_option maxRecDepth 100000 in
set_option maxHeartbeats 4000000 in
theorem key_a (sb wb lb off : Nat) (rg : Value) (d i b r : Int) (w : World) (hs : SesB w sb (.slice none 0 0) rg d i b r) (hw : Wd w wb lb off 2 false) (h0 : w.cell? ⟨lb, off, none⟩ = some (.string ⟨#[97]⟩)) (h1 : w.cell? ⟨lb, off + 1, none⟩ = some (.string ⟨#[54, 49]⟩)) (hlw : ¬ lb = wb) (hsw : ¬ sb = wb) :
    Calls Tryz.prog 14 #[.pointer (some ⟨sb, 0, none⟩), .pointer (some ⟨wb, 0, none⟩)] w fun e w' => e = .returned (.string ⟨#[111, 107]⟩) ∧ Fr (fun k => k = sb ∨ k = wb) w w' ∧ ∃ ks rb, w.heap.size ≤ rb ∧ SesB w' sb ks (.pointer (some ⟨rb, 0, none⟩)) d i b r ∧ RingA w' w.heap.size rb := by
  have HS := Px.hid hs
  have H0 := Px.hid (name_a w wb lb off 1 (off + 1) false hw h0 (by omega) rfl)
  have H1 := Px.hid h1
  clear hs hw h0 h1
  obtain ⟨i0, hi0, hz0, hz1, hz2⟩ := info_parts (show (Tryz.prog.info? 68).map (fun i => (i.zero, i.size, i.bytes)) = some (some (.agg #[.string ⟨#[]⟩, .string ⟨#[]⟩]), 2, 32) by kernel_rfl)
  go_enter Tryz.func14, Tryz.ntmps14
  go_wp2_with fail
  refine H0.out.mono ?_
  rintro e w1 ⟨rfl, hf1, hw1⟩
  have HN1 := Px.hid (bytes_61 w1 wb lb (off + 1) 0 (off + 1) hw1 ((hf1.cell (p := ⟨lb, off + 1, none⟩) (World.block_lt_of_cell? _ _ H1.out) hlw).trans H1.out) (by omega) rfl)
  have HF1 := Px.hid hf1
  clear hf1 hw1 H0 H1
  go_wp2_with fail
  refine HN1.out.mono ?_
  rintro e w2 ⟨rfl, hf2, hw2⟩
  have HF2 := Px.hid (HF1.out.trans hf2 (fun _ _ x => x))
  have c1 : w2.cell? ⟨wb, 1, none⟩ = some (.bool false) := hw2.cell 1 rfl
  have hwl := hw2.lt
  have hb2 : SesB w2 sb (.slice none 0 0) rg d i b r := Blk.fr HS.out HF2.out hsw
  have HB2 := Px.hid hb2
  have hsl := hb2.lt
  clear hf2 hw2 HN1 HF1 hb2
  go_upto_region 4 with fail
  obtain ⟨eb, heb⟩ : ∃ eb, eb = w2.heap.size := ⟨_, rfl⟩
  obtain ⟨w3, hw3⟩ : ∃ w3, w3 = w2.alloc (.cells #[.string ⟨#[97]⟩, .string ⟨#[97]⟩] 68 (0, 0)) := ⟨_, rfl⟩
  rw [← hw3, ← heb]
  have he3 : Blk w3 eb #[.string ⟨#[97]⟩, .string ⟨#[97]⟩] 68 := by rw [hw3, heb]; exact blk_new w2 _ _
  have hb3 : SesB w3 sb (.slice none 0 0) rg d i b r := by rw [hw3]; exact HB2.out.alloc _
  have HF3 := Px.hid (show Fr (fun k => k = wb) w w3 by rw [hw3]; exact Fr.alloc HF2.out _)
  have HB3 := Px.hid hb3
  have s0 : w3.cell? ⟨sb, 0, none⟩ = some (.slice none 0 0) := hb3.cell 0 rfl
  have e0 : w3.cell? ⟨eb, 0, none⟩ = some (.string ⟨#[97]⟩) := he3.cell 0 rfl
  have e1 : w3.cell? ⟨eb, 1, none⟩ = some (.string ⟨#[97]⟩) := he3.cell 1 rfl
  have HO := Px.hid (World.ownsRow_nil w3 w3.heap.size 68 2)
  have hsl3 := hb3.lt
  have hel3 := he3.lt
  clear hw3 heb he3 hb3 HB2 HF2 c1 hwl hsl HS hlw hsw
  go_region_law
    (first
      | (refine step_append_lies _ (by rfl) _ _ _ (by rfl) w3.heap.size 68 i0 _ 2 32 Tryz.underlying59 hi0 hz0 hz1 hz2 rfl (by omega) (.slice none 0 0) 0 [] (by rfl) (World.ownsRow.alloc HO.out _) ⟨w3.heap.size, 0, none⟩ 1 1 [.string ⟨#[97]⟩, .string ⟨#[97]⟩] (by rfl) (by rfl) (World.news_of_block (cs := #[.string ⟨#[97]⟩, .string ⟨#[97]⟩]) (t := 68) (fr := (0, 0)) (heap_alloc_new w3 _)) (by simp [Value.oneCell']) (by omega) (by unfold maxLen; omega) (by omega) (by simp) (w3.heap.size + 1) (by simp) ?_; intro kb kc w4 hown1 hgrow hat hlt; have HRN := key_part sb rg d i b r w3 HB3.out kb kc w4 hown1 hgrow)
      | (go_simp; go_at_call 35; refine (cloneE_nil _).mono ?_; rintro e wx ⟨rfl, rfl⟩)
      | (go_simp; go_at_call 34; refine HRN.2.out.mono ?_; rintro e w5 ⟨rfl, hf5, rb, hrb, hs5, hr5⟩))
  all_goals
    go_wp2
    go_ret
    have hz : w.heap.size ≤ w4.heap.size := Nat.le_trans HF3.out.size HRN.1.size
    obtain ⟨rm, rg', rc, rp, hg1, hp1, q1, q2, q3⟩ := hr5.at_
    exact ⟨rfl, Fr.trans (Fr.mono (Fr.trans HF3.out HRN.1 (fun _ _ x => x.elim)) (fun _ x => .inr x)) hf5 (fun _ _ x => .inl x), _, rb, Nat.le_trans hz hrb, hs5, ⟨rm, rg', rc, rp, Nat.le_trans hz hg1, Nat.le_trans hz hp1, q1, q2, q3⟩⟩
end Go.Proofs.YtebpacdbcoacgaaGreatDoor
