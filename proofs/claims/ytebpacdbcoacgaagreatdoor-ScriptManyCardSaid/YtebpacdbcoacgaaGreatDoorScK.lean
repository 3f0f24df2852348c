/-
  The walks over script.New, renew and limits.
-/
import Derived.Test.YtebpacdbcoacgaaGreatDoorScJ
namespace Go.Proofs.YtebpacdbcoacgaaGreatDoor
open Go.RowKit Go.Px
/-- What a session holds: its keys, its ring, its limits; nothing else yet. -/
def sS (keys ring : Value) (d i b r : Int) : Array Value := #[keys, ring, .int .i64 d, .int .i64 i, .int .i64 b, .int .i64 r, .string ⟨#[]⟩, .int .i64 0, .int .i64 0, .slice none 0 0, .string ⟨#[]⟩, .string ⟨#[]⟩, .string ⟨#[]⟩, .int .i64 0, .string ⟨#[]⟩]
def SesB (w : World) (sb : Nat) (keys ring : Value) (d i b r : Int) : Prop := Blk w sb (sS keys ring d i b r) 64
theorem RingA.mono {w : World} {B B' r : Nat} (h : RingA w B r) (hb : B' ≤ B) : RingA w B' r := by
  obtain ⟨m, g, cap, p, hg, hp, h1⟩ := h.at_
  exact ⟨m, g, cap, p, Nat.le_trans hb hg, Nat.le_trans hb hp, h1⟩
theorem RingA.sm {w w' : World} {B r : Nat} (h : RingA w B r) (hs : Same w w') : RingA w' B r := by
  obtain ⟨m, g, cap, p, hg, hp, h1, h2, h3⟩ := h.at_
  obtain ⟨cur, q1, q2⟩ := h2
  exact ⟨m, g, cap, p, hg, hp, h1.sm hs, ⟨cur, q1.sm hs, q2⟩, h3.sm hs⟩
set_option maxRecDepth 100000 in
set_option maxHeartbeats 4000000 in
theorem sc_new (w : World) : Calls Tryz.prog 9 #[] w fun e w' => ∃ sb rb, e = .returned (.pointer (some ⟨sb, 0, none⟩)) ∧ Same w w' ∧ w.heap.size ≤ sb ∧ SesB w' sb (.slice none 0 0) (.pointer (some ⟨rb, 0, none⟩)) 32 4096 262144 4096 := by
  go_enter Tryz.func9, Tryz.ntmps9
  go_wp2_with fail
  refine (ring_nil _).mono ?_
  rintro e w1 ⟨rfl, hs, hz⟩
  clear hz
  go_wp2
  go_ret
  exact ⟨w1.heap.size, _, rfl, Fr.alloc hs _, hs.size, blk_new w1 _ _⟩
set_option maxRecDepth 100000 in
set_option maxHeartbeats 4000000 in
theorem renew_a (sb kb c : Nat) (ks rg : Value) (d i b r : Int) (w : World) (hs : SesB w sb ks rg d i b r) (hk0 : w.cell? ⟨kb, 0, none⟩ = some (.string ⟨#[97]⟩)) (hk1 : w.cell? ⟨kb, 1, none⟩ = some (.string ⟨#[97]⟩)) :
    Calls Tryz.prog 34 #[.pointer (some ⟨sb, 0, none⟩), .slice (some ⟨kb, 0, none⟩) 1 c] w fun e w' => e = .returned (.string ⟨#[111, 107]⟩) ∧ Fr (fun k => k = sb) w w' ∧ ∃ rb, w.heap.size ≤ rb ∧ SesB w' sb (.slice (some ⟨kb, 0, none⟩) 1 c) (.pointer (some ⟨rb, 0, none⟩)) d i b r ∧ RingA w' w.heap.size rb := by
  have HN := Px.hid (ring_one kb c w hk0 hk1)
  have HS := Px.hid hs
  have hsl := hs.lt
  clear hs hk0 hk1
  go_enter Tryz.func34, Tryz.ntmps34
  go_wp2_with fail
  refine HN.out.mono ?_
  rintro e w1 ⟨rfl, hs1, hr1⟩
  have hb1 : SesB w1 sb ks rg d i b r := Blk.sm HS.out hs1
  have HB1 := Px.hid hb1
  have HS1 := Px.hid hs1
  have HR1 := Px.hid hr1
  have hsl1 := hb1.lt
  have c0 : w1.cell? ⟨sb, 0, none⟩ = some ks := hb1.cell 0 rfl
  have c1 : w1.cell? ⟨sb, 1, none⟩ = some rg := hb1.cell 1 rfl
  have f0 : w1.frozen? ⟨sb, 0, none⟩ = false := hb1.free 0
  have f1 : w1.frozen? ⟨sb, 1, none⟩ = false := hb1.free 1
  clear hb1 hs1 hr1
  go_wp2
  go_ret
  obtain ⟨m, g, cap, p, hg, hp, h1, h2, h3⟩ := HR1.out.at_
  refine ⟨rfl, Fr.setCell (F := fun k => k = sb) (Fr.setCell (F := fun k => k = sb) (HS1.out.fr _) (.inl rfl) _) (.inl rfl) _, w.heap.size + 1, by omega, (HB1.out.set 0 _).set 1 _, ⟨m, g, cap, p, hg, hp, (h1.other _ (by show ¬ w.heap.size + 1 = sb; omega)).other _ (by show ¬ w.heap.size + 1 = sb; omega), ?_, (h3.other _ (by show ¬ p = sb; omega)).other _ (by show ¬ p = sb; omega)⟩⟩
  obtain ⟨cur, q1, q2⟩ := h2
  exact ⟨cur, (q1.other _ (by show ¬ g = sb; omega)).other _ (by show ¬ g = sb; omega), q2⟩
set_option maxRecDepth 100000 in
set_option maxHeartbeats 4000000 in
theorem limits_no (sb wb lb off : Nat) (ks rg : Value) (d i b r : Int) (w : World) (hs : SesB w sb ks rg d i b r) (hw : Wd w wb lb off 4 false) (h0 : w.cell? ⟨lb, off, none⟩ = some (.string ⟨#[48]⟩)) (h1 : w.cell? ⟨lb, off + 1, none⟩ = some (.string ⟨#[49]⟩)) (h2 : w.cell? ⟨lb, off + 2, none⟩ = some (.string ⟨#[49]⟩)) (h3 : w.cell? ⟨lb, off + 3, none⟩ = some (.string ⟨#[49]⟩)) (hlw : ¬ lb = wb) (hsw : ¬ sb = wb) :
    Calls Tryz.prog 16 #[.pointer (some ⟨sb, 0, none⟩), .pointer (some ⟨wb, 0, none⟩)] w fun e w' => e = .returned (.string ⟨#[101, 114, 114, 111, 114, 32, 50]⟩) ∧ Fr (fun k => k = sb ∨ k = wb) w w' ∧ SesB w' sb ks rg d i b r := by
  have HS := Px.hid hs
  have keep : ∀ (W W' : World) (j : Nat) (v : Value), Fr (fun k => k = wb) W W' → W.cell? ⟨lb, j, none⟩ = some v → W'.cell? ⟨lb, j, none⟩ = some v := fun W W' j v hf hc => (hf.cell (p := ⟨lb, j, none⟩) (World.block_lt_of_cell? _ _ hc) hlw).trans hc
  have H0 := Px.hid (number_48 w wb lb off 3 (off + 1) hw h0 (by omega) rfl)
  have H1 := Px.hid h1
  have H2 := Px.hid h2
  have H3 := Px.hid h3
  have KEEP := Px.hid keep
  clear hs hw h0 h1 h2 h3 keep
  go_enter Tryz.func16, Tryz.ntmps16
  go_wp2_with fail
  refine H0.out.mono ?_
  rintro e w1 ⟨rfl, hf1, hw1⟩
  have HN1 := Px.hid (number_49 w1 wb lb (off + 1) 2 (off + 2) hw1 (KEEP.out _ _ _ _ hf1 H1.out) (by omega) rfl)
  have HF1 := Px.hid hf1
  clear hf1 hw1 H0
  go_wp2_with fail
  refine HN1.out.mono ?_
  rintro e w2 ⟨rfl, hf2, hw2⟩
  have HF2 := Px.hid (HF1.out.trans hf2 (fun _ _ x => x))
  have HN2 := Px.hid (number_49 w2 wb lb (off + 2) 1 (off + 3) hw2 (KEEP.out _ _ _ _ HF2.out H2.out) (by omega) rfl)
  clear hf2 hw2 HN1 HF1
  go_wp2_with fail
  refine HN2.out.mono ?_
  rintro e w3 ⟨rfl, hf3, hw3⟩
  have HF3 := Px.hid (HF2.out.trans hf3 (fun _ _ x => x))
  have HN3 := Px.hid (number_49 w3 wb lb (off + 3) 0 (off + 3) hw3 (KEEP.out _ _ _ _ HF3.out H3.out) (by omega) rfl)
  clear hf3 hw3 HN2 HF2
  go_wp2_with fail
  refine HN3.out.mono ?_
  rintro e w4 ⟨rfl, hf4, hw4⟩
  have HF4 := Px.hid (HF3.out.trans hf4 (fun _ _ x => x))
  have HB4 := Px.hid (Blk.fr HS.out HF4.out hsw)
  have c1 : w4.cell? ⟨wb, 1, none⟩ = some (.bool false) := hw4.cell 1 rfl
  have hwl := hw4.lt
  clear hf4 hw4 HN3 HF3
  go_wp2_with (first | (go_at_call 40; go_in) | (go_at_call 13; refine (failed_2 _).mono ?_; rintro e w' ⟨rfl, rfl⟩))
  go_ret
  exact ⟨rfl, Fr.alloc (Fr.alloc (Fr.mono HF4.out (fun _ x => .inr x)) _) _, Blk.alloc (Blk.alloc HB4.out _) _⟩
set_option maxRecDepth 100000 in
set_option maxHeartbeats 4000000 in
theorem names_a (sb B r : Nat) (ks x : Value) (d i b l : Int) (w : World) (hs : SesB w sb ks (.pointer (some ⟨r, 0, none⟩)) d i b l) (hr : RingA w B r) :
    Calls Tryz.prog 26 #[.pointer (some ⟨sb, 0, none⟩), x] w fun e w' => e = .returned (.string ⟨#[54, 49]⟩) ∧ Fr (fun k => k = r) w w' := by
  have c1 : w.cell? ⟨sb, 1, none⟩ = some (.pointer (some ⟨r, 0, none⟩)) := hs.cell 1 rfl
  have HN := Px.hid (rnames_a B r w hr)
  clear hs hr
  obtain ⟨i0, hi0, hz0, hz1, hz2⟩ := info_parts (show (Tryz.prog.info? 9).map (fun i => (i.zero, i.size, i.bytes)) = some (some (.string ⟨#[]⟩), 1, 16) by kernel_rfl)
  go_enter Tryz.func26, Tryz.ntmps26
  go_wp2_with fail
  refine HN.out.mono ?_
  rintro e w1 ⟨a, c, rfl, hf, ha⟩
  have HF := Px.hid hf
  clear hf HN c1
  go_wp2
  refine wp_loop_rounds 2 ?_
  rw [rounds_succ]
  go_wp2_with fail
  refine (shown_a _).mono ?_
  rintro e w2 ⟨rfl, hs2⟩
  have HS2 := Px.hid hs2
  clear hs2 ha
  go_wp2_with (at_builtin; refine wpList_append_own _ rfl _ _ 31 rfl w2.heap.size 9 i0 (.string ⟨#[]⟩) 1 16 Tryz.underlying31 hi0 hz0 hz1 hz2 rfl (by decide) _ _ _ rfl ((World.ownsRow_nil w2 w2.heap.size 9 1).alloc _) ⟨w2.heap.size, 0, none⟩ 1 1 [.string ⟨#[54, 49]⟩] rfl rfl ?c1 ?c2 ?c3 ?c4 ?c5 ?_)
  case c1 =>
    intro j u hj
    match j, hj with
    | 0, hj => simp at hj; subst hj; simp [Addr.add]
  case c2 => intro u hu; simp at hu; subst hu; rfl
  case c3 => unfold maxLen; omega
  case c4 => omega
  case c5 => simp
  intro v' w3 hown' hgrow _
  have hs3 : Same w2 w3 := Fr.grown (Fr.alloc (Fr.refl _ w2) _) hgrow (fun k hk => by cases hk)
  obtain ⟨g, cap, rfl⟩ : ∃ g cap, v' = .slice (some ⟨g, 0, none⟩) 1 cap := by
    rcases hown'.2 with ⟨_, h0⟩ | ⟨g, cap, cur, hv, hg, _⟩
    · cases h0
    · exact ⟨g, cap, hv⟩
  have hg0 : w3.cell? ⟨g, 0, none⟩ = some (.string ⟨#[54, 49]⟩) := World.ownsRow.cellAt hown' 0 (by decide)
  have HF3 := Px.hid (HF.out.trans (HS2.out.trans hs3) (fun _ _ x => x.elim))
  clear hs3 hown' hgrow hi0 hz0 hz1 hz2
  go_wp2
  rw [rounds_succ]
  go_wp2_with (go_at_call 47; go_in)
  go_ret
  exact ⟨rfl, HF3.out⟩
end Go.Proofs.YtebpacdbcoacgaaGreatDoor
