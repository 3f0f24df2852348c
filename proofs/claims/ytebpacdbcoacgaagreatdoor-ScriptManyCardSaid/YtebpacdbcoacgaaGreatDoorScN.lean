/-
  The walks over script's Do at lines with words (printed by gen_scm.py).
-/
import Derived.Test.YtebpacdbcoacgaaGreatDoorScM
namespace Go.Proofs.YtebpacdbcoacgaaGreatDoor
open Go.RowKit Go.Px
set_option maxRecDepth 100000 in
set_option maxHeartbeats 16000000 in
theorem do_key (sb : Nat) (ks rg : Value) (d i b r mx : Int) (w : World) (hs : SesB w sb ks rg d i b r) (hm : MaxW w mx) (hks : ks = .slice none 0 0) :
    Calls Tryz.prog 7 #[.pointer (some ⟨sb, 0, none⟩), .string ⟨#[107, 101, 121, 32, 97, 32, 54, 49]⟩] w fun e w' => e = .returned (.string ⟨#[111, 107]⟩) ∧ Fr (fun k => k = sb) w w' ∧ ∃ ks' rb, w.heap.size ≤ rb ∧ SesB w' sb ks' (.pointer (some ⟨rb, 0, none⟩)) d i b r ∧ RingA w' w.heap.size rb := by
  have hmf : ∀ (fn : Fn) (first cap : Array Value) (w : World), (Instr.makeFunc fn first cap).run Tryz.prog w = .ok (.func fn first cap) w := fun _ _ _ _ => rfl
  have HSP := Px.hid (split_at ⟨#[107, 101, 121, 32, 97, 32, 54, 49]⟩ ⟨#[32]⟩ 3 [⟨#[107, 101, 121]⟩, ⟨#[97]⟩, ⟨#[54, 49]⟩] (by decide) (by decide) (by decide) (by decide) mx)
  have HS := Px.hid hs
  have HM := Px.hid hm
  subst hks
  clear hs hm
  go_enter Tryz.func7, Tryz.ntmps7
  go_wp2_with fail
  refine (HSP.out _ (MaxW.fr HM.out (Fr.alloc (Fr.refl (fun _ => False) w) _) (fun x => x))).mono ?_
  rintro e w1 ⟨lb, rfl, hs1, hlb, hbl⟩
  obtain ⟨ba, hba⟩ : ∃ ba, ba = w.heap.size := ⟨_, rfl⟩
  have hb1 : Blk w1 ba (actsC sb) 47 := by rw [hba]; exact Blk.sm (blk_new w _ _) hs1
  have hw1 : Same w w1 := Same.trans (Fr.alloc (Fr.refl _ w) _) hs1
  have hlw : w.heap.size ≤ lb := Nat.le_trans (by simp) hlb
  rw [← hba]
  have HB1 := Px.hid hb1
  have HL1 := Px.hid hbl
  have HW1 := Px.hid hw1
  have HLW := Px.hid hlw
  clear hs1 hlb hbl hba hb1 hw1 hmf HSP hlw
  go_wp2
  go_loopw [56] (fun i wr => Same w1 wr ∧ (i = .int .i64 0)) (fun i _ => 0 - (intOf i).toNat)
  case atStart => exact ⟨Same.refl _, by simp⟩
  case round =>
    obtain ⟨hsr, hi⟩ := hrel
    have hb := Blk.sm HB1.out hsr
    have hl := Blk.sm HL1.out hsr
    have HR := Px.hid hsr
    have HB := Px.hid hb
    have HL := Px.hid hl
    have hbl := hb.lt
    have hll := hl.lt
    have l0 : wr.cell? ⟨lb, 0, none⟩ = some (.string ⟨#[107, 101, 121]⟩) := hl.cell 0 rfl
    clear hsr hb hl
    rcases hi with rfl
    · have a0 : wr.cell? ⟨ba, 0, none⟩ = some (.string ⟨#[107, 101, 121]⟩) := HB.out.cell 0 rfl
      have a1 : wr.cell? ⟨ba, 1, none⟩ = some (.int .i64 2) := HB.out.cell 1 rfl
      have a2 : wr.cell? ⟨ba, 2, none⟩ = some (.func (.func 14) #[.pointer (some ⟨sb, 0, none⟩)] #[]) := HB.out.cell 2 rfl
      go_wp2
      obtain ⟨w2, hw2⟩ : ∃ w2, w2 = wr.alloc (.cells #[.string ⟨#[107, 101, 121]⟩, .int .i64 2, .func (.func 14) #[.pointer (some ⟨sb, 0, none⟩)] #[]] 47 (0, 0)) := ⟨_, rfl⟩
      obtain ⟨pa, hpa⟩ : ∃ pa, pa = wr.heap.size := ⟨_, rfl⟩
      rw [← hw2, ← hpa]
      have hs2 : Same w1 w2 := by rw [hw2]; exact Fr.alloc HR.out _
      have hp2 : Blk w2 pa #[.string ⟨#[107, 101, 121]⟩, .int .i64 2, .func (.func 14) #[.pointer (some ⟨sb, 0, none⟩)] #[]] 47 := by rw [hw2, hpa]; exact blk_new wr _ _
      have HS2 := Px.hid hs2
      have HP2 := Px.hid hp2
      have HL2 := Px.hid (Blk.sm HL1.out hs2)
      have p0 : w2.cell? ⟨pa, 0, none⟩ = some (.string ⟨#[107, 101, 121]⟩) := hp2.cell 0 rfl
      have p1 : w2.cell? ⟨pa, 1, none⟩ = some (.int .i64 2) := hp2.cell 1 rfl
      have p2 : w2.cell? ⟨pa, 2, none⟩ = some (.func (.func 14) #[.pointer (some ⟨sb, 0, none⟩)] #[]) := hp2.cell 2 rfl
      have l2 : w2.cell? ⟨lb, 0, none⟩ = some (.string ⟨#[107, 101, 121]⟩) := HL2.out.cell 0 rfl
      have hpl := hp2.lt
      have hll2 := HL2.out.lt
      clear hw2 hpa hs2 hp2 a0 a1 a2 hbl hll l0 HR HB HL
      have HCN := Px.hid (fun m => no_empty lb 3 3 [⟨#[107, 101, 121]⟩, ⟨#[97]⟩, ⟨#[54, 49]⟩] (by decide) (by decide) (by decide) (w2.drewN m) HL2.out)
      go_quiet ((go_at_call 27; exact Calls.quiet_of_same (HCN.out _)))
      go_wp2
      obtain ⟨w4, hw4⟩ : ∃ w4, w4 = w2.drewN nq := ⟨_, rfl⟩
      rw [← hw4]
      have hs4 : Same w2 w4 := by rw [hw4]; exact Fr.drewN (Fr.refl _ w2) nq
      have HS4 := Px.hid (Same.trans HS2.out hs4)
      have hp4 := Blk.sm HP2.out hs4
      have hl4 := Blk.sm HL2.out hs4
      have HL4 := Px.hid hl4
      clear hw4 p0 p1 p2 l2 hpl hll2 HCN HP2 HL2
      have p2 : w4.cell? ⟨pa, 2, none⟩ = some (.func (.func 14) #[.pointer (some ⟨sb, 0, none⟩)] #[]) := hp4.cell 2 rfl
      have hpl := hp4.lt
      have hll4 := hl4.lt
      clear hs4 hp4 hl4 HS2
      have HCA := Px.hid (fun (W : World) (h : Same w4 W) (hw : Wd W w4.heap.size lb 1 2 false) => key_a sb w4.heap.size lb 1 rg d i b r W (Blk.sm HS.out (HW1.out.trans (HS4.out.trans h))) hw ((Blk.sm HL4.out h).cell 1 rfl) ((Blk.sm HL4.out h).cell 2 rfl) (by omega) (by have := Nat.lt_of_lt_of_le HS.out.lt (Nat.le_trans HW1.out.size HS4.out.size); omega))
      go_region_law (go_simp; go_at_call 14; refine (HCA.out _ ?_ ?_).mono ?_; rotate_left; exact blk_new _ _ _; rotate_left; (focus (repeat' first | exact Same.refl _ | refine Fr.alloc ?_ _ | refine Fr.drewN ?_ _ | refine Fr.drew ?_)); rintro e w3 ⟨rfl, hf3, ks3, rb, hrb, hs3, hr3⟩)
      all_goals
        go_wp2
        go_ret
        have hz : w.heap.size ≤ w4.heap.size := Nat.le_trans HW1.out.size HS4.out.size
        refine ⟨rfl, Fr.trans (Fr.mono (Same.trans HW1.out (Same.trans HS4.out (by repeat' first | exact Same.refl _ | refine Fr.alloc ?_ _ | refine Fr.drewN ?_ _ | refine Fr.drew ?_))) (fun _ x => x.elim)) hf3 (fun q hq x => by rcases x with x | x; exact x; omega), ks3, rb, by have h1 := hrb; simp at h1; omega, hs3, hr3.mono (by simp; omega)⟩
set_option maxRecDepth 100000 in
set_option maxHeartbeats 16000000 in
theorem do_limno (sb : Nat) (ks rg : Value) (d i b r mx : Int) (w : World) (hs : SesB w sb ks rg d i b r) (hm : MaxW w mx) :
    Calls Tryz.prog 7 #[.pointer (some ⟨sb, 0, none⟩), .string ⟨#[108, 105, 109, 105, 116, 115, 32, 48, 32, 49, 32, 49, 32, 49]⟩] w fun e w' => e = .returned (.string ⟨#[101, 114, 114, 111, 114, 32, 50]⟩) ∧ Fr (fun k => k = sb) w w' ∧ SesB w' sb ks rg d i b r := by
  have hmf : ∀ (fn : Fn) (first cap : Array Value) (w : World), (Instr.makeFunc fn first cap).run Tryz.prog w = .ok (.func fn first cap) w := fun _ _ _ _ => rfl
  have HSP := Px.hid (split_at ⟨#[108, 105, 109, 105, 116, 115, 32, 48, 32, 49, 32, 49, 32, 49]⟩ ⟨#[32]⟩ 5 [⟨#[108, 105, 109, 105, 116, 115]⟩, ⟨#[48]⟩, ⟨#[49]⟩, ⟨#[49]⟩, ⟨#[49]⟩] (by decide) (by decide) (by decide) (by decide) mx)
  have HS := Px.hid hs
  have HM := Px.hid hm
  clear hs hm
  go_enter Tryz.func7, Tryz.ntmps7
  go_wp2_with fail
  refine (HSP.out _ (MaxW.fr HM.out (Fr.alloc (Fr.refl (fun _ => False) w) _) (fun x => x))).mono ?_
  rintro e w1 ⟨lb, rfl, hs1, hlb, hbl⟩
  obtain ⟨ba, hba⟩ : ∃ ba, ba = w.heap.size := ⟨_, rfl⟩
  have hb1 : Blk w1 ba (actsC sb) 47 := by rw [hba]; exact Blk.sm (blk_new w _ _) hs1
  have hw1 : Same w w1 := Same.trans (Fr.alloc (Fr.refl _ w) _) hs1
  have hlw : w.heap.size ≤ lb := Nat.le_trans (by simp) hlb
  rw [← hba]
  have HB1 := Px.hid hb1
  have HL1 := Px.hid hbl
  have HW1 := Px.hid hw1
  have HLW := Px.hid hlw
  clear hs1 hlb hbl hba hb1 hw1 hmf HSP hlw
  go_wp2
  go_loopw [56] (fun i wr => Same w1 wr ∧ (i = .int .i64 0 ∨ i = .int .i64 1 ∨ i = .int .i64 2)) (fun i _ => 2 - (intOf i).toNat)
  case atStart => exact ⟨Same.refl _, by simp⟩
  case round =>
    obtain ⟨hsr, hi⟩ := hrel
    have hb := Blk.sm HB1.out hsr
    have hl := Blk.sm HL1.out hsr
    have HR := Px.hid hsr
    have HB := Px.hid hb
    have HL := Px.hid hl
    have hbl := hb.lt
    have hll := hl.lt
    have l0 : wr.cell? ⟨lb, 0, none⟩ = some (.string ⟨#[108, 105, 109, 105, 116, 115]⟩) := hl.cell 0 rfl
    clear hsr hb hl
    rcases hi with rfl | rfl | rfl
    · have a0 : wr.cell? ⟨ba, 0, none⟩ = some (.string ⟨#[107, 101, 121]⟩) := HB.out.cell 0 rfl
      have a1 : wr.cell? ⟨ba, 1, none⟩ = some (.int .i64 2) := HB.out.cell 1 rfl
      have a2 : wr.cell? ⟨ba, 2, none⟩ = some (.func (.func 14) #[.pointer (some ⟨sb, 0, none⟩)] #[]) := HB.out.cell 2 rfl
      go_wp2
      go_quiet (fail)
      go_wp2
      go_roundw
      case rel => exact ⟨Fr.drewN (Fr.alloc HR.out _) _, by simp⟩
      case measure => simp [intOf]
    · have a0 : wr.cell? ⟨ba, 3, none⟩ = some (.string ⟨#[100, 114, 111, 112]⟩) := HB.out.cell 3 rfl
      have a1 : wr.cell? ⟨ba, 4, none⟩ = some (.int .i64 1) := HB.out.cell 4 rfl
      have a2 : wr.cell? ⟨ba, 5, none⟩ = some (.func (.func 15) #[.pointer (some ⟨sb, 0, none⟩)] #[]) := HB.out.cell 5 rfl
      go_wp2
      go_quiet (fail)
      go_wp2
      go_roundw
      case rel => exact ⟨Fr.drewN (Fr.alloc HR.out _) _, by simp⟩
      case measure => simp [intOf]
    · have a0 : wr.cell? ⟨ba, 6, none⟩ = some (.string ⟨#[108, 105, 109, 105, 116, 115]⟩) := HB.out.cell 6 rfl
      have a1 : wr.cell? ⟨ba, 7, none⟩ = some (.int .i64 4) := HB.out.cell 7 rfl
      have a2 : wr.cell? ⟨ba, 8, none⟩ = some (.func (.func 16) #[.pointer (some ⟨sb, 0, none⟩)] #[]) := HB.out.cell 8 rfl
      go_wp2
      obtain ⟨w2, hw2⟩ : ∃ w2, w2 = wr.alloc (.cells #[.string ⟨#[108, 105, 109, 105, 116, 115]⟩, .int .i64 4, .func (.func 16) #[.pointer (some ⟨sb, 0, none⟩)] #[]] 47 (0, 0)) := ⟨_, rfl⟩
      obtain ⟨pa, hpa⟩ : ∃ pa, pa = wr.heap.size := ⟨_, rfl⟩
      rw [← hw2, ← hpa]
      have hs2 : Same w1 w2 := by rw [hw2]; exact Fr.alloc HR.out _
      have hp2 : Blk w2 pa #[.string ⟨#[108, 105, 109, 105, 116, 115]⟩, .int .i64 4, .func (.func 16) #[.pointer (some ⟨sb, 0, none⟩)] #[]] 47 := by rw [hw2, hpa]; exact blk_new wr _ _
      have HS2 := Px.hid hs2
      have HP2 := Px.hid hp2
      have HL2 := Px.hid (Blk.sm HL1.out hs2)
      have p0 : w2.cell? ⟨pa, 0, none⟩ = some (.string ⟨#[108, 105, 109, 105, 116, 115]⟩) := hp2.cell 0 rfl
      have p1 : w2.cell? ⟨pa, 1, none⟩ = some (.int .i64 4) := hp2.cell 1 rfl
      have p2 : w2.cell? ⟨pa, 2, none⟩ = some (.func (.func 16) #[.pointer (some ⟨sb, 0, none⟩)] #[]) := hp2.cell 2 rfl
      have l2 : w2.cell? ⟨lb, 0, none⟩ = some (.string ⟨#[108, 105, 109, 105, 116, 115]⟩) := HL2.out.cell 0 rfl
      have hpl := hp2.lt
      have hll2 := HL2.out.lt
      clear hw2 hpa hs2 hp2 a0 a1 a2 hbl hll l0 HR HB HL
      have HCN := Px.hid (fun m => no_empty lb 5 5 [⟨#[108, 105, 109, 105, 116, 115]⟩, ⟨#[48]⟩, ⟨#[49]⟩, ⟨#[49]⟩, ⟨#[49]⟩] (by decide) (by decide) (by decide) (w2.drewN m) HL2.out)
      go_quiet ((go_at_call 27; exact Calls.quiet_of_same (HCN.out _)))
      go_wp2
      obtain ⟨w4, hw4⟩ : ∃ w4, w4 = w2.drewN nq := ⟨_, rfl⟩
      rw [← hw4]
      have hs4 : Same w2 w4 := by rw [hw4]; exact Fr.drewN (Fr.refl _ w2) nq
      have HS4 := Px.hid (Same.trans HS2.out hs4)
      have hp4 := Blk.sm HP2.out hs4
      have hl4 := Blk.sm HL2.out hs4
      have HL4 := Px.hid hl4
      clear hw4 p0 p1 p2 l2 hpl hll2 HCN HP2 HL2
      have p2 : w4.cell? ⟨pa, 2, none⟩ = some (.func (.func 16) #[.pointer (some ⟨sb, 0, none⟩)] #[]) := hp4.cell 2 rfl
      have hpl := hp4.lt
      have hll4 := hl4.lt
      clear hs4 hp4 hl4 HS2
      have HCA := Px.hid (fun (W : World) (h : Same w4 W) (hw : Wd W w4.heap.size lb 1 4 false) => limits_no sb w4.heap.size lb 1 ks rg d i b r W (Blk.sm HS.out (HW1.out.trans (HS4.out.trans h))) hw ((Blk.sm HL4.out h).cell 1 rfl) ((Blk.sm HL4.out h).cell 2 rfl) ((Blk.sm HL4.out h).cell 3 rfl) ((Blk.sm HL4.out h).cell 4 rfl) (by omega) (by have := Nat.lt_of_lt_of_le HS.out.lt (Nat.le_trans HW1.out.size HS4.out.size); omega))
      go_region_law (go_simp; go_at_call 16; refine (HCA.out _ ?_ ?_).mono ?_; rotate_left; exact blk_new _ _ _; rotate_left; (focus (repeat' first | exact Same.refl _ | refine Fr.alloc ?_ _ | refine Fr.drewN ?_ _ | refine Fr.drew ?_)); rintro e w3 ⟨rfl, hf3, hs3⟩)
      all_goals
        go_wp2
        go_ret
        have hz : w.heap.size ≤ w4.heap.size := Nat.le_trans HW1.out.size HS4.out.size
        refine ⟨rfl, Fr.trans (Fr.mono (Same.trans HW1.out (Same.trans HS4.out (by repeat' first | exact Same.refl _ | refine Fr.alloc ?_ _ | refine Fr.drewN ?_ _ | refine Fr.drew ?_))) (fun _ x => x.elim)) hf3 (fun q hq x => by rcases x with x | x; exact x; omega), hs3⟩
set_option maxRecDepth 100000 in
set_option maxHeartbeats 16000000 in
theorem do_limyes (sb : Nat) (ks rg : Value) (d i b r mx : Int) (w : World) (hs : SesB w sb ks rg d i b r) (hm : MaxW w mx) :
    Calls Tryz.prog 7 #[.pointer (some ⟨sb, 0, none⟩), .string ⟨#[108, 105, 109, 105, 116, 115, 32, 49, 32, 49, 32, 49, 32, 49]⟩] w fun e w' => e = .returned (.string ⟨#[111, 107]⟩) ∧ Fr (fun k => k = sb) w w' ∧ SesB w' sb ks rg 1 1 1 1 := by
  have hmf : ∀ (fn : Fn) (first cap : Array Value) (w : World), (Instr.makeFunc fn first cap).run Tryz.prog w = .ok (.func fn first cap) w := fun _ _ _ _ => rfl
  have HSP := Px.hid (split_at ⟨#[108, 105, 109, 105, 116, 115, 32, 49, 32, 49, 32, 49, 32, 49]⟩ ⟨#[32]⟩ 5 [⟨#[108, 105, 109, 105, 116, 115]⟩, ⟨#[49]⟩, ⟨#[49]⟩, ⟨#[49]⟩, ⟨#[49]⟩] (by decide) (by decide) (by decide) (by decide) mx)
  have HS := Px.hid hs
  have HM := Px.hid hm
  clear hs hm
  go_enter Tryz.func7, Tryz.ntmps7
  go_wp2_with fail
  refine (HSP.out _ (MaxW.fr HM.out (Fr.alloc (Fr.refl (fun _ => False) w) _) (fun x => x))).mono ?_
  rintro e w1 ⟨lb, rfl, hs1, hlb, hbl⟩
  obtain ⟨ba, hba⟩ : ∃ ba, ba = w.heap.size := ⟨_, rfl⟩
  have hb1 : Blk w1 ba (actsC sb) 47 := by rw [hba]; exact Blk.sm (blk_new w _ _) hs1
  have hw1 : Same w w1 := Same.trans (Fr.alloc (Fr.refl _ w) _) hs1
  have hlw : w.heap.size ≤ lb := Nat.le_trans (by simp) hlb
  rw [← hba]
  have HB1 := Px.hid hb1
  have HL1 := Px.hid hbl
  have HW1 := Px.hid hw1
  have HLW := Px.hid hlw
  clear hs1 hlb hbl hba hb1 hw1 hmf HSP hlw
  go_wp2
  go_loopw [56] (fun i wr => Same w1 wr ∧ (i = .int .i64 0 ∨ i = .int .i64 1 ∨ i = .int .i64 2)) (fun i _ => 2 - (intOf i).toNat)
  case atStart => exact ⟨Same.refl _, by simp⟩
  case round =>
    obtain ⟨hsr, hi⟩ := hrel
    have hb := Blk.sm HB1.out hsr
    have hl := Blk.sm HL1.out hsr
    have HR := Px.hid hsr
    have HB := Px.hid hb
    have HL := Px.hid hl
    have hbl := hb.lt
    have hll := hl.lt
    have l0 : wr.cell? ⟨lb, 0, none⟩ = some (.string ⟨#[108, 105, 109, 105, 116, 115]⟩) := hl.cell 0 rfl
    clear hsr hb hl
    rcases hi with rfl | rfl | rfl
    · have a0 : wr.cell? ⟨ba, 0, none⟩ = some (.string ⟨#[107, 101, 121]⟩) := HB.out.cell 0 rfl
      have a1 : wr.cell? ⟨ba, 1, none⟩ = some (.int .i64 2) := HB.out.cell 1 rfl
      have a2 : wr.cell? ⟨ba, 2, none⟩ = some (.func (.func 14) #[.pointer (some ⟨sb, 0, none⟩)] #[]) := HB.out.cell 2 rfl
      go_wp2
      go_quiet (fail)
      go_wp2
      go_roundw
      case rel => exact ⟨Fr.drewN (Fr.alloc HR.out _) _, by simp⟩
      case measure => simp [intOf]
    · have a0 : wr.cell? ⟨ba, 3, none⟩ = some (.string ⟨#[100, 114, 111, 112]⟩) := HB.out.cell 3 rfl
      have a1 : wr.cell? ⟨ba, 4, none⟩ = some (.int .i64 1) := HB.out.cell 4 rfl
      have a2 : wr.cell? ⟨ba, 5, none⟩ = some (.func (.func 15) #[.pointer (some ⟨sb, 0, none⟩)] #[]) := HB.out.cell 5 rfl
      go_wp2
      go_quiet (fail)
      go_wp2
      go_roundw
      case rel => exact ⟨Fr.drewN (Fr.alloc HR.out _) _, by simp⟩
      case measure => simp [intOf]
    · have a0 : wr.cell? ⟨ba, 6, none⟩ = some (.string ⟨#[108, 105, 109, 105, 116, 115]⟩) := HB.out.cell 6 rfl
      have a1 : wr.cell? ⟨ba, 7, none⟩ = some (.int .i64 4) := HB.out.cell 7 rfl
      have a2 : wr.cell? ⟨ba, 8, none⟩ = some (.func (.func 16) #[.pointer (some ⟨sb, 0, none⟩)] #[]) := HB.out.cell 8 rfl
      go_wp2
      obtain ⟨w2, hw2⟩ : ∃ w2, w2 = wr.alloc (.cells #[.string ⟨#[108, 105, 109, 105, 116, 115]⟩, .int .i64 4, .func (.func 16) #[.pointer (some ⟨sb, 0, none⟩)] #[]] 47 (0, 0)) := ⟨_, rfl⟩
      obtain ⟨pa, hpa⟩ : ∃ pa, pa = wr.heap.size := ⟨_, rfl⟩
      rw [← hw2, ← hpa]
      have hs2 : Same w1 w2 := by rw [hw2]; exact Fr.alloc HR.out _
      have hp2 : Blk w2 pa #[.string ⟨#[108, 105, 109, 105, 116, 115]⟩, .int .i64 4, .func (.func 16) #[.pointer (some ⟨sb, 0, none⟩)] #[]] 47 := by rw [hw2, hpa]; exact blk_new wr _ _
      have HS2 := Px.hid hs2
      have HP2 := Px.hid hp2
      have HL2 := Px.hid (Blk.sm HL1.out hs2)
      have p0 : w2.cell? ⟨pa, 0, none⟩ = some (.string ⟨#[108, 105, 109, 105, 116, 115]⟩) := hp2.cell 0 rfl
      have p1 : w2.cell? ⟨pa, 1, none⟩ = some (.int .i64 4) := hp2.cell 1 rfl
      have p2 : w2.cell? ⟨pa, 2, none⟩ = some (.func (.func 16) #[.pointer (some ⟨sb, 0, none⟩)] #[]) := hp2.cell 2 rfl
      have l2 : w2.cell? ⟨lb, 0, none⟩ = some (.string ⟨#[108, 105, 109, 105, 116, 115]⟩) := HL2.out.cell 0 rfl
      have hpl := hp2.lt
      have hll2 := HL2.out.lt
      clear hw2 hpa hs2 hp2 a0 a1 a2 hbl hll l0 HR HB HL
      have HCN := Px.hid (fun m => no_empty lb 5 5 [⟨#[108, 105, 109, 105, 116, 115]⟩, ⟨#[49]⟩, ⟨#[49]⟩, ⟨#[49]⟩, ⟨#[49]⟩] (by decide) (by decide) (by decide) (w2.drewN m) HL2.out)
      go_quiet ((go_at_call 27; exact Calls.quiet_of_same (HCN.out _)))
      go_wp2
      obtain ⟨w4, hw4⟩ : ∃ w4, w4 = w2.drewN nq := ⟨_, rfl⟩
      rw [← hw4]
      have hs4 : Same w2 w4 := by rw [hw4]; exact Fr.drewN (Fr.refl _ w2) nq
      have HS4 := Px.hid (Same.trans HS2.out hs4)
      have hp4 := Blk.sm HP2.out hs4
      have hl4 := Blk.sm HL2.out hs4
      have HL4 := Px.hid hl4
      clear hw4 p0 p1 p2 l2 hpl hll2 HCN HP2 HL2
      have p2 : w4.cell? ⟨pa, 2, none⟩ = some (.func (.func 16) #[.pointer (some ⟨sb, 0, none⟩)] #[]) := hp4.cell 2 rfl
      have hpl := hp4.lt
      have hll4 := hl4.lt
      clear hs4 hp4 hl4 HS2
      have HCA := Px.hid (fun (W : World) (h : Same w4 W) (hw : Wd W w4.heap.size lb 1 4 false) => limits_yes sb w4.heap.size lb 1 ks rg d i b r W (Blk.sm HS.out (HW1.out.trans (HS4.out.trans h))) hw ((Blk.sm HL4.out h).cell 1 rfl) ((Blk.sm HL4.out h).cell 2 rfl) ((Blk.sm HL4.out h).cell 3 rfl) ((Blk.sm HL4.out h).cell 4 rfl) (by omega) (by have := Nat.lt_of_lt_of_le HS.out.lt (Nat.le_trans HW1.out.size HS4.out.size); omega))
      go_region_law (go_simp; go_at_call 16; refine (HCA.out _ ?_ ?_).mono ?_; rotate_left; exact blk_new _ _ _; rotate_left; (focus (repeat' first | exact Same.refl _ | refine Fr.alloc ?_ _ | refine Fr.drewN ?_ _ | refine Fr.drew ?_)); rintro e w3 ⟨rfl, hf3, hs3⟩)
      all_goals
        go_wp2
        go_ret
        have hz : w.heap.size ≤ w4.heap.size := Nat.le_trans HW1.out.size HS4.out.size
        refine ⟨rfl, Fr.trans (Fr.mono (Same.trans HW1.out (Same.trans HS4.out (by repeat' first | exact Same.refl _ | refine Fr.alloc ?_ _ | refine Fr.drewN ?_ _ | refine Fr.drew ?_))) (fun _ x => x.elim)) hf3 (fun q hq x => by rcases x with x | x; exact x; omega), hs3⟩
end Go.Proofs.YtebpacdbcoacgaaGreatDoor
