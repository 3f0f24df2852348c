/-
  The walks over script's Do at the examples' lines (printed by gen_scm.py).
-/
import Derived.Test.YtebpacdbcoacgaaGreatDoorScL
namespace Go.Proofs.YtebpacdbcoacgaaGreatDoor
open Go.RowKit Go.Px
/-- The thirteen acts. -/
def actsC (sb : Nat) : Array Value := #[.string ⟨#[107, 101, 121]⟩, .int .i64 2, .func (.func 14) #[.pointer (some ⟨sb, 0, none⟩)] #[], .string ⟨#[100, 114, 111, 112]⟩, .int .i64 1, .func (.func 15) #[.pointer (some ⟨sb, 0, none⟩)] #[], .string ⟨#[108, 105, 109, 105, 116, 115]⟩, .int .i64 4, .func (.func 16) #[.pointer (some ⟨sb, 0, none⟩)] #[], .string ⟨#[98, 101, 115, 105, 100, 101]⟩, .int .i64 1, .func (.func 17) #[.pointer (some ⟨sb, 0, none⟩)] #[], .string ⟨#[112, 108, 97, 110]⟩, .int .i64 3, .func (.func 18) #[.pointer (some ⟨sb, 0, none⟩)] #[], .string ⟨#[116, 111]⟩, .int .i64 7, .func (.func 19) #[.pointer (some ⟨sb, 0, none⟩)] #[], .string ⟨#[100, 114, 97, 119]⟩, .int .i64 3, .func (.func 20) #[.pointer (some ⟨sb, 0, none⟩)] #[], .string ⟨#[115, 101, 97, 108]⟩, .int .i64 1, .func (.func 21) #[.pointer (some ⟨sb, 0, none⟩)] #[], .string ⟨#[111, 112, 101, 110]⟩, .int .i64 1, .func (.func 22) #[.pointer (some ⟨sb, 0, none⟩)] #[], .string ⟨#[108, 111, 111, 107]⟩, .int .i64 1, .func (.func 23) #[.pointer (some ⟨sb, 0, none⟩)] #[], .string ⟨#[97, 103, 97, 105, 110]⟩, .int .i64 1, .func (.func 24) #[.pointer (some ⟨sb, 0, none⟩)] #[], .string ⟨#[117, 115, 101, 115]⟩, .int .i64 1, .func (.func 25) #[.pointer (some ⟨sb, 0, none⟩)] #[], .string ⟨#[110, 97, 109, 101, 115]⟩, .int .i64 0, .func (.func 26) #[.pointer (some ⟨sb, 0, none⟩)] #[]]
def MaxW (w : World) (mx : Int) : Prop := w.cell? ⟨0, 0, none⟩ = some (.int .i64 mx)
theorem MaxW.fr {F : Nat → Prop} {w w' : World} {mx : Int} (h : MaxW w mx) (hf : Fr F w w') (hn : ¬ F 0) : MaxW w' mx := (hf.cell (p := ⟨0, 0, none⟩) (World.block_lt_of_cell? _ _ h) hn).trans h
theorem split_at (s sep : ByteArray) (n : Nat) (ps : List ByteArray) (h1 : 1 ≤ sep.size) (hc : Lib.countB s sep + 1 = n) (hp : Lib.splitB sep 0 (Lib.countB s sep) s = ps) (hs : s.size < 4294967281) (mx : Int) (W : World) (hm : MaxW W mx) :
    Calls Tryz.prog 8 #[.string s, .string sep] W fun e w' => ∃ lb, e = .returned (.slice (some ⟨lb, 0, none⟩) n n) ∧ Same W w' ∧ W.heap.size ≤ lb ∧ Blk w' lb (ps.map Value.string).toArray 9 := by
  refine (Tryz.strings_Split s sep mx W hs hm h1).mono ?_
  rintro e w' ⟨rfl, rfl⟩
  rw [hc, hp]
  exact ⟨_, rfl, Fr.alloc (Fr.refl _ W) _, Nat.le_refl _, blk_new W _ _⟩
theorem no_empty (lb n c : Nat) (ps : List ByteArray) (hn : n ≤ ps.length) (hb : n ≤ 100) (he : Lib.containsS (ps.take n) ⟨#[]⟩ = false) (W : World) (h : Blk W lb (ps.map Value.string).toArray 9) :
    Calls Tryz.prog 27 #[.slice (some ⟨lb, 0, none⟩) n c, .string ⟨#[]⟩] W fun e w' => e = .returned (.bool false) ∧ w' = W := by
  refine (Tryz.slices_Contains_string lb 0 n c ps ⟨#[]⟩ W hn (by omega) (fun j hj => ?_)).mono ?_
  · have e : (ps.map Value.string).toArray[j]? = some (.string (ps.getD j ByteArray.empty)) := by simp [hj]
    exact (show W.cell? ⟨lb, 0 + j, none⟩ = _ by rw [Nat.zero_add]; exact h.cell j e)
  · rintro e w' ⟨rfl, rfl⟩
    rw [he]
    exact ⟨rfl, rfl⟩
set_option maxRecDepth 100000 in
set_option maxHeartbeats 16000000 in
theorem do_x (sb : Nat) (ks rg : Value) (d i b r mx : Int) (w : World) (hs : SesB w sb ks rg d i b r) (hm : MaxW w mx) :
    Calls Tryz.prog 7 #[.pointer (some ⟨sb, 0, none⟩), .string ⟨#[120]⟩] w fun e w' => e = .returned (.string ⟨#[101, 114, 114, 111, 114, 32, 49, 53]⟩) ∧ Same w w' := by
  have hmf : ∀ (fn : Fn) (first cap : Array Value) (w : World), (Instr.makeFunc fn first cap).run Tryz.prog w = .ok (.func fn first cap) w := fun _ _ _ _ => rfl
  have HSP := Px.hid (split_at ⟨#[120]⟩ ⟨#[32]⟩ 1 [⟨#[120]⟩] (by decide) (by decide) (by decide) (by decide) mx)
  have HS := Px.hid hs
  have HM := Px.hid hm
  clear hs hm
  go_enter Tryz.func7, Tryz.ntmps7
  go_wp2_with fail
  refine (HSP.out _ (MaxW.fr HM.out (Fr.alloc (Fr.refl (fun _ => False) w) _) (fun x => x))).mono ?_
  rintro e w1 ⟨lb, rfl, hs1, hlb, hbl⟩
  obtain ⟨ba, hba⟩ : ∃ ba, ba = w.heap.size := ⟨_, rfl⟩
  have hb1 : Blk w1 ba (actsC sb) 47 := by rw [hba]; exact Blk.sm (blk_new w _ _) hs1
  have hw1 : Same w w1 := Same.trans (Fr.alloc (Fr.refl _ w) _) hs1
  have hlw : w.heap.size ≤ lb := Nat.le_trans (by simp) hlb
  rw [← hba]
  have HB1 := Px.hid hb1
  have HL1 := Px.hid hbl
  have HW1 := Px.hid hw1
  have HLW := Px.hid hlw
  clear hs1 hlb hbl hba hb1 hw1 hmf HSP hlw
  go_wp2
  go_loopw [56] (fun i wr => Same w1 wr ∧ (i = .int .i64 0 ∨ i = .int .i64 1 ∨ i = .int .i64 2 ∨ i = .int .i64 3 ∨ i = .int .i64 4 ∨ i = .int .i64 5 ∨ i = .int .i64 6 ∨ i = .int .i64 7 ∨ i = .int .i64 8 ∨ i = .int .i64 9 ∨ i = .int .i64 10 ∨ i = .int .i64 11 ∨ i = .int .i64 12 ∨ i = .int .i64 13)) (fun i _ => 13 - (intOf i).toNat)
  case atStart => exact ⟨Same.refl _, by simp⟩
  case round =>
    obtain ⟨hsr, hi⟩ := hrel
    have hb := Blk.sm HB1.out hsr
    have hl := Blk.sm HL1.out hsr
    have HR := Px.hid hsr
    have HB := Px.hid hb
    have HL := Px.hid hl
    have hbl := hb.lt
    have hll := hl.lt
    have l0 : wr.cell? ⟨lb, 0, none⟩ = some (.string ⟨#[120]⟩) := hl.cell 0 rfl
    clear hsr hb hl
    rcases hi with rfl | rfl | rfl | rfl | rfl | rfl | rfl | rfl | rfl | rfl | rfl | rfl | rfl | rfl
    · have a0 : wr.cell? ⟨ba, 0, none⟩ = some (.string ⟨#[107, 101, 121]⟩) := HB.out.cell 0 rfl
      have a1 : wr.cell? ⟨ba, 1, none⟩ = some (.int .i64 2) := HB.out.cell 1 rfl
      have a2 : wr.cell? ⟨ba, 2, none⟩ = some (.func (.func 14) #[.pointer (some ⟨sb, 0, none⟩)] #[]) := HB.out.cell 2 rfl
      go_wp2
      go_quiet (fail)
      go_wp2
      go_roundw
      case rel => exact ⟨Fr.drewN (Fr.alloc HR.out _) _, by simp⟩
      case measure => simp [intOf]
    · have a0 : wr.cell? ⟨ba, 3, none⟩ = some (.string ⟨#[100, 114, 111, 112]⟩) := HB.out.cell 3 rfl
      have a1 : wr.cell? ⟨ba, 4, none⟩ = some (.int .i64 1) := HB.out.cell 4 rfl
      have a2 : wr.cell? ⟨ba, 5, none⟩ = some (.func (.func 15) #[.pointer (some ⟨sb, 0, none⟩)] #[]) := HB.out.cell 5 rfl
      go_wp2
      go_quiet (fail)
      go_wp2
      go_roundw
      case rel => exact ⟨Fr.drewN (Fr.alloc HR.out _) _, by simp⟩
      case measure => simp [intOf]
    · have a0 : wr.cell? ⟨ba, 6, none⟩ = some (.string ⟨#[108, 105, 109, 105, 116, 115]⟩) := HB.out.cell 6 rfl
      have a1 : wr.cell? ⟨ba, 7, none⟩ = some (.int .i64 4) := HB.out.cell 7 rfl
      have a2 : wr.cell? ⟨ba, 8, none⟩ = some (.func (.func 16) #[.pointer (some ⟨sb, 0, none⟩)] #[]) := HB.out.cell 8 rfl
      go_wp2
      go_quiet (fail)
      go_wp2
      go_roundw
      case rel => exact ⟨Fr.drewN (Fr.alloc HR.out _) _, by simp⟩
      case measure => simp [intOf]
    · have a0 : wr.cell? ⟨ba, 9, none⟩ = some (.string ⟨#[98, 101, 115, 105, 100, 101]⟩) := HB.out.cell 9 rfl
      have a1 : wr.cell? ⟨ba, 10, none⟩ = some (.int .i64 1) := HB.out.cell 10 rfl
      have a2 : wr.cell? ⟨ba, 11, none⟩ = some (.func (.func 17) #[.pointer (some ⟨sb, 0, none⟩)] #[]) := HB.out.cell 11 rfl
      go_wp2
      go_quiet (fail)
      go_wp2
      go_roundw
      case rel => exact ⟨Fr.drewN (Fr.alloc HR.out _) _, by simp⟩
      case measure => simp [intOf]
    · have a0 : wr.cell? ⟨ba, 12, none⟩ = some (.string ⟨#[112, 108, 97, 110]⟩) := HB.out.cell 12 rfl
      have a1 : wr.cell? ⟨ba, 13, none⟩ = some (.int .i64 3) := HB.out.cell 13 rfl
      have a2 : wr.cell? ⟨ba, 14, none⟩ = some (.func (.func 18) #[.pointer (some ⟨sb, 0, none⟩)] #[]) := HB.out.cell 14 rfl
      go_wp2
      go_quiet (fail)
      go_wp2
      go_roundw
      case rel => exact ⟨Fr.drewN (Fr.alloc HR.out _) _, by simp⟩
      case measure => simp [intOf]
    · have a0 : wr.cell? ⟨ba, 15, none⟩ = some (.string ⟨#[116, 111]⟩) := HB.out.cell 15 rfl
      have a1 : wr.cell? ⟨ba, 16, none⟩ = some (.int .i64 7) := HB.out.cell 16 rfl
      have a2 : wr.cell? ⟨ba, 17, none⟩ = some (.func (.func 19) #[.pointer (some ⟨sb, 0, none⟩)] #[]) := HB.out.cell 17 rfl
      go_wp2
      go_quiet (fail)
      go_wp2
      go_roundw
      case rel => exact ⟨Fr.drewN (Fr.alloc HR.out _) _, by simp⟩
      case measure => simp [intOf]
    · have a0 : wr.cell? ⟨ba, 18, none⟩ = some (.string ⟨#[100, 114, 97, 119]⟩) := HB.out.cell 18 rfl
      have a1 : wr.cell? ⟨ba, 19, none⟩ = some (.int .i64 3) := HB.out.cell 19 rfl
      have a2 : wr.cell? ⟨ba, 20, none⟩ = some (.func (.func 20) #[.pointer (some ⟨sb, 0, none⟩)] #[]) := HB.out.cell 20 rfl
      go_wp2
      go_quiet (fail)
      go_wp2
      go_roundw
      case rel => exact ⟨Fr.drewN (Fr.alloc HR.out _) _, by simp⟩
      case measure => simp [intOf]
    · have a0 : wr.cell? ⟨ba, 21, none⟩ = some (.string ⟨#[115, 101, 97, 108]⟩) := HB.out.cell 21 rfl
      have a1 : wr.cell? ⟨ba, 22, none⟩ = some (.int .i64 1) := HB.out.cell 22 rfl
      have a2 : wr.cell? ⟨ba, 23, none⟩ = some (.func (.func 21) #[.pointer (some ⟨sb, 0, none⟩)] #[]) := HB.out.cell 23 rfl
      go_wp2
      go_quiet (fail)
      go_wp2
      go_roundw
      case rel => exact ⟨Fr.drewN (Fr.alloc HR.out _) _, by simp⟩
      case measure => simp [intOf]
    · have a0 : wr.cell? ⟨ba, 24, none⟩ = some (.string ⟨#[111, 112, 101, 110]⟩) := HB.out.cell 24 rfl
      have a1 : wr.cell? ⟨ba, 25, none⟩ = some (.int .i64 1) := HB.out.cell 25 rfl
      have a2 : wr.cell? ⟨ba, 26, none⟩ = some (.func (.func 22) #[.pointer (some ⟨sb, 0, none⟩)] #[]) := HB.out.cell 26 rfl
      go_wp2
      go_quiet (fail)
      go_wp2
      go_roundw
      case rel => exact ⟨Fr.drewN (Fr.alloc HR.out _) _, by simp⟩
      case measure => simp [intOf]
    · have a0 : wr.cell? ⟨ba, 27, none⟩ = some (.string ⟨#[108, 111, 111, 107]⟩) := HB.out.cell 27 rfl
      have a1 : wr.cell? ⟨ba, 28, none⟩ = some (.int .i64 1) := HB.out.cell 28 rfl
      have a2 : wr.cell? ⟨ba, 29, none⟩ = some (.func (.func 23) #[.pointer (some ⟨sb, 0, none⟩)] #[]) := HB.out.cell 29 rfl
      go_wp2
      go_quiet (fail)
      go_wp2
      go_roundw
      case rel => exact ⟨Fr.drewN (Fr.alloc HR.out _) _, by simp⟩
      case measure => simp [intOf]
    · have a0 : wr.cell? ⟨ba, 30, none⟩ = some (.string ⟨#[97, 103, 97, 105, 110]⟩) := HB.out.cell 30 rfl
      have a1 : wr.cell? ⟨ba, 31, none⟩ = some (.int .i64 1) := HB.out.cell 31 rfl
      have a2 : wr.cell? ⟨ba, 32, none⟩ = some (.func (.func 24) #[.pointer (some ⟨sb, 0, none⟩)] #[]) := HB.out.cell 32 rfl
      go_wp2
      go_quiet (fail)
      go_wp2
      go_roundw
      case rel => exact ⟨Fr.drewN (Fr.alloc HR.out _) _, by simp⟩
      case measure => simp [intOf]
    · have a0 : wr.cell? ⟨ba, 33, none⟩ = some (.string ⟨#[117, 115, 101, 115]⟩) := HB.out.cell 33 rfl
      have a1 : wr.cell? ⟨ba, 34, none⟩ = some (.int .i64 1) := HB.out.cell 34 rfl
      have a2 : wr.cell? ⟨ba, 35, none⟩ = some (.func (.func 25) #[.pointer (some ⟨sb, 0, none⟩)] #[]) := HB.out.cell 35 rfl
      go_wp2
      go_quiet (fail)
      go_wp2
      go_roundw
      case rel => exact ⟨Fr.drewN (Fr.alloc HR.out _) _, by simp⟩
      case measure => simp [intOf]
    · have a0 : wr.cell? ⟨ba, 36, none⟩ = some (.string ⟨#[110, 97, 109, 101, 115]⟩) := HB.out.cell 36 rfl
      have a1 : wr.cell? ⟨ba, 37, none⟩ = some (.int .i64 0) := HB.out.cell 37 rfl
      have a2 : wr.cell? ⟨ba, 38, none⟩ = some (.func (.func 26) #[.pointer (some ⟨sb, 0, none⟩)] #[]) := HB.out.cell 38 rfl
      go_wp2
      go_quiet (fail)
      go_wp2
      go_roundw
      case rel => exact ⟨Fr.drewN (Fr.alloc HR.out _) _, by simp⟩
      case measure => simp [intOf]
    · go_wp2_with (go_at_call 13; refine (failed_15 _).mono ?_; rintro e w' ⟨rfl, rfl⟩)
      go_ret
      exact ⟨rfl, HW1.out.trans HR.out⟩
set_option maxRecDepth 100000 in
set_option maxHeartbeats 16000000 in
theorem do_names (sb : Nat) (ks rg : Value) (d i b r mx : Int) (B rb : Nat) (w : World) (hs : SesB w sb ks rg d i b r) (hm : MaxW w mx) (hrg : rg = .pointer (some ⟨rb, 0, none⟩)) (hr : RingA w B rb) :
    Calls Tryz.prog 7 #[.pointer (some ⟨sb, 0, none⟩), .string ⟨#[110, 97, 109, 101, 115]⟩] w fun e w' => e = .returned (.string ⟨#[54, 49]⟩) ∧ Fr (fun k => k = rb) w w' := by
  have hmf : ∀ (fn : Fn) (first cap : Array Value) (w : World), (Instr.makeFunc fn first cap).run Tryz.prog w = .ok (.func fn first cap) w := fun _ _ _ _ => rfl
  have HSP := Px.hid (split_at ⟨#[110, 97, 109, 101, 115]⟩ ⟨#[32]⟩ 1 [⟨#[110, 97, 109, 101, 115]⟩] (by decide) (by decide) (by decide) (by decide) mx)
  have HS := Px.hid hs
  have HM := Px.hid hm
  have HRG := Px.hid hr
  subst hrg
  clear hr
  clear hs hm
  go_enter Tryz.func7, Tryz.ntmps7
  go_wp2_with fail
  refine (HSP.out _ (MaxW.fr HM.out (Fr.alloc (Fr.refl (fun _ => False) w) _) (fun x => x))).mono ?_
  rintro e w1 ⟨lb, rfl, hs1, hlb, hbl⟩
  obtain ⟨ba, hba⟩ : ∃ ba, ba = w.heap.size := ⟨_, rfl⟩
  have hb1 : Blk w1 ba (actsC sb) 47 := by rw [hba]; exact Blk.sm (blk_new w _ _) hs1
  have hw1 : Same w w1 := Same.trans (Fr.alloc (Fr.refl _ w) _) hs1
  have hlw : w.heap.size ≤ lb := Nat.le_trans (by simp) hlb
  rw [← hba]
  have HB1 := Px.hid hb1
  have HL1 := Px.hid hbl
  have HW1 := Px.hid hw1
  have HLW := Px.hid hlw
  clear hs1 hlb hbl hba hb1 hw1 hmf HSP hlw
  go_wp2
  go_loopw [56] (fun i wr => Same w1 wr ∧ (i = .int .i64 0 ∨ i = .int .i64 1 ∨ i = .int .i64 2 ∨ i = .int .i64 3 ∨ i = .int .i64 4 ∨ i = .int .i64 5 ∨ i = .int .i64 6 ∨ i = .int .i64 7 ∨ i = .int .i64 8 ∨ i = .int .i64 9 ∨ i = .int .i64 10 ∨ i = .int .i64 11 ∨ i = .int .i64 12)) (fun i _ => 12 - (intOf i).toNat)
  case atStart => exact ⟨Same.refl _, by simp⟩
  case round =>
    obtain ⟨hsr, hi⟩ := hrel
    have hb := Blk.sm HB1.out hsr
    have hl := Blk.sm HL1.out hsr
    have HR := Px.hid hsr
    have HB := Px.hid hb
    have HL := Px.hid hl
    have hbl := hb.lt
    have hll := hl.lt
    have l0 : wr.cell? ⟨lb, 0, none⟩ = some (.string ⟨#[110, 97, 109, 101, 115]⟩) := hl.cell 0 rfl
    clear hsr hb hl
    rcases hi with rfl | rfl | rfl | rfl | rfl | rfl | rfl | rfl | rfl | rfl | rfl | rfl | rfl
    · have a0 : wr.cell? ⟨ba, 0, none⟩ = some (.string ⟨#[107, 101, 121]⟩) := HB.out.cell 0 rfl
      have a1 : wr.cell? ⟨ba, 1, none⟩ = some (.int .i64 2) := HB.out.cell 1 rfl
      have a2 : wr.cell? ⟨ba, 2, none⟩ = some (.func (.func 14) #[.pointer (some ⟨sb, 0, none⟩)] #[]) := HB.out.cell 2 rfl
      go_wp2
      go_quiet (fail)
      go_wp2
      go_roundw
      case rel => exact ⟨Fr.drewN (Fr.alloc HR.out _) _, by simp⟩
      case measure => simp [intOf]
    · have a0 : wr.cell? ⟨ba, 3, none⟩ = some (.string ⟨#[100, 114, 111, 112]⟩) := HB.out.cell 3 rfl
      have a1 : wr.cell? ⟨ba, 4, none⟩ = some (.int .i64 1) := HB.out.cell 4 rfl
      have a2 : wr.cell? ⟨ba, 5, none⟩ = some (.func (.func 15) #[.pointer (some ⟨sb, 0, none⟩)] #[]) := HB.out.cell 5 rfl
      go_wp2
      go_quiet (fail)
      go_wp2
      go_roundw
      case rel => exact ⟨Fr.drewN (Fr.alloc HR.out _) _, by simp⟩
      case measure => simp [intOf]
    · have a0 : wr.cell? ⟨ba, 6, none⟩ = some (.string ⟨#[108, 105, 109, 105, 116, 115]⟩) := HB.out.cell 6 rfl
      have a1 : wr.cell? ⟨ba, 7, none⟩ = some (.int .i64 4) := HB.out.cell 7 rfl
      have a2 : wr.cell? ⟨ba, 8, none⟩ = some (.func (.func 16) #[.pointer (some ⟨sb, 0, none⟩)] #[]) := HB.out.cell 8 rfl
      go_wp2
      go_quiet (fail)
      go_wp2
      go_roundw
      case rel => exact ⟨Fr.drewN (Fr.alloc HR.out _) _, by simp⟩
      case measure => simp [intOf]
    · have a0 : wr.cell? ⟨ba, 9, none⟩ = some (.string ⟨#[98, 101, 115, 105, 100, 101]⟩) := HB.out.cell 9 rfl
      have a1 : wr.cell? ⟨ba, 10, none⟩ = some (.int .i64 1) := HB.out.cell 10 rfl
      have a2 : wr.cell? ⟨ba, 11, none⟩ = some (.func (.func 17) #[.pointer (some ⟨sb, 0, none⟩)] #[]) := HB.out.cell 11 rfl
      go_wp2
      go_quiet (fail)
      go_wp2
      go_roundw
      case rel => exact ⟨Fr.drewN (Fr.alloc HR.out _) _, by simp⟩
      case measure => simp [intOf]
    · have a0 : wr.cell? ⟨ba, 12, none⟩ = some (.string ⟨#[112, 108, 97, 110]⟩) := HB.out.cell 12 rfl
      have a1 : wr.cell? ⟨ba, 13, none⟩ = some (.int .i64 3) := HB.out.cell 13 rfl
      have a2 : wr.cell? ⟨ba, 14, none⟩ = some (.func (.func 18) #[.pointer (some ⟨sb, 0, none⟩)] #[]) := HB.out.cell 14 rfl
      go_wp2
      go_quiet (fail)
      go_wp2
      go_roundw
      case rel => exact ⟨Fr.drewN (Fr.alloc HR.out _) _, by simp⟩
      case measure => simp [intOf]
    · have a0 : wr.cell? ⟨ba, 15, none⟩ = some (.string ⟨#[116, 111]⟩) := HB.out.cell 15 rfl
      have a1 : wr.cell? ⟨ba, 16, none⟩ = some (.int .i64 7) := HB.out.cell 16 rfl
      have a2 : wr.cell? ⟨ba, 17, none⟩ = some (.func (.func 19) #[.pointer (some ⟨sb, 0, none⟩)] #[]) := HB.out.cell 17 rfl
      go_wp2
      go_quiet (fail)
      go_wp2
      go_roundw
      case rel => exact ⟨Fr.drewN (Fr.alloc HR.out _) _, by simp⟩
      case measure => simp [intOf]
    · have a0 : wr.cell? ⟨ba, 18, none⟩ = some (.string ⟨#[100, 114, 97, 119]⟩) := HB.out.cell 18 rfl
      have a1 : wr.cell? ⟨ba, 19, none⟩ = some (.int .i64 3) := HB.out.cell 19 rfl
      have a2 : wr.cell? ⟨ba, 20, none⟩ = some (.func (.func 20) #[.pointer (some ⟨sb, 0, none⟩)] #[]) := HB.out.cell 20 rfl
      go_wp2
      go_quiet (fail)
      go_wp2
      go_roundw
      case rel => exact ⟨Fr.drewN (Fr.alloc HR.out _) _, by simp⟩
      case measure => simp [intOf]
    · have a0 : wr.cell? ⟨ba, 21, none⟩ = some (.string ⟨#[115, 101, 97, 108]⟩) := HB.out.cell 21 rfl
      have a1 : wr.cell? ⟨ba, 22, none⟩ = some (.int .i64 1) := HB.out.cell 22 rfl
      have a2 : wr.cell? ⟨ba, 23, none⟩ = some (.func (.func 21) #[.pointer (some ⟨sb, 0, none⟩)] #[]) := HB.out.cell 23 rfl
      go_wp2
      go_quiet (fail)
      go_wp2
      go_roundw
      case rel => exact ⟨Fr.drewN (Fr.alloc HR.out _) _, by simp⟩
      case measure => simp [intOf]
    · have a0 : wr.cell? ⟨ba, 24, none⟩ = some (.string ⟨#[111, 112, 101, 110]⟩) := HB.out.cell 24 rfl
      have a1 : wr.cell? ⟨ba, 25, none⟩ = some (.int .i64 1) := HB.out.cell 25 rfl
      have a2 : wr.cell? ⟨ba, 26, none⟩ = some (.func (.func 22) #[.pointer (some ⟨sb, 0, none⟩)] #[]) := HB.out.cell 26 rfl
      go_wp2
      go_quiet (fail)
      go_wp2
      go_roundw
      case rel => exact ⟨Fr.drewN (Fr.alloc HR.out _) _, by simp⟩
      case measure => simp [intOf]
    · have a0 : wr.cell? ⟨ba, 27, none⟩ = some (.string ⟨#[108, 111, 111, 107]⟩) := HB.out.cell 27 rfl
      have a1 : wr.cell? ⟨ba, 28, none⟩ = some (.int .i64 1) := HB.out.cell 28 rfl
      have a2 : wr.cell? ⟨ba, 29, none⟩ = some (.func (.func 23) #[.pointer (some ⟨sb, 0, none⟩)] #[]) := HB.out.cell 29 rfl
      go_wp2
      go_quiet (fail)
      go_wp2
      go_roundw
      case rel => exact ⟨Fr.drewN (Fr.alloc HR.out _) _, by simp⟩
      case measure => simp [intOf]
    · have a0 : wr.cell? ⟨ba, 30, none⟩ = some (.string ⟨#[97, 103, 97, 105, 110]⟩) := HB.out.cell 30 rfl
      have a1 : wr.cell? ⟨ba, 31, none⟩ = some (.int .i64 1) := HB.out.cell 31 rfl
      have a2 : wr.cell? ⟨ba, 32, none⟩ = some (.func (.func 24) #[.pointer (some ⟨sb, 0, none⟩)] #[]) := HB.out.cell 32 rfl
      go_wp2
      go_quiet (fail)
      go_wp2
      go_roundw
      case rel => exact ⟨Fr.drewN (Fr.alloc HR.out _) _, by simp⟩
      case measure => simp [intOf]
    · have a0 : wr.cell? ⟨ba, 33, none⟩ = some (.string ⟨#[117, 115, 101, 115]⟩) := HB.out.cell 33 rfl
      have a1 : wr.cell? ⟨ba, 34, none⟩ = some (.int .i64 1) := HB.out.cell 34 rfl
      have a2 : wr.cell? ⟨ba, 35, none⟩ = some (.func (.func 25) #[.pointer (some ⟨sb, 0, none⟩)] #[]) := HB.out.cell 35 rfl
      go_wp2
      go_quiet (fail)
      go_wp2
      go_roundw
      case rel => exact ⟨Fr.drewN (Fr.alloc HR.out _) _, by simp⟩
      case measure => simp [intOf]
    · have a0 : wr.cell? ⟨ba, 36, none⟩ = some (.string ⟨#[110, 97, 109, 101, 115]⟩) := HB.out.cell 36 rfl
      have a1 : wr.cell? ⟨ba, 37, none⟩ = some (.int .i64 0) := HB.out.cell 37 rfl
      have a2 : wr.cell? ⟨ba, 38, none⟩ = some (.func (.func 26) #[.pointer (some ⟨sb, 0, none⟩)] #[]) := HB.out.cell 38 rfl
      go_wp2
      obtain ⟨w2, hw2⟩ : ∃ w2, w2 = wr.alloc (.cells #[.string ⟨#[110, 97, 109, 101, 115]⟩, .int .i64 0, .func (.func 26) #[.pointer (some ⟨sb, 0, none⟩)] #[]] 47 (0, 0)) := ⟨_, rfl⟩
      obtain ⟨pa, hpa⟩ : ∃ pa, pa = wr.heap.size := ⟨_, rfl⟩
      rw [← hw2, ← hpa]
      have hs2 : Same w1 w2 := by rw [hw2]; exact Fr.alloc HR.out _
      have hp2 : Blk w2 pa #[.string ⟨#[110, 97, 109, 101, 115]⟩, .int .i64 0, .func (.func 26) #[.pointer (some ⟨sb, 0, none⟩)] #[]] 47 := by rw [hw2, hpa]; exact blk_new wr _ _
      have HS2 := Px.hid hs2
      have HP2 := Px.hid hp2
      have HL2 := Px.hid (Blk.sm HL1.out hs2)
      have p0 : w2.cell? ⟨pa, 0, none⟩ = some (.string ⟨#[110, 97, 109, 101, 115]⟩) := hp2.cell 0 rfl
      have p1 : w2.cell? ⟨pa, 1, none⟩ = some (.int .i64 0) := hp2.cell 1 rfl
      have p2 : w2.cell? ⟨pa, 2, none⟩ = some (.func (.func 26) #[.pointer (some ⟨sb, 0, none⟩)] #[]) := hp2.cell 2 rfl
      have l2 : w2.cell? ⟨lb, 0, none⟩ = some (.string ⟨#[110, 97, 109, 101, 115]⟩) := HL2.out.cell 0 rfl
      have hpl := hp2.lt
      have hll2 := HL2.out.lt
      clear hw2 hpa hs2 hp2 a0 a1 a2 hbl hll l0 HR HB HL
      have HCN := Px.hid (fun m => no_empty lb 1 1 [⟨#[110, 97, 109, 101, 115]⟩] (by decide) (by decide) (by decide) (w2.drewN m) HL2.out)
      go_quiet ((go_at_call 27; exact Calls.quiet_of_same (HCN.out _)))
      go_wp2
      obtain ⟨w4, hw4⟩ : ∃ w4, w4 = w2.drewN nq := ⟨_, rfl⟩
      rw [← hw4]
      have hs4 : Same w2 w4 := by rw [hw4]; exact Fr.drewN (Fr.refl _ w2) nq
      have HS4 := Px.hid (Same.trans HS2.out hs4)
      have hp4 := Blk.sm HP2.out hs4
      have hl4 := Blk.sm HL2.out hs4
      have HL4 := Px.hid hl4
      clear hw4 p0 p1 p2 l2 hpl hll2 HCN HP2 HL2
      have p2 : w4.cell? ⟨pa, 2, none⟩ = some (.func (.func 26) #[.pointer (some ⟨sb, 0, none⟩)] #[]) := hp4.cell 2 rfl
      have hpl := hp4.lt
      have hll4 := hl4.lt
      clear hs4 hp4 hl4 HS2
      have HNM := Px.hid (fun (W : World) (h : Same w4 W) (x : Value) => names_a sb B rb ks x d i b r W (Blk.sm HS.out (HW1.out.trans (HS4.out.trans h))) (RingA.sm HRG.out (HW1.out.trans (HS4.out.trans h))))
      go_region_law (go_simp; go_at_call 26; refine (HNM.out _ (by repeat' first | exact Same.refl _ | refine Fr.alloc ?_ _ | refine Fr.drewN ?_ _ | refine Fr.drew ?_) _).mono ?_; rintro e w3 ⟨rfl, hf3⟩)
      all_goals
        go_wp2
        go_ret
        exact ⟨rfl, Fr.trans (Fr.mono (Same.trans HW1.out (Same.trans HS4.out (by repeat' first | exact Same.refl _ | refine Fr.alloc ?_ _ | refine Fr.drewN ?_ _ | refine Fr.drew ?_))) (fun _ x => x.elim)) hf3 (fun _ _ x => x)⟩
end Go.Proofs.YtebpacdbcoacgaaGreatDoor
