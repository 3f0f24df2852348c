/-
  The walks over octet.Hex and Unhex at the examples' texts, script.failed and shown.
-/
import Derived.Test.YtebpacdbcoacgaaGreatDoorScB
import Derived.Laws.EntriesVeiled
import Derived.Outline
namespace Go.Proofs.YtebpacdbcoacgaaGreatDoor
open Go.RowKit Go.Px
set_option maxRecDepth 100000 in
set_option maxHeartbeats 4000000 in
theorem hex_a (w : World) : Calls Tryz.prog 67 #[.string ⟨#[97]⟩] w fun e w' => e = .returned (.string ⟨#[54, 49]⟩) ∧ Same w w' := by
  have HB := Px.hid (bd_new w)
  go_enter Tryz.func67, Tryz.ntmps67
  go_wp2
  refine wp_loop_rounds 2 ?_
  rw [rounds_succ]
  go_wp2_with fail
  refine (wbyte_any w.heap.size w.heap.size [] 54 _ HB.out (by decide) (by simp)).mono ?_
  rintro e w1 ⟨rfl, hb1, hk1, _⟩
  have HB1 := Px.hid hb1
  have HK1 := Px.hid hk1
  have hz1 : w.heap.size ≤ w1.heap.size := Nat.le_trans (by simp) hk1.size
  clear hb1 hk1
  go_wp2_with fail
  refine (wbyte_any w.heap.size w.heap.size [54] 49 _ HB1.out (by decide) hz1).mono ?_
  rintro e w2 ⟨rfl, hb2, hk2, _⟩
  have HB2 := Px.hid hb2
  have HK2 := Px.hid hk2
  have hz2 := hk2.size
  clear hb2 hk2
  go_wp2_with fail
  rw [rounds_succ]
  go_wp2_with fail
  refine (bstr_any w.heap.size w.heap.size [54, 49] _ HB2.out (Nat.le_trans hz1 hz2)).mono ?_
  rintro e w3 ⟨rfl, hk3⟩
  go_wp2_with fail
  go_ret
  exact ⟨rfl, Same.of (((Below.refl _ w).alloc (Nat.le_refl _) _).trans (HK1.out.trans (HK2.out.trans hk3)))⟩
theorem conv1 (c : UInt8) (b : Nat) (W : World) (h : Blk W b #[.int .u8 c.toNat] 5) : (convert 35 9 (.slice (some ⟨b, 0, none⟩) 1 1)).run Tryz.prog W = .ok (S [c]) W := by
  have e : (convert 35 9 (.slice (some ⟨b, 0, none⟩) 1 1)).run Tryz.prog W = .ok (.string (Go.strOfNums ([c].map fun c => ((c.toNat : Nat) : Int)))) W :=
    run_convert_bytes_arg W 35 5 Tryz.underlying35 Tryz.underlying5 b 0 1 1 [(c.toNat : Int)] rfl (fun i hi => by
      have : i = 0 := by omega
      subst this
      exact h.cell 0 rfl) 9 Tryz.underlying9
  rw [e, strOf_bytes]
theorem ix_any (c : UInt8) (k : Int) (h : Lib.indexByte [48, 49, 50, 51, 52, 53, 54, 55, 56, 57, 97, 98, 99, 100, 101, 102] c = k) (w : World) :
    Calls Tryz.prog 81 #[.string ⟨#[48, 49, 50, 51, 52, 53, 54, 55, 56, 57, 97, 98, 99, 100, 101, 102]⟩, .int .u8 c.toNat] w fun e w' => e = .returned (.int .i64 k) ∧ w = w' := by
  refine (Tryz.strings_IndexByte ⟨#[48, 49, 50, 51, 52, 53, 54, 55, 56, 57, 97, 98, 99, 100, 101, 102]⟩ c.toNat w).mono ?_
  rintro e w' ⟨rfl, rfl⟩
  refine ⟨?_, rfl⟩
  have e1 : ((c.toNat : Nat) : Int).toNat.toUInt8 = c := by simp
  rw [e1]
  show Ending.returned (.int .i64 (Lib.indexByte [48, 49, 50, 51, 52, 53, 54, 55, 56, 57, 97, 98, 99, 100, 101, 102] c)) = _
  rw [h]
set_option maxRecDepth 100000 in
set_option maxHeartbeats 4000000 in
theorem unhex_61 (w : World) : Calls Tryz.prog 58 #[.string ⟨#[54, 49]⟩] w fun e w' => e = .returned (.tuple #[.string ⟨#[97]⟩, .int .i64 0, .int .i64 0]) ∧ Same w w' := by
  have hm2 : ∀ W : World, (Instr.makeSlice 35 (.int .i64 2) (.int .i64 2)).run Tryz.prog W = .ok (.slice (some ⟨W.heap.size, 0, none⟩) 2 2) (W.alloc (.cells #[.int .u8 0, .int .u8 0] 5 (0, 0))) := fun _ => by kernel_rfl
  have hm1 : ∀ W : World, (Instr.makeSlice 35 (.int .i64 1) (.int .i64 1)).run Tryz.prog W = .ok (.slice (some ⟨W.heap.size, 0, none⟩) 1 1) (W.alloc (.cells #[.int .u8 0] 5 (0, 0))) := fun _ => by kernel_rfl
  go_enter Tryz.func58, Tryz.ntmps58
  go_wp2
  refine wp_loop_rounds 3 ?_
  rw [rounds_succ]
  go_wp2_with (go_at_call 81; refine (ix_any _ 6 (by decide) _).mono ?_; rintro e w' ⟨rfl, rfl⟩)
  rw [rounds_succ]
  go_wp2_with (go_at_call 81; refine (ix_any _ 1 (by decide) _).mono ?_; rintro e w' ⟨rfl, rfl⟩)
  rw [rounds_succ]
  go_wp2
  refine wp_loop_rounds 2 ?_
  rw [rounds_succ]
  go_wp2
  have hbits : bits .or .u8 96 1 = 97 := by rfl
  go_region
  go_wp2
  have hcv := conv1 97 (w.heap.size + 1) ((((w.alloc (.cells #[.int .u8 6, .int .u8 1] 5)).alloc (.cells #[.int .u8 97] 5)).drew)) (by
    have h := blk_new (w.alloc (.cells #[.int .u8 6, .int .u8 1] 5)) #[.int .u8 97] 5
    have e : (w.alloc (.cells #[.int .u8 6, .int .u8 1] 5)).heap.size = w.heap.size + 1 := by simp
    rw [e] at h
    exact h)
  rw [rounds_succ]
  go_wp2
  go_ret3
  exact ⟨rfl, Fr.drew (Fr.alloc (Fr.alloc (Fr.refl _ w) _) _)⟩
end Go.Proofs.YtebpacdbcoacgaaGreatDoor
