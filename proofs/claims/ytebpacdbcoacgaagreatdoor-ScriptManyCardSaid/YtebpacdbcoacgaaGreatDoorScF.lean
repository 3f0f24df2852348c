/-
  The walks over strconv.Atoi and a line's number, at one digit (printed by gen_scf.py).
-/
import Derived.Test.YtebpacdbcoacgaaGreatDoorScE
import Derived.Lib.ConvBytes
namespace Go.Proofs.YtebpacdbcoacgaaGreatDoor
open Go.RowKit Go.Px
theorem conv_digit (c : UInt8) (w : World) : ∃ (w1 : World) (n : Nat), (convert 9 35 (.string ⟨#[c]⟩)).run Tryz.prog w = .ok (.slice (some ⟨w.heap.size, 0, none⟩) 1 n) w1 ∧ w1.cell? ⟨w.heap.size, 0, none⟩ = some (.int .u8 c.toNat) ∧ Same w w1 := by
  refine ⟨Lib.bytesWorld w 5 ⟨#[c]⟩, _, Lib.run_convert_string_bytes (P := Tryz.prog) w 9 35 5 ⟨#[c]⟩ Tryz.underlying9 Tryz.underlying35 Tryz.underlying5, Lib.bytesWorld_cell w 5 ⟨#[c]⟩ 0 (by show 0 < 1; omega), ?_⟩
  exact ⟨by simp [Lib.bytesWorld, World.freeze, World.alloc, World.drew, -World.alloc_eq, -World.drew_eq], by simp [Lib.bytesWorld, World.freeze, World.alloc, World.drew, -World.alloc_eq, -World.drew_eq], by simp [Lib.bytesWorld, World.freeze, World.alloc, World.drew, -World.alloc_eq, -World.drew_eq], by rw [Lib.bytesWorld_size]; omega, fun k hk _ => Lib.bytesWorld_at_old w 5 ⟨#[c]⟩ k hk⟩
set_option maxRecDepth 100000 in
set_option maxHeartbeats 4000000 in
theorem iatoi_48 (w : World) : Calls Tryz.prog 89 #[.string ⟨#[48]⟩] w fun e w' => e = .returned (.tuple #[.int .i64 0, .nilIface]) ∧ Same w w' := by
  obtain ⟨w1, n, hcv, hc, hs⟩ := conv_digit 48 w
  have HS := Px.hid hs
  clear hs
  have hc' : w1.cell? ⟨w.heap.size, 0, none⟩ = some (.int .u8 48) := hc
  clear hc
  go_enter Tryz.func89, Tryz.ntmps89
  go_wp2
  refine wp_loop_rounds 2 ?_
  rw [rounds_succ]
  go_wp2
  rw [rounds_succ]
  go_wp2
  go_ret2
  exact ⟨rfl, HS.out⟩
theorem atoi_48 (w : World) : Calls Tryz.prog 61 #[.string ⟨#[48]⟩] w fun e w' => e = .returned (.tuple #[.int .i64 0, .nilIface]) ∧ Same w w' := by
  go_enter Tryz.func61, Tryz.ntmps61
  go_wp2_with (go_at_call 89; refine (iatoi_48 _).mono ?_; rintro e w1 ⟨rfl, hs⟩)
  go_ret2
  exact ⟨rfl, hs⟩
set_option maxRecDepth 100000 in
set_option maxHeartbeats 4000000 in
theorem number_48 (w : World) (wb lb off n off' : Nat) (h : Wd w wb lb off (n + 1) false) (hc : w.cell? ⟨lb, off, none⟩ = some (.string ⟨#[48]⟩)) (hn : n ≤ 100) (ho : (if n = 0 then off else off + 1) = off') :
    Calls Tryz.prog 39 #[.pointer (some ⟨wb, 0, none⟩)] w fun e w' => e = .returned (.int .i64 0) ∧ Fr (fun k => k = wb) w w' ∧ Wd w' wb lb off' n false := by
  have HN := Px.hid (next_any w wb lb off n off' false ⟨#[48]⟩ h hc hn ho)
  clear h hc ho
  go_enter Tryz.func39, Tryz.ntmps39
  go_wp2_with (go_at_call 57; refine HN.out.mono ?_; rintro e w1 ⟨rfl, hfr, hw⟩)
  have HF := Px.hid hfr
  have HW := Px.hid hw
  clear hfr hw
  go_wp2_with fail
  refine (trim_digit 48 (by decide) _).mono ?_
  rintro e w2 ⟨rfl, hs2⟩
  have HS2 := Px.hid hs2
  clear hs2
  go_wp2_with fail
  refine (atoi_48 _).mono ?_
  rintro e w3 ⟨rfl, hs3⟩
  have HS3 := Px.hid hs3
  clear hs3
  go_wp2_with fail
  go_ret
  exact ⟨rfl, HF.out.trans (HS2.out.trans HS3.out) (fun _ _ x => x.elim), HW.out.sm (HS2.out.trans HS3.out)⟩
set_option maxRecDepth 100000 in
set_option maxHeartbeats 4000000 in
theorem iatoi_49 (w : World) : Calls Tryz.prog 89 #[.string ⟨#[49]⟩] w fun e w' => e = .returned (.tuple #[.int .i64 1, .nilIface]) ∧ Same w w' := by
  obtain ⟨w1, n, hcv, hc, hs⟩ := conv_digit 49 w
  have HS := Px.hid hs
  clear hs
  have hc' : w1.cell? ⟨w.heap.size, 0, none⟩ = some (.int .u8 49) := hc
  clear hc
  go_enter Tryz.func89, Tryz.ntmps89
  go_wp2
  refine wp_loop_rounds 2 ?_
  rw [rounds_succ]
  go_wp2
  rw [rounds_succ]
  go_wp2
  go_ret2
  exact ⟨rfl, HS.out⟩
theorem atoi_49 (w : World) : Calls Tryz.prog 61 #[.string ⟨#[49]⟩] w fun e w' => e = .returned (.tuple #[.int .i64 1, .nilIface]) ∧ Same w w' := by
  go_enter Tryz.func61, Tryz.ntmps61
  go_wp2_with (go_at_call 89; refine (iatoi_49 _).mono ?_; rintro e w1 ⟨rfl, hs⟩)
  go_ret2
  exact ⟨rfl, hs⟩
set_option maxRecDepth 100000 in
set_option maxHeartbeats 4000000 in
theorem number_49 (w : World) (wb lb off n off' : Nat) (h : Wd w wb lb off (n + 1) false) (hc : w.cell? ⟨lb, off, none⟩ = some (.string ⟨#[49]⟩)) (hn : n ≤ 100) (ho : (if n = 0 then off else off + 1) = off') :
    Calls Tryz.prog 39 #[.pointer (some ⟨wb, 0, none⟩)] w fun e w' => e = .returned (.int .i64 1) ∧ Fr (fun k => k = wb) w w' ∧ Wd w' wb lb off' n false := by
  have HN := Px.hid (next_any w wb lb off n off' false ⟨#[49]⟩ h hc hn ho)
  clear h hc ho
  go_enter Tryz.func39, Tryz.ntmps39
  go_wp2_with (go_at_call 57; refine HN.out.mono ?_; rintro e w1 ⟨rfl, hfr, hw⟩)
  have HF := Px.hid hfr
  have HW := Px.hid hw
  clear hfr hw
  go_wp2_with fail
  refine (trim_digit 49 (by decide) _).mono ?_
  rintro e w2 ⟨rfl, hs2⟩
  have HS2 := Px.hid hs2
  clear hs2
  go_wp2_with fail
  refine (atoi_49 _).mono ?_
  rintro e w3 ⟨rfl, hs3⟩
  have HS3 := Px.hid hs3
  clear hs3
  go_wp2_with fail
  go_ret
  exact ⟨rfl, HF.out.trans (HS2.out.trans HS3.out) (fun _ _ x => x.elim), HW.out.sm (HS2.out.trans HS3.out)⟩
end Go.Proofs.YtebpacdbcoacgaaGreatDoor
