/-
  The walks over a line's words: name, bytes, number.
-/
import Derived.Test.YtebpacdbcoacgaaGreatDoorScD
namespace Go.Proofs.YtebpacdbcoacgaaGreatDoor
open Go.RowKit Go.Px
set_option maxRecDepth 100000 in
theorem name_a (w : World) (wb lb off n off' : Nat) (bad : Bool) (h : Wd w wb lb off (n + 1) bad) (hc : w.cell? ⟨lb, off, none⟩ = some (.string ⟨#[97]⟩)) (hn : n ≤ 100) (ho : (if n = 0 then off else off + 1) = off') :
    Calls Tryz.prog 32 #[.pointer (some ⟨wb, 0, none⟩)] w fun e w' => e = .returned (.string ⟨#[97]⟩) ∧ Fr (fun k => k = wb) w w' ∧ Wd w' wb lb off' n bad := by
  have HN := Px.hid (next_any w wb lb off n off' bad ⟨#[97]⟩ h hc hn ho)
  clear h hc ho
  go_enter Tryz.func32, Tryz.ntmps32
  go_wp2_with (go_at_call 57; refine HN.out.mono ?_; rintro e w' ⟨rfl, hfr, hw⟩)
  go_ret
  exact ⟨rfl, hfr, hw⟩
set_option maxRecDepth 100000 in
theorem bytes_61 (w : World) (wb lb off n off' : Nat) (h : Wd w wb lb off (n + 1) false) (hc : w.cell? ⟨lb, off, none⟩ = some (.string ⟨#[54, 49]⟩)) (hn : n ≤ 100) (ho : (if n = 0 then off else off + 1) = off') :
    Calls Tryz.prog 33 #[.pointer (some ⟨wb, 0, none⟩)] w fun e w' => e = .returned (.string ⟨#[97]⟩) ∧ Fr (fun k => k = wb) w w' ∧ Wd w' wb lb off' n false := by
  have HN := Px.hid (next_any w wb lb off n off' false ⟨#[54, 49]⟩ h hc hn ho)
  clear h hc ho
  go_enter Tryz.func33, Tryz.ntmps33
  go_wp2_with (go_at_call 57; refine HN.out.mono ?_; rintro e w1 ⟨rfl, hfr, hw⟩)
  have HF := Px.hid hfr
  have HW := Px.hid hw
  clear hfr hw
  go_wp2_with fail
  refine (unhex_61 _).mono ?_
  rintro e w2 ⟨rfl, hs⟩
  have HW2 := Px.hid (HW.out.sm hs)
  have HS := Px.hid hs
  clear hs
  have c1 : w2.cell? ⟨wb, 1, none⟩ = some (.bool false) := HW2.out.cell 1 rfl
  have f1 : w2.frozen? ⟨wb, 1, none⟩ = false := HW2.out.free 1
  go_wp2_with fail
  go_ret
  exact ⟨rfl, Fr.setCell (F := fun k => k = wb) (HF.out.trans HS.out (fun _ _ x => x.elim)) (.inl rfl) _, HW2.out.set 1 _⟩
theorem trim_digit (c : UInt8) (h : (48 ≤ c.toNat ∧ c.toNat ≤ 49)) (w : World) :
    Calls Tryz.prog 60 #[.string ⟨#[c]⟩, .string ⟨#[48, 49, 50, 51, 52, 53, 54, 55, 56, 57]⟩] w fun e w' => e = .returned (.string ⟨#[]⟩) ∧ Same w w' := by
  refine (Tryz.strings_Trim ⟨#[c]⟩ ⟨#[48, 49, 50, 51, 52, 53, 54, 55, 56, 57]⟩ w (by show 1 ≤ _; omega) (by decide) (ascii_of_all (by decide))).mono ?_
  rintro e w' ⟨rfl, hb⟩
  refine ⟨?_, Same.of hb⟩
  have hc : c = 48 ∨ c = 49 := by
    rcases Nat.lt_or_ge c.toNat 49 with h1 | h1
    · exact .inl (UInt8.toNat_inj.1 (by show c.toNat = 48; omega))
    · exact .inr (UInt8.toNat_inj.1 (by show c.toNat = 49; omega))
  rcases hc with rfl | rfl <;> rfl
end Go.Proofs.YtebpacdbcoacgaaGreatDoor
