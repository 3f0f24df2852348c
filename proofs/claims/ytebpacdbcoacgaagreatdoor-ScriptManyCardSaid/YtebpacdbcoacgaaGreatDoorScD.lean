/-
  The walks over script.failed, shown and the words of a line.
-/
import Derived.Test.YtebpacdbcoacgaaGreatDoorScC
namespace Go.Proofs.YtebpacdbcoacgaaGreatDoor
open Go.RowKit Go.Px
theorem failed_any (n : Nat) (hn : n < 100) (hd : (Lib.decDigits n).length ≤ 2) (r : ByteArray) (hr : ByteArray.mk #[101, 114, 114, 111, 114, 32] ++ ⟨(Lib.decDigits n).toArray⟩ = r) (w : World) :
    Calls Tryz.prog 13 #[.int .i64 n] w fun e w' => e = .returned (.string r) ∧ w = w' := by
  go_enter Tryz.func13, Tryz.ntmps13
  have hs : (ByteArray.mk (Lib.decDigits n).toArray).size ≤ 2 := by rw [size_S]; exact hd
  have HR := Px.hid hr
  clear hr
  go_wp2_with (go_at_call 31; refine (Tryz.strconv_Itoa_small n hn _).mono ?_; rintro e w' ⟨rfl, rfl⟩)
  go_ret
  rw [HR.out]
  exact ⟨rfl, rfl⟩
theorem failed_1 (w : World) : Calls Tryz.prog 13 #[.int .i64 1] w fun e w' => e = .returned (.string ⟨#[101, 114, 114, 111, 114, 32, 49]⟩) ∧ w = w' := failed_any 1 (by decide) (by simp [Lib.decDigits]) _ (by simp [Lib.decDigits]; rfl) w
theorem failed_2 (w : World) : Calls Tryz.prog 13 #[.int .i64 2] w fun e w' => e = .returned (.string ⟨#[101, 114, 114, 111, 114, 32, 50]⟩) ∧ w = w' := failed_any 2 (by decide) (by simp [Lib.decDigits]) _ (by simp [Lib.decDigits]; rfl) w
theorem failed_15 (w : World) : Calls Tryz.prog 13 #[.int .i64 15] w fun e w' => e = .returned (.string ⟨#[101, 114, 114, 111, 114, 32, 49, 53]⟩) ∧ w = w' := failed_any 15 (by decide) (by simp [Lib.decDigits]) _ (by simp [Lib.decDigits]; rfl) w
theorem shown_a (w : World) : Calls Tryz.prog 43 #[.string ⟨#[97]⟩] w fun e w' => e = .returned (.string ⟨#[54, 49]⟩) ∧ Same w w' := by
  go_enter Tryz.func43, Tryz.ntmps43
  go_wp2_with (go_at_call 67; refine (hex_a _).mono ?_; rintro e w' ⟨rfl, hs⟩)
  go_ret
  exact ⟨rfl, hs⟩
/-- The words of a line that are left: so many strings of a block, from a place on. -/
def Wd (w : World) (wb lb off n : Nat) (bad : Bool) : Prop := Blk w wb #[.slice (some ⟨lb, off, none⟩) n n, .bool bad] 52
theorem Wd.sm {w w' : World} {wb lb off n : Nat} {bad : Bool} (h : Wd w wb lb off n bad) (hs : Same w w') : Wd w' wb lb off n bad := Blk.sm h hs
set_option maxRecDepth 100000 in
theorem next_any (w : World) (wb lb off n off' : Nat) (bad : Bool) (s : ByteArray) (h : Wd w wb lb off (n + 1) bad) (hc : w.cell? ⟨lb, off, none⟩ = some (.string s)) (hn : n ≤ 100) (ho : (if n = 0 then off else off + 1) = off') :
    Calls Tryz.prog 57 #[.pointer (some ⟨wb, 0, none⟩)] w fun e w' => e = .returned (.string s) ∧ Fr (fun k => k = wb) w w' ∧ Wd w' wb lb off' n bad := by
  have h0 : w.cell? ⟨wb, 0, none⟩ = some (.slice (some ⟨lb, off, none⟩) (n + 1) (n + 1)) := h.cell 0 rfl
  have hf : w.frozen? ⟨wb, 0, none⟩ = false := h.free 0
  have HW := Px.hid h
  have hz : ∀ W, (Go.sizeOf 9).run Tryz.prog W = .ok 1 W := Tryz.sizeOf9
  have hsl : ∀ W : World, (Instr.slice 31 (.slice (some ⟨lb, off, none⟩) (n + 1) (n + 1)) (some (.int .i64 1)) none none).run Tryz.prog W = .ok (.slice (some ⟨lb, off', none⟩) n n) W := fun W => by
    have ht' : Tryz.prog.underlying 31 = some (.slice (Tryz.prog.elem 31)) := by kernel_rfl
    have hel : Tryz.prog.elem 31 = 9 := by kernel_rfl
    have := run_slice_l W 31 (some ⟨lb, off, none⟩) (n + 1) (n + 1) ht' .i64 1 (by omega) (by omega)
    rw [this, hel, hz]
    rw [← ho]
    by_cases h0 : n = 0
    · subst h0
      simp [Result.andThen, sliced]
    · have hne : ¬ n + 1 = 1 := by omega
      simp [Result.andThen, sliced, Addr.add, h0]
  clear h ho hz
  go_enter Tryz.func57, Tryz.ntmps57
  go_wp2
  go_ret
  exact ⟨rfl, Fr.setCell (F := fun k => k = wb) (Fr.refl _ w) (.inl rfl) _, HW.out.set 0 _⟩
end Go.Proofs.YtebpacdbcoacgaaGreatDoor
