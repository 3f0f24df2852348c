/-
  The walks over der's want.
-/
import Derived.Test.YtceffhkgnifmeaaDoorDrV
namespace Go.Proofs.YtceffhkgnifmeaaDoor
open Go.RowKit Go.Px

theorem dwant_no (b p : Nat) (s : Bytes) (lim : Lim) (x : D5.Dx) (vs vo : Value) (w : World) (h : DrRep w b s lim x vs vo) (e : D5.Flt) (he : D5.want s lim p = .error e) :
    Calls Tryd.prog 31 #[.pointer (some ⟨b, 0, none⟩), .int .i64 (p : Nat)] w fun r w' => r = panics e ∧ Same w w' := by
  have hsz : (ByteArray.mk s.toArray).size = s.length := size_S s
  obtain ⟨c0, _, _, c3, _, _, _⟩ := h.cells
  clear h
  unfold D5.want at he
  have hm : ¬ (p : Int) < min (s.length : Int) lim.b := by
    intro hh
    rw [if_pos (by omega)] at he
    cases he
  rw [if_neg (by omega)] at he
  by_cases h2 : lim.b < s.length
  · rw [if_pos h2] at he
    simp only [Except.error.injEq] at he
    subst he
    go_enter Tryd.func31, Tryd.ntmps31
    go_wp2
    go_region
    go_wp2
    go_region
    go_wp2
    exact ⟨rfl, rfl, (Fr.refl _ w).drew.drew⟩
  · rw [if_neg h2] at he
    simp only [Except.error.injEq] at he
    subst he
    go_enter Tryd.func31, Tryd.ntmps31
    go_wp2
    go_region
    go_wp2
    go_region
    go_wp2
    exact ⟨rfl, rfl, (Fr.refl _ w).drew.drew⟩
theorem dwant_yes (b p : Nat) (s : Bytes) (lim : Lim) (x : D5.Dx) (vs vo : Value) (w : World) (h : DrRep w b s lim x vs vo) (c : Nat) (he : D5.want s lim p = .ok c) :
    Calls Tryd.prog 31 #[.pointer (some ⟨b, 0, none⟩), .int .i64 (p : Nat)] w fun r w' => r = .returned (.int .u8 (c : Nat)) ∧ Same w w' := by
  have hsz : (ByteArray.mk s.toArray).size = s.length := size_S s
  obtain ⟨c0, _, _, c3, _, _, _⟩ := h.cells
  clear h
  unfold D5.want at he
  by_cases h1 : (p : Int) < s.length ∧ (p : Int) < lim.b
  · rw [if_pos h1] at he
    simp only [Except.ok.injEq] at he
    have hix : ∀ w, (Instr.index 9 (S s) (.int .i64 (p : Nat))).run Tryd.prog w = .ok (.int .u8 (c : Nat)) w := fun w => by rw [← he]; exact idx_S s p (by omega) w
    clear he
    obtain ⟨ha, hb⟩ := h1
    by_cases h2 : lim.b < (s.length : Int)
    all_goals
      go_enter Tryd.func31, Tryd.ntmps31
      go_wp2
      go_region
      go_wp2
      go_ret
      exact ⟨rfl, (Fr.refl _ w).drew⟩
  · rw [if_neg h1] at he
    split at he <;> cases he
end Go.Proofs.YtceffhkgnifmeaaDoor
