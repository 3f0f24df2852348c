/-
  A string's bytes, as this program's operations read them.
-/
import Derived.Test.YtddiabaagpmkgaaDoorGcB
namespace Go.Proofs.YtddiabaagpmkgaaDoor
open Go.RowKit Go.Px

theorem idx_S (l : List UInt8) (k : Nat) (hk : k < l.length) (w : World) : (Instr.index 9 (S l) (.int .i64 (k : Int))).run Tryd.prog w = .ok (.int .u8 (l.getD k 0).toNat) w := by
  rw [run_index_string w 9 _ .i64 _ Tryd.underlying9, dif_pos ⟨by omega, by rw [size_S]; omega⟩]
  congr 3
  simp [List.getD, hk]
  rfl
theorem slice_S (l : List UInt8) (a b : Nat) (hab : a ≤ b) (hb : b ≤ l.length) (w : World) :
    (Instr.slice 9 (S l) (some (.int .i64 (a : Int))) (some (.int .i64 (b : Int))) none).run Tryd.prog w = .ok (S ((l.take b).drop a)) w := by
  rw [run_slice_string w _ _ _ _ _ _ Tryd.underlying9 (by omega) (by omega) (by rw [size_S]; omega), ByteArray.extract_mk]
  have e1 : ((a : Int)).toNat = a := by omega
  have e2 : ((b : Int)).toNat = b := by omega
  rw [e1, e2]
  simp [List.drop_take]
theorem from_S (l : List UInt8) (a : Nat) (ha : a ≤ l.length) (w : World) :
    (Instr.slice 9 (S l) (some (.int .i64 (a : Int))) none none).run Tryd.prog w = .ok (S (l.drop a)) w := by
  rw [run_slice_string_l w _ _ Tryd.underlying9 _ _ (by omega) (by rw [size_S]; omega), ByteArray.extract_mk]
  have e1 : ((a : Int)).toNat = a := by omega
  rw [e1, size_S]
  simp
  exact List.take_of_length_le (by simp)
theorem to_S (l : List UInt8) (b : Nat) (hb : b ≤ l.length) (w : World) :
    (Instr.slice 9 (S l) none (some (.int .i64 (b : Int))) none).run Tryd.prog w = .ok (S (l.take b)) w := by
  rw [run_slice_string_h w _ _ Tryd.underlying9 _ _ (by omega) (by rw [size_S]; omega), ByteArray.extract_mk]
  have e1 : ((b : Int)).toNat = b := by omega
  rw [e1]
  simp
end Go.Proofs.YtddiabaagpmkgaaDoor
