/-
  A sum of strings, as lists of bytes.
-/
import Derived.Test.YtddiabaagpmkgaaDoorGcA
namespace Go.Proofs.YtddiabaagpmkgaaDoor
open Go.RowKit Go.Px
theorem add_S {P : Program} (a b c : Bytes) (hc : c = a ++ b) (h : a.length + b.length ≤ 9223372036854775807) (W : World) : (Op.stringOp .add ⟨a.toArray⟩ ⟨b.toArray⟩).run P W = .ok (.string ⟨c.toArray⟩) W := by
  subst hc
  rw [run_string_add_sum W _ _ (by rw [size_S, size_S]; exact h), app_S]
end Go.Proofs.YtddiabaagpmkgaaDoor
