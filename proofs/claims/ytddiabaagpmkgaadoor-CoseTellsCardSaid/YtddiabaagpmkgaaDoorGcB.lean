/-
  What the walks of layer 17 share with those of layer 20 (printed by mkc.py out of their templates).
-/
import Derived.Test.YtddiabaagpmkgaaDoorGcA
import Derived.Test.YtddiabaagpmkgaaDoorUtf8
import Derived.WalkKit
import Derived.WalkLawsBesides
import Derived.WalkSpells
import Derived.Deep.QuietTactic
import Derived.BigQuiet
import Derived.Deep.RegionHeld3
import Derived.Deep.LoopGhost
import Derived.Deep.RegionLaw
import Derived.Deep.DeepCutAuto
namespace Go.Proofs.YtddiabaagpmkgaaDoor
open Go.RowKit Go.Px Go.Px.Cf
theorem Tabs.same {w w' : World} (h : Tabs w) (hs : Same w w') : Tabs w' := h.below hs.below
theorem Tabs.lim {w w' : World} {b : Nat} {l : Lim} (h : Tabs w) (hz : LimIn w w' b l) : Tabs w' := h.same hz.1
theorem Tabs.two {w : World} (h : Tabs w) : 2 ≤ w.heap.size := by
  have h1 := World.block_lt_of_cell? w _ (h.2 0 (by omega)).1
  simp only at h1
  omega
end Go.Proofs.YtddiabaagpmkgaaDoor
