/-
  utf8.ValidString at this program: the guide's contract, laid in plain words; what the two tables of package utf8 must hold.
-/
import Derived.Shelf.Unicode.ValidAny
import Derived.Lib.LaidU8T
import Derived.Test.YtddiabaagpmkgaaDoorProg
import Derived.Test.YtddiabaagpmkgaaDoorHeap
namespace Go.Proofs.YtddiabaagpmkgaaDoor
open Go.Shelf Go.RowKit Go.Px
def Tryd.laysValid_ren : Go.Shelf.Ren := ⟨fun | 196 => 72 | 259 => 86 | n => n, fun | 9 => 9 | 4 => 4 | 3 => 3 | 5 => 5 | 12 => 12 | 119 => 158 | 0 => 0 | 46 => 74 | 139 => 161 | 138 => 160 | 53 => 60 | n => n, fun | 3 => 0 | 4 => 1 | n => n⟩
theorem Tryd.laysValid : Go.Proofs.Lays.n196 Tryd.prog Tryd.laysValid_ren := {
  mixed := by kernel_rfl
  f196 := Tryd.func72.trans (congrArg some (by kernel_rfl))
  f259 := Tryd.func86.trans (congrArg some (by kernel_rfl))
  t0 := Tryd.underlying0
  a0 := Tryd.isAgg0
  z0 := Tryd.sizeOf0
  v0 := Tryd.zeroValue0
  t3 := Tryd.underlying3
  a3 := Tryd.isAgg3
  z3 := Tryd.sizeOf3
  v3 := Tryd.zeroValue3
  t4 := Tryd.underlying4
  a4 := Tryd.isAgg4
  z4 := Tryd.sizeOf4
  v4 := Tryd.zeroValue4
  t5 := Tryd.underlying5
  a5 := Tryd.isAgg5
  z5 := Tryd.sizeOf5
  v5 := Tryd.zeroValue5
  t9 := Tryd.underlying9
  a9 := Tryd.isAgg9
  z9 := Tryd.sizeOf9
  v9 := Tryd.zeroValue9
  t12 := Tryd.underlying12
  a12 := Tryd.isAgg12
  z12 := Tryd.sizeOf12
  v12 := Tryd.zeroValue12
  t46 := Tryd.underlying74
  a46 := Tryd.isAgg74
  z46 := Tryd.sizeOf74
  v46 := Tryd.zeroValue74
  t53 := Tryd.underlying60
  a53 := Tryd.isAgg60
  z53 := Tryd.sizeOf60
  v53 := Tryd.zeroValue60
  t119 := Tryd.underlying158
  a119 := Tryd.isAgg158
  z119 := Tryd.sizeOf158
  t138 := Tryd.underlying160
  a138 := Tryd.isAgg160
  z138 := Tryd.sizeOf160
  v138 := Tryd.zeroValue160
  t139 := Tryd.underlying161
  a139 := Tryd.isAgg161
  z139 := Tryd.sizeOf161
  v139 := Tryd.zeroValue161
  g3 := by kernel_rfl
  g4 := by kernel_rfl }

/-- The tables of package utf8 lie as its text lays them. -/
def Tabs (w : World) : Prop := Lib.Utf8Tabs 0 1 w
theorem valid_any (l : List UInt8) (w : World) (hl : l.length ≤ 9223372036854775807) (hT : Tabs w) :
    Calls Tryd.prog 72 #[S l] w fun e w' => e = .returned (.bool (Lib.validD l)) ∧ Below w.heap.size w w' :=
  Any.utf8_ValidString Tryd.laysValid ⟨l.toArray⟩ w (by rw [size_S]; exact hl) hT
theorem Tabs.below {w w' : World} (h : Tabs w) (hb : Below w.heap.size w w') : Tabs w' := Utf8Tabs_below h hb
theorem Tabs.fr {w w' : World} {F : Nat → Prop} (h : Tabs w) (hf : Fr F w w') (hF : ∀ k, F k → 2 ≤ k) (hw : 2 ≤ w.heap.size) : Tabs w' := by
  refine ⟨fun c hc => ?_, fun i hi => ⟨?_, ?_⟩⟩
  · rw [hf.cell (p := ⟨_, _, none⟩) (show 0 < w.heap.size by omega) (fun x => by have := hF 0 x; omega)]; exact h.1 c hc
  · rw [hf.cell (p := ⟨_, _, none⟩) (show 1 < w.heap.size by omega) (fun x => by have := hF 1 x; omega)]; exact (h.2 i hi).1
  · rw [hf.cell (p := ⟨_, _, none⟩) (show 1 < w.heap.size by omega) (fun x => by have := hF 1 x; omega)]; exact (h.2 i hi).2
theorem Tabs.drew {w : World} (h : Tabs w) : Tabs w.drew := h
theorem Tabs.drewN {w : World} (h : Tabs w) (n : Nat) : Tabs (w.drewN n) := h
end Go.Proofs.YtddiabaagpmkgaaDoor
