/-
  The ground of the walks of layer 15: limits, worlds that keep all that was there, the two walks over May.
-/
import Derived.Test.YtceffhkgnifmeaaDoorUtf8
import Derived.Test.YtceffhkgnifmeaaDoorCborM
import Derived.WalkKit
import Derived.WalkLawsBesides
import Derived.WalkSpells
import Derived.Deep.QuietTactic
import Derived.BigQuiet
import Derived.Deep.RegionHeld3
import Derived.Deep.LoopGhost
import Derived.Deep.RegionLaw
import Derived.Deep.DeepCutAuto
namespace Go.Proofs.YtceffhkgnifmeaaDoor
open Go.RowKit Go.Px

def limV (l : Lim) : Value := .agg #[.int .i64 l.d, .int .i64 l.i, .int .i64 l.b, .int .i64 l.r]
/-- Nothing that was there has changed. -/
def Same (w w' : World) : Prop := Fr (fun _ => False) w w'
theorem Same.refl (w : World) : Same w w := Fr.refl _ w
theorem Same.trans {a b c : World} (h : Same a b) (k : Same b c) : Same a c := Fr.trans h k fun _ _ x => x
theorem Same.below {a b : World} (h : Same a b) : Below a.heap.size a b := ⟨h.os, h.tape, h.output, h.size, fun k hk => h.block k hk (fun x => x)⟩
theorem Same.fr {a b : World} (h : Same a b) (F : Nat → Prop) : Fr F a b := Fr.mono h fun _ x => x.elim
theorem Owns.same {α : Type} {w w' : World} {T sz : Nat} {c : α → List Value} {v : Value} {l : List α} (h : Owns w T sz c v l) (hs : Same w w') : Owns w' T sz c v l := h.fr hs (fun _ _ x => x)
theorem Tabs.same {w w' : World} (h : Tabs w) (hs : Same w w') : Tabs w' := h.below hs.below

theorem derMay_any (l : Lim) (w : World) : Calls Tryd.prog 21 #[limV l] w fun e w' => e = .returned (.bool l.may) ∧ Same w w' := by
  unfold limV
  go_enter Tryd.func21, Tryd.ntmps21
  go_wp2
  all_goals
    go_ret
    exact ⟨by (first | (simp [Lim.may, *]; done) | (simp [Lim.may, *]; omega)), (Fr.refl _ w).alloc _⟩
theorem refMay_any (l : Lim) (w : World) : Calls Tryd.prog 24 #[limV l] w fun e w' => e = .returned (.bool l.may) ∧ Same w w' := by
  unfold limV
  go_enter Tryd.func24, Tryd.ntmps24
  go_wp2
  all_goals
    go_ret
    exact ⟨by (first | (simp [Lim.may, *]; done) | (simp [Lim.may, *]; omega)), (Fr.refl _ w).alloc _⟩
end Go.Proofs.YtceffhkgnifmeaaDoor
