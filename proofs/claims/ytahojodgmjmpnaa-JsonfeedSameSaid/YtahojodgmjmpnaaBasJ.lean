/-
  The ground of the walks of layer 19: limits, worlds that keep all that was there, the two walks over May. (Bas without the tables of package utf8.)
-/
import Derived.Test.YtahojodgmjmpnaaWbJ
import Derived.Test.YtahojodgmjmpnaaCborM
import Derived.WalkKit
import Derived.WalkLawsBesides
import Derived.WalkSpells
import Derived.Deep.QuietTactic
import Derived.BigQuiet
import Derived.Deep.RegionHeld3
import Derived.Deep.LoopGhost
import Derived.Deep.RegionLaw
import Derived.Deep.DeepCutAuto
namespace Go.Proofs.Ytahojodgmjmpnaa
open Go.RowKit Go.Px

def limV (l : Lim) : Value := .agg #[.int .i64 l.d, .int .i64 l.i, .int .i64 l.b, .int .i64 l.r]
/-- Nothing that was there has changed. -/
def Same (w w' : World) : Prop := Fr (fun _ => False) w w'
theorem Same.refl (w : World) : Same w w := Fr.refl _ w
theorem Same.trans {a b c : World} (h : Same a b) (k : Same b c) : Same a c := Fr.trans h k fun _ _ x => x
theorem Same.below {a b : World} (h : Same a b) : Below a.heap.size a b := ⟨h.os, h.tape, h.output, h.size, fun k hk => h.block k hk (fun x => x)⟩
theorem Same.fr {a b : World} (h : Same a b) (F : Nat → Prop) : Fr F a b := Fr.mono h fun _ x => x.elim
theorem Owns.same {α : Type} {w w' : World} {T sz : Nat} {c : α → List Value} {v : Value} {l : List α} (h : Owns w T sz c v l) (hs : Same w w') : Owns w' T sz c v l := h.fr hs (fun _ _ x => x)

theorem derMay_any (l : Lim) (w : World) : Calls Try.prog 18 #[limV l] w fun e w' => e = .returned (.bool l.may) ∧ Same w w' := by
  unfold limV
  go_enter Try.func18, Try.ntmps18
  go_wp2
  all_goals
    go_ret
    exact ⟨by (first | (simp [Lim.may, *]; done) | (simp [Lim.may, *]; omega)), (Fr.refl _ w).alloc _⟩
theorem refMay_any (l : Lim) (w : World) : Calls Try.prog 10 #[limV l] w fun e w' => e = .returned (.bool l.may) ∧ Same w w' := by
  unfold limV
  go_enter Try.func10, Try.ntmps10
  go_wp2
  all_goals
    go_ret
    exact ⟨by (first | (simp [Lim.may, *]; done) | (simp [Lim.may, *]; omega)), (Fr.refl _ w).alloc _⟩
end Go.Proofs.Ytahojodgmjmpnaa
