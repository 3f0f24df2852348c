/-
  Several texts in one: What the walks over the statements of layer 16 rest on: the greatest limits, the reference's Same, wakes.
-/
import Derived.Test.YtahojodgmjmpnaaDoorTO
import Derived.Test.YtahojodgmjmpnaaDoorTH
/-! What the walks over the statements of layer 16 rest on: the greatest limits, the reference's Same, wakes. -/
namespace Go.Proofs.YtahojodgmjmpnaaDoor
open Go.RowKit Go.Px

theorem most_any (w : World) : Calls Tryd.prog 16 #[] w fun e w' => e = .returned (limV most) ∧ Same w w' := by
  go_enter Tryd.func16, Tryd.ntmps16
  go_wp2
  exact bodyPost_ret (v := limV most) (by simp [results, Tryd.results16, go_sem, limV, most]) rfl ⟨rfl, (Fr.refl _ w).alloc _⟩
theorem val_one (l : List Val) : ∀ u ∈ l.flatMap cVal, u.oneCell' = true := by
  intro u hu
  simp only [List.mem_flatMap] at hu
  obtain ⟨a, _, hu⟩ := hu
  simp only [cVal, List.mem_cons, List.not_mem_nil, or_false] at hu
  rcases hu with rfl | rfl | rfl <;> rfl
/-- A decoding's list, as it lies. -/
theorem Gives.len {w w' : World} {d : List Val × Int × Int} {r : Ending} (h : Gives w d r w') : ∃ a c, r = .returned (.tuple #[.slice a d.1.length c, .int .i64 d.2.1, .int .i64 d.2.2]) ∧ Owns w' 58 3 cVal (.slice a d.1.length c) d.1 ∧ Same w w' := by
  obtain ⟨vo, rfl, h1, h2, _⟩ := h
  obtain ⟨a, c, hv, _⟩ := h1.len
  subst hv
  exact ⟨a, c, rfl, h1, h2⟩
/-! wakes -/
def wakeA : Bytes := [32, 91, 49, 44, 32, 34, 92, 117, 48, 48, 101, 57, 34, 93]
def wakeB : Bytes := [123, 34, 97, 34, 58, 49, 44, 34, 97, 34, 58, 50, 125]
def wakeT : Bytes := [91, 49, 44, 34, 195, 169, 34, 93]
def wakeL : List Val := [⟨5, 2, []⟩, ⟨3, 0, [49]⟩, ⟨4, 0, [195, 169]⟩]
theorem wakeA_dec : R6.decode wakeA most = (wakeL, 0, 0) := by decide +kernel
theorem wakeB_dec : (R6.decode wakeB most).2 = (7, 9) := by decide +kernel
theorem wakeL_enc : E6.encode wakeL = (wakeT, 0) := by decide +kernel
theorem wakeL_fair : ∀ a ∈ wakeL, Fair a := by
  intro a ha
  simp only [wakeL, List.mem_cons, List.not_mem_nil, or_false] at ha
  rcases ha with rfl | rfl | rfl <;> exact ⟨⟨by decide, by decide⟩, ⟨by decide, by decide⟩, by decide⟩
set_option maxRecDepth 100000 in
set_option maxHeartbeats 2000000 in
theorem wakes16_any (w : World) (hT : Tabs w) : Calls Tryd.prog 9 #[] w fun e w' => e = .returned (.bool true) ∧ Same w w' := by
  have HT := Px.hid hT
  clear hT
  go_enter Tryd.func9, Tryd.ntmps9
  go_wp2_with fail
  refine (most_any _).mono ?_
  rintro e w2 ⟨rfl, hs⟩
  have HS := Px.hid hs
  clear hs
  go_wp2_with fail
  refine (jdecode_any wakeA most (by decide) _).mono ?_
  intro e w3 hg
  obtain ⟨a, c, rfl, ho, hs⟩ := hg.len
  rw [wakeA_dec] at ho ⊢
  have HO := Px.hid ho
  have HS := Px.hid (HS.out.trans hs)
  clear ho hs hg
  go_wp2_with fail
  refine (most_any _).mono ?_
  rintro e w4 ⟨rfl, hs⟩
  have HO := Px.hid (Owns.same HO.out hs)
  have HS := Px.hid (HS.out.trans hs)
  clear hs
  go_wp2_with fail
  refine (jdecode_any wakeB most (by decide) _).mono ?_
  intro e w5 hg
  obtain ⟨a2, c2, rfl, _, hs⟩ := hg.len
  rw [wakeB_dec]
  have HO := Px.hid (Owns.same HO.out hs)
  have HS := Px.hid (HS.out.trans hs)
  clear hs hg
  go_wp2_with fail
  refine (eencode_any _ wakeL _ (HO.out.lies cVal_len) wakeL_fair (HT.out.same HS.out)).mono ?_
  rintro e w6 ⟨rfl, hs⟩
  rw [wakeL_enc]
  have HS := Px.hid (HS.out.trans hs)
  clear hs
  have hl3 : wakeL.length = 3 := rfl
  unfold wakeT
  go_wp2
  go_ret
  exact ⟨rfl, HS.out⟩
/-- What was there stands, and the tables. -/
structure On (w w' : World) (b : Nat) (lim : Lim) : Prop where
  lim : LimIn w w' b lim
  tabs : Tabs w'
theorem On.sm {w w1 w2 : World} {b : Nat} {lim : Lim} (h : On w w1 b lim) (hs : Same w1 w2) : On w w2 b lim := ⟨h.lim.same hs, h.tabs.same hs⟩
end Go.Proofs.YtahojodgmjmpnaaDoor
