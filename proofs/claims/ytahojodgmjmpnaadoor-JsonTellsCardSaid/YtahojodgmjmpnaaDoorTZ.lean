/-
  Several texts in one: The law JsonTells of layer 16, walked.
-/
import Derived.Test.YtahojodgmjmpnaaDoorTY
/-! The law JsonTells of layer 16, walked. -/
namespace Go.Proofs.YtahojodgmjmpnaaDoor
open Go.RowKit Go.Px

set_option maxHeartbeats 4000000 in
theorem law_JsonTells {v : Value} (l : List Val) (w : World) (h : ValsAt w v l) (hl : l.length * 32 ≤ 140737488351232 ∧ ∀ a ∈ l, a.text.length ≤ 140737488351232) (hT : Tabs w) :
    Calls Tryd.prog 4 #[v] w fun e w' => e = .returned (.bool true) ∧ Below w.heap.size w w' := by
  have hw : ∀ a ∈ l, Fair a := fun a ha => ⟨(h.wf a ha).1, (h.wf a ha).2, by have := hl.2 a ha; omega⟩
  have H := Px.hid (And.intro h.lies (And.intro hl.1 (And.intro hT hw)))
  clear h hl hT hw
  go_enter Tryd.func4, Tryd.ntmps4
  go_wp2_with fail
  refine (wakes16_any _ H.out.2.2.1).mono ?_
  rintro e w1 ⟨rfl, hs⟩
  have HS := Px.hid hs
  clear hs
  go_wp2_with fail
  refine (copied_any v l _ (lies_same H.out.1 HS.out) H.out.2.1).mono ?_
  rintro e w2 ⟨vo, rfl, ho, hs⟩
  have HO := Px.hid ho
  have HS := Px.hid (HS.out.trans hs)
  clear ho hs
  go_wp2_with fail
  refine (eencode_any vo l _ (HO.out.lies cVal_len) H.out.2.2.2 (H.out.2.2.1.same HS.out)).mono ?_
  rintro e w3 ⟨rfl, hs⟩
  have HS := Px.hid (HS.out.trans hs)
  clear hs
  rw [E6.encode_ref]
  obtain ⟨s, c, hd⟩ : ∃ s c, R6.encode l = (s, c) := ⟨_, _, rfl⟩
  have HC := Px.hid (refencode16_any v l _ (lies_same H.out.1 HS.out) H.out.2.2.2)
  unfold EncR at HC
  rw [hd] at HC ⊢
  clear hd
  go_wp2_with fail
  refine HC.out.mono ?_
  rintro e w4 ⟨rfl, hs⟩
  have HS := Px.hid (HS.out.trans hs)
  clear hs
  go_wp2
  go_ret
  exact ⟨by simp, HS.out.below⟩
end Go.Proofs.YtahojodgmjmpnaaDoor
