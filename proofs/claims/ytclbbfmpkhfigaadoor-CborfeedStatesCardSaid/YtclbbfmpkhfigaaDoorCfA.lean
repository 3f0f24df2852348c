/-
  The walks over cborfeed's small functions.
-/
import Derived.Test.YtclbbfmpkhfigaaDoorCfRep
import Derived.WalkKit
import Derived.WalkLawsBesides
import Derived.WalkSpells
import Derived.Deep.QuietTactic
import Derived.BigQuiet
import Derived.Deep.RegionHeld3
namespace Go.Proofs.YtclbbfmpkhfigaaDoor
open Go.RowKit Go.Px Go.Px.Cf

theorem wrong_any (b : Nat) (p e : Int) (f : Feed) (F : Nat → Prop) (w : World) (h : FeedAt w b f F) :
    Calls Tryd.prog 30 #[.pointer (some ⟨b, 0, none⟩), .int .i64 p, .int .i64 e] w fun r w' => r = .returned (.tuple #[]) ∧ FeedAt w' b (Cf.wrong f p e) F ∧ Fr F w w' := by
  obtain ⟨vt, vo, vs, h, rfl⟩ := h
  have h2 := (h.set 13 (.int .i64 e) { f with err := e } rfl rfl rfl rfl).set 14 (.int .i64 p) (Cf.wrong f p e) rfl rfl rfl rfl
  have hf := ((Fr.refl (foot b vt vo vs) w).setCell (p := ⟨b, 13, none⟩) (.inl (.inl rfl)) (.int .i64 e)).setCell (p := ⟨b, 14, none⟩) (.inl (.inl rfl)) (.int .i64 p)
  obtain ⟨_, _, _, _, _, _, _, _, _, _, _, _, _, c13, c14⟩ := h.cells
  have f13 := h.free 13
  have f14 := h.free 14
  have H2 := Px.hid (And.intro h2 hf)
  clear h2 hf h
  go_enter Tryd.func30, Tryd.ntmps30
  go_wp2
  go_end0
  exact ⟨rfl, ⟨_, _, _, H2.out.1, rfl⟩, H2.out.2⟩

theorem Tryd.sizeU8 (w : World) : (Go.sizeOf 5).run Tryd.prog w = .ok 1 w := by kernel_rfl

set_option maxHeartbeats 1000000 in
theorem counted_any (b : Nat) (p : Nat) (f : Feed) (F : Nat → Prop) (w : World) (h : FeedAt w b f F) (hp : f.stack ≠ [] → p < f.text.length) (hl : ∀ x rest, f.stack = x :: rest → 0 < x.left ∧ x.left < 18446744073709551616) (hst : f.stack.length ≤ 1000) :
    Calls Tryd.prog 57 #[.pointer (some ⟨b, 0, none⟩), .int .i64 p] w fun r w' => r = .returned (.bool (Cf.counted f p).1) ∧ FeedAt w' b (Cf.counted f p).2 F ∧ Fr F w w' := by
  obtain ⟨vt, vo, vs, h, rfl⟩ := h
  obtain ⟨a, cap, hv⟩ := h.stackLen
  obtain ⟨_, _, _, _, c4, _, c6, _, _, _, _, _, _, _, _⟩ := h.cells
  rw [hv] at c6
  rcases hs : f.stack with _ | ⟨x, rest⟩
  · rw [hs] at c6
    have hr : Cf.counted f p = (true, f) := by simp [Cf.counted, hs]
    have H := Px.hid (And.intro h hr)
    clear hr h hs hp hl hv
    go_enter Tryd.func57, Tryd.ntmps57
    go_wp2
    go_ret
    rw [H.out.2]
    exact ⟨rfl, ⟨_, _, _, H.out.1, rfl⟩, Fr.refl _ _⟩
  · obtain ⟨hl1, hl2⟩ := hl x rest hs
    have hp := hp (by rw [hs]; simp)
    clear c6 hv
    obtain ⟨_, _, _, _, _, _, c6, _, _, _, _, _, _, _, _⟩ := h.cells
    obtain ⟨g, cap', hv, hc1, hc2, k0, k1, k5, k6, k7, kf⟩ := h.top hs
    subst hv
    rw [hs] at hst
    simp at hst
    unfold maxLen at hc2
    have n0 : ((rest.length : Int) + 1 == 0) = false := by simp; omega
    have hr : Cf.counted f p = if isKey x then (if x.any && leB (f.text.drop p) x.key then (false, Cf.wrong f p 9) else (true, { f with stack := countedKey x (f.text.drop p) :: rest })) else (true, { f with stack := countedTop x :: rest }) := by simp [Cf.counted, hs]
    rw [hr]
    have en : ((x.left - 1 : Nat) : Int) = (x.left : Int) - 1 := by omega
    clear c4
    obtain ⟨gt, capt, hvt, hct1, hct2, hsl, hcv⟩ := h.text.bytes (P := Tryd.prog) hp (t := 42) (dst := 9) (by kernel_rfl) (by kernel_rfl) (by kernel_rfl) Tryd.sizeU8
    subst hvt
    obtain ⟨_, _, _, _, c4, _, _, _, _, _, _, _, _, _, _⟩ := h.cells
    unfold maxLen at hct2
    by_cases hk : isKey x = true
    · rw [if_pos hk]
      simp only [isKey, Bool.and_eq_true, beq_iff_eq] at hk
      obtain ⟨hk5, hk2⟩ := hk
      have hk5' : (x.kind == 5) = true := by simpa using hk5
      have hk2' : ((x.left : Int) % 2 == 0) = true := by simp; omega
      by_cases hle : (x.any && leB (f.text.drop p) x.key) = true
      · rw [if_pos hle]
        simp only [leB, Bool.and_eq_true] at hle
        obtain ⟨ha, hle⟩ := hle
        have H := Px.hid (show FeedAt w b f (foot b (.slice (some ⟨gt, 0, none⟩) f.text.length capt) vo (.slice (some ⟨g, 0, none⟩) (rest.length + 1) cap')) from ⟨_, _, _, h, rfl⟩)
        have H5 := Px.hid hk5
        clear hk5 hr h hs
        go_enter Tryd.func57, Tryd.ntmps57
        go_wp2_with (go_at_call 30; refine (wrong_any b p 9 f _ _ H.out).mono ?_; rintro e w' ⟨rfl, hF, hfr⟩)
        go_ret
        exact ⟨rfl, hF, hfr⟩
      · rw [if_neg hle]
        have e1 := ((h.setTop (y := { x with key := f.text.drop p }) hs 6 (S (f.text.drop p)) rfl).setTop (y := { x with key := f.text.drop p, any := true }) rfl 7 (.bool true) rfl).setTop (y := countedKey x (f.text.drop p)) rfl 5 (.int .u64 (x.left - 1 : Nat)) rfl
        have hfo : foot b (.slice (some ⟨gt, 0, none⟩) f.text.length capt) vo (.slice (some ⟨g, 0, none⟩) (rest.length + 1) cap') g := .inr (.inr (.inr rfl))
        have fr1 := (((Fr.refl (foot b (.slice (some ⟨gt, 0, none⟩) f.text.length capt) vo (.slice (some ⟨g, 0, none⟩) (rest.length + 1) cap')) w).setCell (p := ⟨g, rest.length * 8 + 6, none⟩) (.inl hfo) (S (f.text.drop p))).setCell (p := ⟨g, rest.length * 8 + 7, none⟩) (.inl hfo) (.bool true)).setCell (p := ⟨g, rest.length * 8 + 5, none⟩) (.inl hfo) (.int .u64 (x.left - 1 : Nat))
        rw [en] at e1 fr1
        have H := Px.hid (And.intro e1 fr1)
        have H5 := Px.hid hk5
        clear e1 fr1 hr h hs hk5 hfo
        by_cases ha : x.any = true
        · have hle' : (Op.bytesLess (f.text.drop p) x.key || f.text.drop p == x.key) = false := by
            simp only [ha, leB, Bool.true_and] at hle
            exact Bool.eq_false_iff.2 hle
          clear hle
          go_enter Tryd.func57, Tryd.ntmps57
          go_wp2
          go_ret
          exact ⟨rfl, ⟨_, _, _, H.out.1, rfl⟩, H.out.2⟩
        · have ha' : x.any = false := by simpa using ha
          clear ha hle
          go_enter Tryd.func57, Tryd.ntmps57
          go_wp2
          go_ret
          exact ⟨rfl, ⟨_, _, _, H.out.1, rfl⟩, H.out.2⟩
    · have e1 := h.setTop (y := countedTop x) hs 5 (.int .u64 (x.left - 1 : Nat)) rfl
      rw [if_neg hk]
      have fr1 := (Fr.refl (foot b (.slice (some ⟨gt, 0, none⟩) f.text.length capt) vo (.slice (some ⟨g, 0, none⟩) (rest.length + 1) cap')) w).setCell (p := ⟨g, rest.length * 8 + 5, none⟩) (.inl (.inr (.inr (.inr rfl)))) (.int .u64 (x.left - 1 : Nat))
      rw [en] at e1 fr1
      have H := Px.hid (And.intro e1 fr1)
      clear e1 fr1 hr h hs hsl hcv
      by_cases hk5 : x.kind = 5
      · have hk5' : (x.kind == 5) = true := by simpa using hk5
        have hk2 : ((x.left : Int) % 2 == 0) = false := by
          simp only [isKey, hk5', Bool.true_and, beq_iff_eq] at hk
          simp; omega
        have H5 := Px.hid hk5
        clear hk hk5
        go_enter Tryd.func57, Tryd.ntmps57
        go_wp2
        go_ret
        exact ⟨rfl, ⟨_, _, _, H.out.1, rfl⟩, H.out.2⟩
      · have hk5' : (x.kind == 5) = false := by simpa using hk5
        clear hk
        go_enter Tryd.func57, Tryd.ntmps57
        go_wp2
        go_ret
        exact ⟨rfl, ⟨_, _, _, H.out.1, rfl⟩, H.out.2⟩
end Go.Proofs.YtclbbfmpkhfigaaDoor
