/-
  The walks over cborfeed's argument and head.
-/
import Derived.Test.YtclbbfmpkhfigaaDoorCfD
import Derived.Test.YtclbbfmpkhfigaaDoorCfL
namespace Go.Proofs.YtclbbfmpkhfigaaDoor
open Go.RowKit Go.Px Go.Px.Cf

set_option maxRecDepth 100000 in
set_option maxHeartbeats 2000000 in
theorem argument_any (b : Nat) (f : Feed) (c : UInt8) (F : Nat → Prop) (w : World) (h : FeedAt w b f F) (hg : FOk f) (hl : ∀ x ∈ f.stack, 0 < x.left) (hp : f.hat < f.text.length)
    (hn : f.num * 256 + c.toNat < 18446744073709551616) (hi : 24 ≤ f.info) (hi2 : f.info ≤ 27) (hm : 1 ≤ f.more) (hm2 : f.more ≤ 8) (hF2 : ∀ k, F k → 2 ≤ k) (ho : f.out.length ≤ 1000000) (hsk : f.stack.length ≤ 900) (hT : Tabs w) :
    Calls Tryd.prog 32 #[.pointer (some ⟨b, 0, none⟩), .int .u8 c.toNat] w fun r w' => r = .returned (.tuple #[]) ∧ ∃ F', FeedAt w' b (Cf.argument f c.toNat) F' ∧ Fr F w w' ∧ Fresh w F F' := by
  obtain ⟨vt, vo, vs, h, rfl⟩ := h
  have hc := c.toNat_lt
  have c11 : w.cell? ⟨b, 11, none⟩ = some (.int .u64 f.num) := cellOf h.blk 11 rfl
  have c12 : w.cell? ⟨b, 12, none⟩ = some (.int .u64 f.more) := cellOf h.blk 12 rfl
  have c10 : w.cell? ⟨b, 10, none⟩ = some (.int .u8 f.info) := cellOf h.blk 10 rfl
  have c9 : w.cell? ⟨b, 9, none⟩ = some (.int .i64 f.hat) := cellOf h.blk 9 rfl
  have f11 := h.free 11
  have f12 := h.free 12
  have hb := or_byte f.num c.toNat hc hn
  obtain ⟨N, hN⟩ : ∃ N, f.num * 256 + c.toNat = N := ⟨_, rfl⟩
  rw [hN] at hb
  have HY := Px.hid ((h.set 11 (.int .u64 N) { f with num := N } rfl rfl rfl rfl).set 12 (.int .u64 (f.more - 1 : Nat)) { f with num := N, more := f.more - 1 } rfl rfl rfl rfl)
  have HYF := Px.hid (((Fr.refl (foot b vt vo vs) w).setCell (p := ⟨b, 11, none⟩) (.inl (.inl rfl)) (.int .u64 N)).setCell (p := ⟨b, 12, none⟩) (.inl (.inl rfl)) (.int .u64 (f.more - 1 : Nat)))
  have en : ((f.more - 1 : Nat) : Int) = (f.more : Int) - 1 := by omega
  have hr : Cf.argument f c.toNat = if 0 < f.more - 1 then { f with num := N, more := f.more - 1 } else if N < Cf.least f.info then Cf.wrong { f with num := N, more := f.more - 1 } f.hat 9 else Cf.known { f with num := N, more := f.more - 1 } := by
    unfold Cf.argument; rw [hN]
  have HB : 2 ≤ w.heap.size := by have := hF2 b (.inl rfl); have := h.lt; omega
  have H := Px.hid (And.intro h (And.intro hg (And.intro hl (And.intro hp hT))))
  have HN := Px.hid (show N < 18446744073709551616 by rw [← hN]; exact hn)
  have hn0 : (f.num : Int) < 72057594037927936 := by omega
  clear h hg hl hT hN hn hp
  by_cases hz : f.more = 1
  · have hr2 : ¬ 0 < f.more - 1 := by omega
    rw [if_neg hr2] at hr
    have e0 : f.more - 1 = 0 := by omega
    rw [e0] at HY HYF hr
    rw [hz] at c12
    clear hr2 en e0 hz
    have hi4 : f.info = 24 ∨ f.info = 25 ∨ f.info = 26 ∨ f.info = 27 := by omega
    rcases hi4 with hi4 | hi4 | hi4 | hi4
    · rw [hi4] at c10
      have el : Cf.least f.info = 24 := by rw [hi4]; decide
      rw [el] at hr
      clear el hi4 hi hi2
      by_cases hlt : N < 24
      · rw [if_pos hlt] at hr
        have hlt' : (N : Int) < 24 := by omega
        have HR := Px.hid hr
        clear hr hlt
        go_enter Tryd.func32, Tryd.ntmps32
        go_wp2_with fail
        refine (wrong_any b f.hat 9 _ _ _ ⟨_, _, _, HY.out, rfl⟩).mono ?_
        rintro e w' ⟨rfl, hF, hfr⟩
        go_wp2
        refine bodyPost_ret (results_none rfl _ _ _) rfl ?_
        rw [HR.out]
        exact ⟨rfl, _, hF, HYF.out.step (Fresh.refl _ _) hfr, Fresh.refl _ _⟩
      · rw [if_neg hlt] at hr
        have hlt' : ¬ (N : Int) < 24 := by omega
        have HR := Px.hid hr
        clear hr hlt
        go_enter Tryd.func32, Tryd.ntmps32
        go_wp2_with fail
        refine (known_any b _ _ _ ⟨_, _, _, HY.out, rfl⟩ ⟨H.out.2.1.each, H.out.2.1.tail, H.out.2.1.text, H.out.2.1.stack⟩ H.out.2.2.1 H.out.2.2.2.1 HN.out hF2 ho hsk (H.out.2.2.2.2.fr HYF.out hF2 HB)).mono ?_
        rintro e w' ⟨rfl, F', hF, hfr, hnn⟩
        have HE := Px.hid (And.intro hF (And.intro hfr hnn))
        clear hF hfr hnn
        go_wp2
        go_end0
        rw [HR.out]
        exact ⟨rfl, _, HE.out.1, HYF.out.step (Fresh.refl _ _) HE.out.2.1, Fresh.trans (Fresh.refl _ _) HYF.out.size HE.out.2.2⟩
    · rw [hi4] at c10
      have el : Cf.least f.info = 256 := by rw [hi4]; decide
      rw [el] at hr
      clear el hi4 hi hi2
      by_cases hlt : N < 256
      · rw [if_pos hlt] at hr
        have hlt' : (N : Int) < 256 := by omega
        have HR := Px.hid hr
        clear hr hlt
        go_enter Tryd.func32, Tryd.ntmps32
        go_wp2_with fail
        refine (wrong_any b f.hat 9 _ _ _ ⟨_, _, _, HY.out, rfl⟩).mono ?_
        rintro e w' ⟨rfl, hF, hfr⟩
        go_wp2
        refine bodyPost_ret (results_none rfl _ _ _) rfl ?_
        rw [HR.out]
        exact ⟨rfl, _, hF, HYF.out.step (Fresh.refl _ _) hfr, Fresh.refl _ _⟩
      · rw [if_neg hlt] at hr
        have hlt' : ¬ (N : Int) < 256 := by omega
        have HR := Px.hid hr
        clear hr hlt
        go_enter Tryd.func32, Tryd.ntmps32
        go_wp2_with fail
        refine (known_any b _ _ _ ⟨_, _, _, HY.out, rfl⟩ ⟨H.out.2.1.each, H.out.2.1.tail, H.out.2.1.text, H.out.2.1.stack⟩ H.out.2.2.1 H.out.2.2.2.1 HN.out hF2 ho hsk (H.out.2.2.2.2.fr HYF.out hF2 HB)).mono ?_
        rintro e w' ⟨rfl, F', hF, hfr, hnn⟩
        have HE := Px.hid (And.intro hF (And.intro hfr hnn))
        clear hF hfr hnn
        go_wp2
        go_end0
        rw [HR.out]
        exact ⟨rfl, _, HE.out.1, HYF.out.step (Fresh.refl _ _) HE.out.2.1, Fresh.trans (Fresh.refl _ _) HYF.out.size HE.out.2.2⟩
    · rw [hi4] at c10
      have el : Cf.least f.info = 65536 := by rw [hi4]; decide
      rw [el] at hr
      clear el hi4 hi hi2
      by_cases hlt : N < 65536
      · rw [if_pos hlt] at hr
        have hlt' : (N : Int) < 65536 := by omega
        have HR := Px.hid hr
        clear hr hlt
        go_enter Tryd.func32, Tryd.ntmps32
        go_wp2_with fail
        refine (wrong_any b f.hat 9 _ _ _ ⟨_, _, _, HY.out, rfl⟩).mono ?_
        rintro e w' ⟨rfl, hF, hfr⟩
        go_wp2
        refine bodyPost_ret (results_none rfl _ _ _) rfl ?_
        rw [HR.out]
        exact ⟨rfl, _, hF, HYF.out.step (Fresh.refl _ _) hfr, Fresh.refl _ _⟩
      · rw [if_neg hlt] at hr
        have hlt' : ¬ (N : Int) < 65536 := by omega
        have HR := Px.hid hr
        clear hr hlt
        go_enter Tryd.func32, Tryd.ntmps32
        go_wp2_with fail
        refine (known_any b _ _ _ ⟨_, _, _, HY.out, rfl⟩ ⟨H.out.2.1.each, H.out.2.1.tail, H.out.2.1.text, H.out.2.1.stack⟩ H.out.2.2.1 H.out.2.2.2.1 HN.out hF2 ho hsk (H.out.2.2.2.2.fr HYF.out hF2 HB)).mono ?_
        rintro e w' ⟨rfl, F', hF, hfr, hnn⟩
        have HE := Px.hid (And.intro hF (And.intro hfr hnn))
        clear hF hfr hnn
        go_wp2
        go_end0
        rw [HR.out]
        exact ⟨rfl, _, HE.out.1, HYF.out.step (Fresh.refl _ _) HE.out.2.1, Fresh.trans (Fresh.refl _ _) HYF.out.size HE.out.2.2⟩
    · rw [hi4] at c10
      have el : Cf.least f.info = 4294967296 := by rw [hi4]; decide
      rw [el] at hr
      clear el hi4 hi hi2
      by_cases hlt : N < 4294967296
      · rw [if_pos hlt] at hr
        have hlt' : (N : Int) < 4294967296 := by omega
        have HR := Px.hid hr
        clear hr hlt
        go_enter Tryd.func32, Tryd.ntmps32
        go_wp2_with fail
        refine (wrong_any b f.hat 9 _ _ _ ⟨_, _, _, HY.out, rfl⟩).mono ?_
        rintro e w' ⟨rfl, hF, hfr⟩
        go_wp2
        refine bodyPost_ret (results_none rfl _ _ _) rfl ?_
        rw [HR.out]
        exact ⟨rfl, _, hF, HYF.out.step (Fresh.refl _ _) hfr, Fresh.refl _ _⟩
      · rw [if_neg hlt] at hr
        have hlt' : ¬ (N : Int) < 4294967296 := by omega
        have HR := Px.hid hr
        clear hr hlt
        go_enter Tryd.func32, Tryd.ntmps32
        go_wp2_with fail
        refine (known_any b _ _ _ ⟨_, _, _, HY.out, rfl⟩ ⟨H.out.2.1.each, H.out.2.1.tail, H.out.2.1.text, H.out.2.1.stack⟩ H.out.2.2.1 H.out.2.2.2.1 HN.out hF2 ho hsk (H.out.2.2.2.2.fr HYF.out hF2 HB)).mono ?_
        rintro e w' ⟨rfl, F', hF, hfr, hnn⟩
        have HE := Px.hid (And.intro hF (And.intro hfr hnn))
        clear hF hfr hnn
        go_wp2
        go_end0
        rw [HR.out]
        exact ⟨rfl, _, HE.out.1, HYF.out.step (Fresh.refl _ _) HE.out.2.1, Fresh.trans (Fresh.refl _ _) HYF.out.size HE.out.2.2⟩
  · have hr2 : 0 < f.more - 1 := by omega
    rw [if_pos hr2] at hr
    rw [en] at HY HYF
    have hz' : (0 : Int) < (f.more : Int) - 1 := by omega
    have HR := Px.hid hr
    have hw : IntKind.u64.wrap ((f.num : Int) * 256) = (f.num : Int) * 256 := IntWalk.u64_in _ ⟨by omega, by omega⟩
    clear hz hr hr2 en hn0
    go_enter Tryd.func32, Tryd.ntmps32
    go_wp2
    refine bodyPost_ret (results_none rfl _ _ _) rfl ?_
    rw [HR.out]
    exact ⟨rfl, _, ⟨_, _, _, HY.out, rfl⟩, HYF.out, Fresh.refl _ _⟩
end Go.Proofs.YtclbbfmpkhfigaaDoor
