/-
  The walks over cborfeed's settle and ended.
-/
import Derived.Test.YtclbbfmpkhfigaaDoorCfA
import Derived.Deep.LoopGhost
namespace Go.Proofs.YtclbbfmpkhfigaaDoor
open Go.RowKit Go.Px Go.Px.Cf

set_option maxHeartbeats 1000000 in
theorem settle_any (b : Nat) (f : Feed) (F : Nat → Prop) (w : World) (h : FeedAt w b f F) (hg : FOk f) :
    Calls Tryd.prog 55 #[.pointer (some ⟨b, 0, none⟩)] w fun r w' => r = .returned (.tuple #[]) ∧ FeedAt w' b (Cf.settle f) F ∧ Fr F w w' := by
  have h0 : FeedAt (w.setCell ⟨b, 7, none⟩ (.int .i64 0)) b { f with next := 0 } F := by
    obtain ⟨vt, vo, vs, h, rfl⟩ := h
    exact ⟨vt, vo, vs, h.set 7 _ _ rfl rfl rfl rfl, rfl⟩
  have hFb : F b := by obtain ⟨vt, vo, vs, h, rfl⟩ := h; exact .inl rfl
  have c7 : w.cell? ⟨b, 7, none⟩ = some (.int .i64 f.next) := by obtain ⟨vt, vo, vs, h, rfl⟩ := h; exact cellOf h.blk 7 rfl
  have f7 : w.frozen? ⟨b, 7, none⟩ = false := by obtain ⟨vt, vo, vs, h, rfl⟩ := h; exact h.free 7
  have fr0 := (Fr.refl F w).setCell (p := ⟨b, 7, none⟩) (.inl hFb) (.int .i64 0)
  have g0 : FOk { f with next := 0 } := ⟨hg.each, hg.tail, hg.text, hg.stack⟩
  have H0 := Px.hid (show FeedAt (w.setCell ⟨b, 7, none⟩ (.int .i64 0)) b { f with next := 0 } F ∧ Fr F w (w.setCell ⟨b, 7, none⟩ (.int .i64 0)) ∧ FOk { f with next := 0 } from ⟨h0, fr0, g0⟩)
  clear h h0 fr0 g0 hg
  go_enter Tryd.func55, Tryd.ntmps55
  go_wp2
  go_loopg [2] (f.stack.length + 1) (fun gk _ wr => ∃ q, FeedAt wr b q F ∧ q.stack.length < gk ∧ FOk q ∧ Fr F w wr ∧ settleN q.stack.length q = Cf.settle f)
  case atStart => exact ⟨_, H0.out.1, Nat.lt_succ_self _, H0.out.2.2, H0.out.2.1, rfl⟩
  case round =>
    clear H0 c7 f7
    obtain ⟨q, hq, hk, hgq, hfr, hset⟩ := hrel
    obtain ⟨g', rfl⟩ : ∃ g', gk = g' + 1 := ⟨gk - 1, by omega⟩
    obtain ⟨vt, vo, vs, h, rfl⟩ := hq
    obtain ⟨a, cap, hv⟩ := h.stackLen
    have c6 : wr.cell? ⟨b, 6, none⟩ = some vs := cellOf h.blk 6 rfl
    have hqs := hgq.stack
    have hb : b < wr.heap.size := h.lt
    rcases hs : q.stack with _ | ⟨x, rest⟩
    · rw [hv, hs] at c6
      have c7 : wr.cell? ⟨b, 7, none⟩ = some (.int .i64 q.next) := cellOf h.blk 7 rfl
      have f7 := h.free 7
      have e1 := h.set 7 (.int .i64 3) { q with next := 3 } rfl rfl rfl rfl
      have fr1 := hfr.setCell (p := ⟨b, 7, none⟩) (.inl hFb) (.int .i64 3)
      have hr : Cf.settle f = { q with next := 3 } := by rw [← hset, show q.stack.length = 0 by rw [hs]; rfl]; rfl
      have H := Px.hid (And.intro e1 (And.intro fr1 hr))
      clear e1 fr1 hr h hs hgq hset hk hfr hv
      go_wp2
      refine bodyPost_ret (results_none rfl _ _ _) rfl ?_
      rw [H.out.2.2]
      exact ⟨rfl, ⟨_, _, _, H.out.1, rfl⟩, H.out.2.1⟩
    · obtain ⟨g, cap', hv', hc1, hc2, k0, k1, k5, k6, k7, kf⟩ := h.top hs
      subst hv'
      rw [hs] at hqs hk
      simp only [List.length_cons] at hqs hk
      unfold maxLen at hc2
      have n0 : ((rest.length : Int) + 1 == 0) = false := by simp; omega
      have hx := (hgq.each x (by rw [hs]; simp)).1
      clear hv k0 k6 k7
      by_cases hl : 0 < x.left
      · have hr : Cf.settle f = q := by rw [← hset, show q.stack.length = rest.length + 1 by rw [hs]; rfl]; simp [settleN, hs, hl]
        have hl' : (0 : Int) < x.left := by omega
        have H := Px.hid (And.intro h (And.intro hfr hr))
        clear hr h hs hgq hset hfr
        go_wp2
        refine bodyPost_ret (results_none rfl _ _ _) rfl ?_
        rw [H.out.2.2]
        exact ⟨rfl, ⟨_, _, _, H.out.1, rfl⟩, H.out.2.1⟩
      · have hl' : ¬ (0 : Int) < x.left := by omega
        have f6 := h.free 6
        have e1 := h.pop hs
        have fr1 := hfr.setCell (p := ⟨b, 6, none⟩) (.inl hFb) (.slice (some ⟨g, 0, none⟩) rest.length cap')
        have g1 := hgq.pop hs
        have hr : Cf.settle f = match Cf.counted { q with stack := rest } x.at_ with | (true, g) => settleN rest.length g | (false, g) => g := by
          rw [← hset, show q.stack.length = rest.length + 1 by rw [hs]; rfl]; simp [settleN, hs, hl]
          rfl
        have hp := (hgq.each x (by rw [hs]; simp)).2
        have hl2 : ∀ y r2, rest = y :: r2 → 0 < y.left ∧ y.left < 18446744073709551616 := fun y r2 e => ⟨hgq.tail y (by rw [hs, e]; simp), (hgq.each y (by rw [hs, e]; simp)).1⟩
        have hrl : rest.length ≤ 1000 := by omega
        have hc := counted_any b x.at_ { q with stack := rest } _ _ ⟨_, _, _, e1, rfl⟩ (fun _ => hp) hl2 hrl
        have ht := counted_len { q with stack := rest } x.at_
        have gc := g1.counted x.at_
        have H := Px.hid (And.intro fr1 (And.intro hr (And.intro hc (And.intro ht gc))))
        clear e1 fr1 hr h hs hgq hset hfr g1 hc ht hl hp hl2 gc
        obtain ⟨cb, cq, hcb⟩ : ∃ cb cq, Cf.counted { q with stack := rest } x.at_ = (cb, cq) := ⟨_, _, rfl⟩
        have H2 := H.out
        rw [hcb] at H2
        have H := Px.hid H2
        clear hcb H2
        go_wp2_with fail
        refine H.out.2.2.1.mono ?_
        rintro e w' ⟨rfl, hF, hfr⟩
        have H1 := Px.hid (And.intro H.out.1 (And.intro H.out.2.1 (And.intro H.out.2.2.2 (And.intro hF hfr))))
        clear hF hfr H
        cases cb
        · go_wp2
          refine bodyPost_ret (results_none rfl _ _ _) rfl ?_
          rw [H1.out.2.1]
          exact ⟨rfl, H1.out.2.2.2.1, H1.out.1.step (Fresh.refl _ _) H1.out.2.2.2.2⟩
        · go_wp2
          go_roundg g'
          case measure => omega
          case rel =>
            refine ⟨cq, H1.out.2.2.2.1, ?_, H1.out.2.2.1.2, H1.out.1.step (Fresh.refl _ _) H1.out.2.2.2.2, ?_⟩
            · have := H1.out.2.2.1.1
              omega
            · rw [H1.out.2.2.1.1, H1.out.2.1]

theorem ended_any (b p : Nat) (f : Feed) (F : Nat → Prop) (w : World) (h : FeedAt w b f F) (hg : FOk f) (hl : ∀ x ∈ f.stack, 0 < x.left) (hp : f.stack ≠ [] → p < f.text.length) :
    Calls Tryd.prog 45 #[.pointer (some ⟨b, 0, none⟩), .int .i64 p] w fun r w' => r = .returned (.tuple #[]) ∧ FeedAt w' b (Cf.ended f p) F ∧ Fr F w w' := by
  have hc := counted_any b p f F w h hp (fun x rest e => ⟨hl x (by rw [e]; simp), (hg.each x (by rw [e]; simp)).1⟩) hg.stack
  have gc := hg.counted p
  obtain ⟨cb, cq, hcb⟩ : ∃ cb cq, Cf.counted f p = (cb, cq) := ⟨_, _, rfl⟩
  have hr : Cf.ended f p = match Cf.counted f p with | (true, g) => Cf.settle g | (false, g) => g := rfl
  rw [hcb] at hc gc hr
  have H := Px.hid (And.intro hc (And.intro gc hr))
  clear hc gc hr hcb h hg hl hp
  go_enter Tryd.func45, Tryd.ntmps45
  go_wp2_with fail
  refine H.out.1.mono ?_
  rintro e w' ⟨rfl, hF, hfr⟩
  have H1 := Px.hid (And.intro hF (And.intro hfr H.out.2))
  clear hF hfr H
  cases cb
  · go_wp2
    go_end0
    rw [H1.out.2.2.2]
    exact ⟨rfl, H1.out.1, H1.out.2.1⟩
  · go_wp2_with fail
    refine (settle_any b cq F w' H1.out.1 H1.out.2.2.1).mono ?_
    rintro e w2 ⟨rfl, hF, hfr⟩
    go_wp2
    go_end0
    rw [H1.out.2.2.2]
    exact ⟨rfl, hF, H1.out.2.1.step (Fresh.refl _ _) hfr⟩
end Go.Proofs.YtclbbfmpkhfigaaDoor
