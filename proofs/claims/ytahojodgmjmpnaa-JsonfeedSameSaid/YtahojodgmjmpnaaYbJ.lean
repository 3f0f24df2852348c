/-
  The walks over jsonfeed's wrong, object, over.
-/
import Derived.Test.YtahojodgmjmpnaaYaJ
import Derived.Deep.RegionWith
namespace Go.Proofs.Ytahojodgmjmpnaa
open Go.RowKit Go.Px

theorem wrong_any (b : Nat) (p e : Int) (f : J6.Feed) (F : Nat → Prop) (w : World) (h : FeedAt w b f F) :
    Calls Try.prog 19 #[.pointer (some ⟨b, 0, none⟩), .int .i64 p, .int .i64 e] w fun r w' => r = .returned (.tuple #[]) ∧ FeedAt w' b (J6.wrong f p e) F ∧ Fr F w w' := by
  obtain ⟨vo, vs, tv, tb, ps, h, rfl⟩ := h
  have h2 := (h.set 9 (.int .i64 e) { f with err := e } rfl rfl rfl rfl).set 10 (.int .i64 p) (J6.wrong f p e) rfl rfl rfl rfl
  have hf := ((Fr.refl (foot b (blocks vo vs tb ps)) w).setCell (p := ⟨b, 9, none⟩) (.inl (.inl rfl)) (.int .i64 e)).setCell (p := ⟨b, 10, none⟩) (.inl (.inl rfl)) (.int .i64 p)
  have c9 : w.cell? ⟨b, 9, none⟩ = some (.int .i64 f.err) := cellOf h.blk 9 rfl
  have c10 : w.cell? ⟨b, 10, none⟩ = some (.int .i64 f.at_) := cellOf h.blk 10 rfl
  have f9 := h.free 9
  have f10 := h.free 10
  have H2 := Px.hid (And.intro h2 hf)
  clear h2 hf h
  go_enter Try.func19, Try.ntmps19
  go_wp2
  go_end0
  exact ⟨rfl, ⟨_, _, _, _, _, H2.out.1, rfl⟩, H2.out.2⟩

theorem over_any (b : Nat) (f : J6.Feed) (F : Nat → Prop) (w : World) (h : FeedAt w b f F) (hst : f.stack.length ≤ 1000000) :
    Calls Try.prog 39 #[.pointer (some ⟨b, 0, none⟩)] w fun r w' => r = .returned (.tuple #[]) ∧ FeedAt w' b (J6.over f) F ∧ Fr F w w' := by
  obtain ⟨vo, vs, tv, tb, ps, h, rfl⟩ := h
  have c6 : w.cell? ⟨b, 6, none⟩ = some vs := cellOf h.blk 6 rfl
  have c7 : w.cell? ⟨b, 7, none⟩ = some (.int .i64 (f.next : Nat)) := cellOf h.blk 7 rfl
  have f7 := h.free 7
  obtain ⟨a, cap, hv, _⟩ := h.stackLen
  rw [hv] at c6
  have h1 := h.set 7 (.int .i64 5) { f with next := 5 } rfl rfl rfl rfl
  have hf1 := (Fr.refl (foot b (blocks vo vs tb ps)) w).setCell (p := ⟨b, 7, none⟩) (.inl (.inl rfl)) (.int .i64 5)
  rcases hs : f.stack with _ | ⟨x, rest⟩
  · rw [hs] at c6
    have HR := Px.hid (show J6.over f = { f with next := 6 } by unfold J6.over; rw [hs]; rfl)
    have H := Px.hid (And.intro (h1.set 7 (.int .i64 6) { f with next := 6 } rfl rfl rfl rfl) (hf1.setCell (p := ⟨b, 7, none⟩) (.inl (.inl rfl)) (.int .i64 6)))
    clear h h1 hf1 hs hv hst
    go_enter Try.func39, Try.ntmps39
    go_wp2
    go_end0
    rw [HR.out]
    exact ⟨rfl, ⟨_, _, _, _, _, H.out.1, rfl⟩, H.out.2⟩
  · rw [hs] at c6 hst
    have HR := Px.hid (show J6.over f = { f with next := 5 } by unfold J6.over; rw [hs]; rfl)
    have H := Px.hid (And.intro h1 hf1)
    obtain ⟨n, hn⟩ : ∃ n, n = (x :: rest).length := ⟨_, rfl⟩
    rw [← hn] at c6 hst
    have n0 : ((n : Int) == 0) = false := by simp at hn; simp; omega
    clear h h1 hf1 hs hv hn
    go_enter Try.func39, Try.ntmps39
    go_wp2
    go_end0
    rw [HR.out]
    exact ⟨rfl, ⟨_, _, _, _, _, H.out.1, rfl⟩, H.out.2⟩

set_option maxRecDepth 100000 in
set_option maxHeartbeats 1000000 in
theorem object_any (b : Nat) (f : J6.Feed) (F : Nat → Prop) (w : World) (h : FeedAt w b f F) (hsl : f.stack.length ≤ 32) (hno : ∀ x ∈ f.stack, x.no < f.out.length) :
    Calls Try.prog 40 #[.pointer (some ⟨b, 0, none⟩)] w fun r w' => r = .returned (.bool (J6.object f)) ∧ Same w w' := by
  obtain ⟨vo, vs, tv, tb, ps, h, rfl⟩ := h
  have c6 : w.cell? ⟨b, 6, none⟩ = some vs := cellOf h.blk 6 rfl
  rcases hs : f.stack with _ | ⟨x, rest⟩
  · obtain ⟨a, cap, hv, _⟩ := h.stackLen
    rw [hv, hs] at c6
    have HR := Px.hid (show J6.object f = false by unfold J6.object; rw [hs])
    clear h hv hs hsl hno
    go_enter Try.func40, Try.ntmps40
    go_wp2_with fail
    go_quiet (fail)
    go_wp2
    go_ret
    rw [HR.out]
    exact ⟨rfl, (Fr.refl _ w).drewN nq⟩
  · obtain ⟨vn, ps2, hps, hm, g, cap', hv', h1, h2, k0, k1, k2, kf⟩ := h.top hs
    have hx := hno x (by rw [hs]; exact List.mem_cons_self ..)
    obtain ⟨y, hy⟩ : ∃ y, f.out[x.no]? = some y := ⟨_, List.getElem?_eq_getElem hx⟩
    obtain ⟨go, co, hvo, o1, o2, q0, q1, q2, qf⟩ := h.val hy
    have c5 : w.cell? ⟨b, 5, none⟩ = some vo := cellOf h.blk 5 rfl
    rw [hv'] at c6
    rw [hvo] at c5
    have hpl : ps2.length ≤ 32 := by have := congrArg List.length hm; rw [List.length_map] at this; rw [hs] at hsl; simp at hsl; omega
    have n0 : (0 : Int) < (ps2.length : Int) + 1 := by omega
    obtain ⟨L, hL⟩ : ∃ L, L = f.out.length := ⟨_, rfl⟩
    rw [← hL] at c5 hx o1
    have HR := Px.hid (show J6.object f = (y.kind == 6) by unfold J6.object; rw [hs]; simp only; rw [List.getD_eq_getElem?_getD, hy]; rfl)
    unfold maxLen at h2 o2
    clear h hv' hvo hs hno hps hm hy hsl hL
    go_enter Try.func40, Try.ntmps40
    go_wp2_with fail
    go_quiet (fail)
    go_wp2
    go_ret
    rw [HR.out]
    exact ⟨rfl, (Fr.refl _ w).drewN nq⟩
end Go.Proofs.Ytahojodgmjmpnaa
