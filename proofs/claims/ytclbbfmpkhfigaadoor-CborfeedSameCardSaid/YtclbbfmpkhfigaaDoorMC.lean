/-
  Several texts in one: utf8.ValidString at this program: the guide's contract, laid in plain words; what the two tables of package utf8 must hold. The walks over cborfeed's small functions. The walks over cborfeed's settle and ended. The walks over cborfeed's whole and known. The walk over cborfeed's known. The walks over cborfeed's argument and head. The walk over cborfeed's head. The walk over cborfeed's Write. The walks over May (der's and the reference's), cborfeed's New, End, State; and of a nil and a zero feed. The walks over the statements' own helpers of layer 20: Most, wakes; and over CborfeedNil. The walks over the statements CborfeedNil and CborfeedStops.
-/
import Derived.Shelf.Unicode.ValidAny
import Derived.Lib.LaidU8T
import Derived.Test.YtclbbfmpkhfigaaDoorProg
import Derived.Test.YtclbbfmpkhfigaaDoorMB
import Derived.Test.YtclbbfmpkhfigaaDoorMV
import Derived.WalkKit
import Derived.WalkLawsBesides
import Derived.WalkSpells
import Derived.Deep.QuietTactic
import Derived.BigQuiet
import Derived.Deep.RegionHeld3
import Derived.Deep.LoopGhost
import Derived.Deep.RegionLaw
import Derived.Deep.DeepCutAuto
import Derived.Test.YtclbbfmpkhfigaaDoorMA
/-! utf8.ValidString at this program: the guide's contract, laid in plain words; what the two tables of package utf8 must hold. -/
namespace Go.Proofs.YtclbbfmpkhfigaaDoor
open Go.Shelf Go.RowKit Go.Px
def Tryd.laysValid_ren : Go.Shelf.Ren := ⟨fun | 196 => 44 | 259 => 56 | n => n, fun | 9 => 9 | 4 => 4 | 3 => 3 | 5 => 5 | 12 => 12 | 119 => 108 | 0 => 0 | 46 => 90 | 139 => 111 | 138 => 110 | 53 => 44 | n => n, fun | 3 => 0 | 4 => 1 | n => n⟩
theorem Tryd.laysValid : Go.Proofs.Lays.n196 Tryd.prog Tryd.laysValid_ren := {
  mixed := by kernel_rfl
  f196 := Tryd.func44.trans (congrArg some (by kernel_rfl))
  f259 := Tryd.func56.trans (congrArg some (by kernel_rfl))
  t0 := Tryd.underlying0
  a0 := Tryd.isAgg0
  z0 := Tryd.sizeOf0
  v0 := Tryd.zeroValue0
  t3 := Tryd.underlying3
  a3 := Tryd.isAgg3
  z3 := Tryd.sizeOf3
  v3 := Tryd.zeroValue3
  t4 := Tryd.underlying4
  a4 := Tryd.isAgg4
  z4 := Tryd.sizeOf4
  v4 := Tryd.zeroValue4
  t5 := Tryd.underlying5
  a5 := Tryd.isAgg5
  z5 := Tryd.sizeOf5
  v5 := Tryd.zeroValue5
  t9 := Tryd.underlying9
  a9 := Tryd.isAgg9
  z9 := Tryd.sizeOf9
  v9 := Tryd.zeroValue9
  t12 := Tryd.underlying12
  a12 := Tryd.isAgg12
  z12 := Tryd.sizeOf12
  v12 := Tryd.zeroValue12
  t46 := Tryd.underlying90
  a46 := Tryd.isAgg90
  z46 := Tryd.sizeOf90
  v46 := Tryd.zeroValue90
  t53 := Tryd.underlying44
  a53 := Tryd.isAgg44
  z53 := Tryd.sizeOf44
  v53 := Tryd.zeroValue44
  t119 := Tryd.underlying108
  a119 := Tryd.isAgg108
  z119 := Tryd.sizeOf108
  t138 := Tryd.underlying110
  a138 := Tryd.isAgg110
  z138 := Tryd.sizeOf110
  v138 := Tryd.zeroValue110
  t139 := Tryd.underlying111
  a139 := Tryd.isAgg111
  z139 := Tryd.sizeOf111
  v139 := Tryd.zeroValue111
  g3 := by kernel_rfl
  g4 := by kernel_rfl }

/-- The tables of package utf8 lie as its text lays them. -/
def Tabs (w : World) : Prop := Lib.Utf8Tabs 0 1 w
theorem valid_any (l : List UInt8) (w : World) (hl : l.length ≤ 9223372036854775807) (hT : Tabs w) :
    Calls Tryd.prog 44 #[S l] w fun e w' => e = .returned (.bool (Lib.validD l)) ∧ Below w.heap.size w w' :=
  Any.utf8_ValidString Tryd.laysValid ⟨l.toArray⟩ w (by rw [size_S]; exact hl) hT
theorem Tabs.below {w w' : World} (h : Tabs w) (hb : Below w.heap.size w w') : Tabs w' := Utf8Tabs_below h hb
theorem Tabs.fr {w w' : World} {F : Nat → Prop} (h : Tabs w) (hf : Fr F w w') (hF : ∀ k, F k → 2 ≤ k) (hw : 2 ≤ w.heap.size) : Tabs w' := by
  refine ⟨fun c hc => ?_, fun i hi => ⟨?_, ?_⟩⟩
  · rw [hf.cell (p := ⟨_, _, none⟩) (show 0 < w.heap.size by omega) (fun x => by have := hF 0 x; omega)]; exact h.1 c hc
  · rw [hf.cell (p := ⟨_, _, none⟩) (show 1 < w.heap.size by omega) (fun x => by have := hF 1 x; omega)]; exact (h.2 i hi).1
  · rw [hf.cell (p := ⟨_, _, none⟩) (show 1 < w.heap.size by omega) (fun x => by have := hF 1 x; omega)]; exact (h.2 i hi).2
theorem Tabs.drew {w : World} (h : Tabs w) : Tabs w.drew := h
theorem Tabs.drewN {w : World} (h : Tabs w) (n : Nat) : Tabs (w.drewN n) := h
end Go.Proofs.YtclbbfmpkhfigaaDoor

/-! The walks over cborfeed's small functions. -/
namespace Go.Proofs.YtclbbfmpkhfigaaDoor
open Go.RowKit Go.Px Go.Px.Cf

theorem wrong_any (b : Nat) (p e : Int) (f : Feed) (F : Nat → Prop) (w : World) (h : FeedAt w b f F) :
    Calls Tryd.prog 30 #[.pointer (some ⟨b, 0, none⟩), .int .i64 p, .int .i64 e] w fun r w' => r = .returned (.tuple #[]) ∧ FeedAt w' b (Cf.wrong f p e) F ∧ Fr F w w' := by
  obtain ⟨vt, vo, vs, h, rfl⟩ := h
  have h2 := (h.set 13 (.int .i64 e) { f with err := e } rfl rfl rfl rfl).set 14 (.int .i64 p) (Cf.wrong f p e) rfl rfl rfl rfl
  have hf := ((Fr.refl (foot b vt vo vs) w).setCell (p := ⟨b, 13, none⟩) (.inl (.inl rfl)) (.int .i64 e)).setCell (p := ⟨b, 14, none⟩) (.inl (.inl rfl)) (.int .i64 p)
  obtain ⟨_, _, _, _, _, _, _, _, _, _, _, _, _, c13, c14⟩ := h.cells
  have f13 := h.free 13
  have f14 := h.free 14
  have H2 := Px.hid (And.intro h2 hf)
  clear h2 hf h
  go_enter Tryd.func30, Tryd.ntmps30
  go_wp2
  go_end0
  exact ⟨rfl, ⟨_, _, _, H2.out.1, rfl⟩, H2.out.2⟩

theorem Tryd.sizeU8 (w : World) : (Go.sizeOf 5).run Tryd.prog w = .ok 1 w := by kernel_rfl

set_option maxHeartbeats 1000000 in
theorem counted_any (b : Nat) (p : Nat) (f : Feed) (F : Nat → Prop) (w : World) (h : FeedAt w b f F) (hp : f.stack ≠ [] → p < f.text.length) (hl : ∀ x rest, f.stack = x :: rest → 0 < x.left ∧ x.left < 18446744073709551616) (hst : f.stack.length ≤ 1000) :
    Calls Tryd.prog 57 #[.pointer (some ⟨b, 0, none⟩), .int .i64 p] w fun r w' => r = .returned (.bool (Cf.counted f p).1) ∧ FeedAt w' b (Cf.counted f p).2 F ∧ Fr F w w' := by
  obtain ⟨vt, vo, vs, h, rfl⟩ := h
  obtain ⟨a, cap, hv⟩ := h.stackLen
  obtain ⟨_, _, _, _, c4, _, c6, _, _, _, _, _, _, _, _⟩ := h.cells
  rw [hv] at c6
  rcases hs : f.stack with _ | ⟨x, rest⟩
  · rw [hs] at c6
    have hr : Cf.counted f p = (true, f) := by simp [Cf.counted, hs]
    have H := Px.hid (And.intro h hr)
    clear hr h hs hp hl hv
    go_enter Tryd.func57, Tryd.ntmps57
    go_wp2
    go_ret
    rw [H.out.2]
    exact ⟨rfl, ⟨_, _, _, H.out.1, rfl⟩, Fr.refl _ _⟩
  · obtain ⟨hl1, hl2⟩ := hl x rest hs
    have hp := hp (by rw [hs]; simp)
    clear c6 hv
    obtain ⟨_, _, _, _, _, _, c6, _, _, _, _, _, _, _, _⟩ := h.cells
    obtain ⟨g, cap', hv, hc1, hc2, k0, k1, k5, k6, k7, kf⟩ := h.top hs
    subst hv
    rw [hs] at hst
    simp at hst
    unfold maxLen at hc2
    have n0 : ((rest.length : Int) + 1 == 0) = false := by simp; omega
    have hr : Cf.counted f p = if isKey x then (if x.any && leB (f.text.drop p) x.key then (false, Cf.wrong f p 9) else (true, { f with stack := countedKey x (f.text.drop p) :: rest })) else (true, { f with stack := countedTop x :: rest }) := by simp [Cf.counted, hs]
    rw [hr]
    have en : ((x.left - 1 : Nat) : Int) = (x.left : Int) - 1 := by omega
    clear c4
    obtain ⟨gt, capt, hvt, hct1, hct2, hsl, hcv⟩ := h.text.bytes (P := Tryd.prog) hp (t := 42) (dst := 9) (by kernel_rfl) (by kernel_rfl) (by kernel_rfl) Tryd.sizeU8
    subst hvt
    obtain ⟨_, _, _, _, c4, _, _, _, _, _, _, _, _, _, _⟩ := h.cells
    unfold maxLen at hct2
    by_cases hk : isKey x = true
    · rw [if_pos hk]
      simp only [isKey, Bool.and_eq_true, beq_iff_eq] at hk
      obtain ⟨hk5, hk2⟩ := hk
      have hk5' : (x.kind == 5) = true := by simpa using hk5
      have hk2' : ((x.left : Int) % 2 == 0) = true := by simp; omega
      by_cases hle : (x.any && leB (f.text.drop p) x.key) = true
      · rw [if_pos hle]
        simp only [leB, Bool.and_eq_true] at hle
        obtain ⟨ha, hle⟩ := hle
        have H := Px.hid (show FeedAt w b f (foot b (.slice (some ⟨gt, 0, none⟩) f.text.length capt) vo (.slice (some ⟨g, 0, none⟩) (rest.length + 1) cap')) from ⟨_, _, _, h, rfl⟩)
        have H5 := Px.hid hk5
        clear hk5 hr h hs
        go_enter Tryd.func57, Tryd.ntmps57
        go_wp2_with (go_at_call 30; refine (wrong_any b p 9 f _ _ H.out).mono ?_; rintro e w' ⟨rfl, hF, hfr⟩)
        go_ret
        exact ⟨rfl, hF, hfr⟩
      · rw [if_neg hle]
        have e1 := ((h.setTop (y := { x with key := f.text.drop p }) hs 6 (S (f.text.drop p)) rfl).setTop (y := { x with key := f.text.drop p, any := true }) rfl 7 (.bool true) rfl).setTop (y := countedKey x (f.text.drop p)) rfl 5 (.int .u64 (x.left - 1 : Nat)) rfl
        have hfo : foot b (.slice (some ⟨gt, 0, none⟩) f.text.length capt) vo (.slice (some ⟨g, 0, none⟩) (rest.length + 1) cap') g := .inr (.inr (.inr rfl))
        have fr1 := (((Fr.refl (foot b (.slice (some ⟨gt, 0, none⟩) f.text.length capt) vo (.slice (some ⟨g, 0, none⟩) (rest.length + 1) cap')) w).setCell (p := ⟨g, rest.length * 8 + 6, none⟩) (.inl hfo) (S (f.text.drop p))).setCell (p := ⟨g, rest.length * 8 + 7, none⟩) (.inl hfo) (.bool true)).setCell (p := ⟨g, rest.length * 8 + 5, none⟩) (.inl hfo) (.int .u64 (x.left - 1 : Nat))
        rw [en] at e1 fr1
        have H := Px.hid (And.intro e1 fr1)
        have H5 := Px.hid hk5
        clear e1 fr1 hr h hs hk5 hfo
        by_cases ha : x.any = true
        · have hle' : (Op.bytesLess (f.text.drop p) x.key || f.text.drop p == x.key) = false := by
            simp only [ha, leB, Bool.true_and] at hle
            exact Bool.eq_false_iff.2 hle
          clear hle
          go_enter Tryd.func57, Tryd.ntmps57
          go_wp2
          go_ret
          exact ⟨rfl, ⟨_, _, _, H.out.1, rfl⟩, H.out.2⟩
        · have ha' : x.any = false := by simpa using ha
          clear ha hle
          go_enter Tryd.func57, Tryd.ntmps57
          go_wp2
          go_ret
          exact ⟨rfl, ⟨_, _, _, H.out.1, rfl⟩, H.out.2⟩
    · have e1 := h.setTop (y := countedTop x) hs 5 (.int .u64 (x.left - 1 : Nat)) rfl
      rw [if_neg hk]
      have fr1 := (Fr.refl (foot b (.slice (some ⟨gt, 0, none⟩) f.text.length capt) vo (.slice (some ⟨g, 0, none⟩) (rest.length + 1) cap')) w).setCell (p := ⟨g, rest.length * 8 + 5, none⟩) (.inl (.inr (.inr (.inr rfl)))) (.int .u64 (x.left - 1 : Nat))
      rw [en] at e1 fr1
      have H := Px.hid (And.intro e1 fr1)
      clear e1 fr1 hr h hs hsl hcv
      by_cases hk5 : x.kind = 5
      · have hk5' : (x.kind == 5) = true := by simpa using hk5
        have hk2 : ((x.left : Int) % 2 == 0) = false := by
          simp only [isKey, hk5', Bool.true_and, beq_iff_eq] at hk
          simp; omega
        have H5 := Px.hid hk5
        clear hk hk5
        go_enter Tryd.func57, Tryd.ntmps57
        go_wp2
        go_ret
        exact ⟨rfl, ⟨_, _, _, H.out.1, rfl⟩, H.out.2⟩
      · have hk5' : (x.kind == 5) = false := by simpa using hk5
        clear hk
        go_enter Tryd.func57, Tryd.ntmps57
        go_wp2
        go_ret
        exact ⟨rfl, ⟨_, _, _, H.out.1, rfl⟩, H.out.2⟩
end Go.Proofs.YtclbbfmpkhfigaaDoor

/-! The walks over cborfeed's settle and ended. -/
namespace Go.Proofs.YtclbbfmpkhfigaaDoor
open Go.RowKit Go.Px Go.Px.Cf

set_option maxHeartbeats 1000000 in
theorem settle_any (b : Nat) (f : Feed) (F : Nat → Prop) (w : World) (h : FeedAt w b f F) (hg : FOk f) :
    Calls Tryd.prog 55 #[.pointer (some ⟨b, 0, none⟩)] w fun r w' => r = .returned (.tuple #[]) ∧ FeedAt w' b (Cf.settle f) F ∧ Fr F w w' := by
  have h0 : FeedAt (w.setCell ⟨b, 7, none⟩ (.int .i64 0)) b { f with next := 0 } F := by
    obtain ⟨vt, vo, vs, h, rfl⟩ := h
    exact ⟨vt, vo, vs, h.set 7 _ _ rfl rfl rfl rfl, rfl⟩
  have hFb : F b := by obtain ⟨vt, vo, vs, h, rfl⟩ := h; exact .inl rfl
  have c7 : w.cell? ⟨b, 7, none⟩ = some (.int .i64 f.next) := by obtain ⟨vt, vo, vs, h, rfl⟩ := h; exact cellOf h.blk 7 rfl
  have f7 : w.frozen? ⟨b, 7, none⟩ = false := by obtain ⟨vt, vo, vs, h, rfl⟩ := h; exact h.free 7
  have fr0 := (Fr.refl F w).setCell (p := ⟨b, 7, none⟩) (.inl hFb) (.int .i64 0)
  have g0 : FOk { f with next := 0 } := ⟨hg.each, hg.tail, hg.text, hg.stack⟩
  have H0 := Px.hid (show FeedAt (w.setCell ⟨b, 7, none⟩ (.int .i64 0)) b { f with next := 0 } F ∧ Fr F w (w.setCell ⟨b, 7, none⟩ (.int .i64 0)) ∧ FOk { f with next := 0 } from ⟨h0, fr0, g0⟩)
  clear h h0 fr0 g0 hg
  go_enter Tryd.func55, Tryd.ntmps55
  go_wp2
  go_loopg [2] (f.stack.length + 1) (fun gk _ wr => ∃ q, FeedAt wr b q F ∧ q.stack.length < gk ∧ FOk q ∧ Fr F w wr ∧ settleN q.stack.length q = Cf.settle f)
  case atStart => exact ⟨_, H0.out.1, Nat.lt_succ_self _, H0.out.2.2, H0.out.2.1, rfl⟩
  case round =>
    clear H0 c7 f7
    obtain ⟨q, hq, hk, hgq, hfr, hset⟩ := hrel
    obtain ⟨g', rfl⟩ : ∃ g', gk = g' + 1 := ⟨gk - 1, by omega⟩
    obtain ⟨vt, vo, vs, h, rfl⟩ := hq
    obtain ⟨a, cap, hv⟩ := h.stackLen
    have c6 : wr.cell? ⟨b, 6, none⟩ = some vs := cellOf h.blk 6 rfl
    have hqs := hgq.stack
    have hb : b < wr.heap.size := h.lt
    rcases hs : q.stack with _ | ⟨x, rest⟩
    · rw [hv, hs] at c6
      have c7 : wr.cell? ⟨b, 7, none⟩ = some (.int .i64 q.next) := cellOf h.blk 7 rfl
      have f7 := h.free 7
      have e1 := h.set 7 (.int .i64 3) { q with next := 3 } rfl rfl rfl rfl
      have fr1 := hfr.setCell (p := ⟨b, 7, none⟩) (.inl hFb) (.int .i64 3)
      have hr : Cf.settle f = { q with next := 3 } := by rw [← hset, show q.stack.length = 0 by rw [hs]; rfl]; rfl
      have H := Px.hid (And.intro e1 (And.intro fr1 hr))
      clear e1 fr1 hr h hs hgq hset hk hfr hv
      go_wp2
      refine bodyPost_ret (results_none rfl _ _ _) rfl ?_
      rw [H.out.2.2]
      exact ⟨rfl, ⟨_, _, _, H.out.1, rfl⟩, H.out.2.1⟩
    · obtain ⟨g, cap', hv', hc1, hc2, k0, k1, k5, k6, k7, kf⟩ := h.top hs
      subst hv'
      rw [hs] at hqs hk
      simp only [List.length_cons] at hqs hk
      unfold maxLen at hc2
      have n0 : ((rest.length : Int) + 1 == 0) = false := by simp; omega
      have hx := (hgq.each x (by rw [hs]; simp)).1
      clear hv k0 k6 k7
      by_cases hl : 0 < x.left
      · have hr : Cf.settle f = q := by rw [← hset, show q.stack.length = rest.length + 1 by rw [hs]; rfl]; simp [settleN, hs, hl]
        have hl' : (0 : Int) < x.left := by omega
        have H := Px.hid (And.intro h (And.intro hfr hr))
        clear hr h hs hgq hset hfr
        go_wp2
        refine bodyPost_ret (results_none rfl _ _ _) rfl ?_
        rw [H.out.2.2]
        exact ⟨rfl, ⟨_, _, _, H.out.1, rfl⟩, H.out.2.1⟩
      · have hl' : ¬ (0 : Int) < x.left := by omega
        have f6 := h.free 6
        have e1 := h.pop hs
        have fr1 := hfr.setCell (p := ⟨b, 6, none⟩) (.inl hFb) (.slice (some ⟨g, 0, none⟩) rest.length cap')
        have g1 := hgq.pop hs
        have hr : Cf.settle f = match Cf.counted { q with stack := rest } x.at_ with | (true, g) => settleN rest.length g | (false, g) => g := by
          rw [← hset, show q.stack.length = rest.length + 1 by rw [hs]; rfl]; simp [settleN, hs, hl]
          rfl
        have hp := (hgq.each x (by rw [hs]; simp)).2
        have hl2 : ∀ y r2, rest = y :: r2 → 0 < y.left ∧ y.left < 18446744073709551616 := fun y r2 e => ⟨hgq.tail y (by rw [hs, e]; simp), (hgq.each y (by rw [hs, e]; simp)).1⟩
        have hrl : rest.length ≤ 1000 := by omega
        have hc := counted_any b x.at_ { q with stack := rest } _ _ ⟨_, _, _, e1, rfl⟩ (fun _ => hp) hl2 hrl
        have ht := counted_len { q with stack := rest } x.at_
        have gc := g1.counted x.at_
        have H := Px.hid (And.intro fr1 (And.intro hr (And.intro hc (And.intro ht gc))))
        clear e1 fr1 hr h hs hgq hset hfr g1 hc ht hl hp hl2 gc
        obtain ⟨cb, cq, hcb⟩ : ∃ cb cq, Cf.counted { q with stack := rest } x.at_ = (cb, cq) := ⟨_, _, rfl⟩
        have H2 := H.out
        rw [hcb] at H2
        have H := Px.hid H2
        clear hcb H2
        go_wp2_with fail
        refine H.out.2.2.1.mono ?_
        rintro e w' ⟨rfl, hF, hfr⟩
        have H1 := Px.hid (And.intro H.out.1 (And.intro H.out.2.1 (And.intro H.out.2.2.2 (And.intro hF hfr))))
        clear hF hfr H
        cases cb
        · go_wp2
          refine bodyPost_ret (results_none rfl _ _ _) rfl ?_
          rw [H1.out.2.1]
          exact ⟨rfl, H1.out.2.2.2.1, H1.out.1.step (Fresh.refl _ _) H1.out.2.2.2.2⟩
        · go_wp2
          go_roundg g'
          case measure => omega
          case rel =>
            refine ⟨cq, H1.out.2.2.2.1, ?_, H1.out.2.2.1.2, H1.out.1.step (Fresh.refl _ _) H1.out.2.2.2.2, ?_⟩
            · have := H1.out.2.2.1.1
              omega
            · rw [H1.out.2.2.1.1, H1.out.2.1]

theorem ended_any (b p : Nat) (f : Feed) (F : Nat → Prop) (w : World) (h : FeedAt w b f F) (hg : FOk f) (hl : ∀ x ∈ f.stack, 0 < x.left) (hp : f.stack ≠ [] → p < f.text.length) :
    Calls Tryd.prog 45 #[.pointer (some ⟨b, 0, none⟩), .int .i64 p] w fun r w' => r = .returned (.tuple #[]) ∧ FeedAt w' b (Cf.ended f p) F ∧ Fr F w w' := by
  have hc := counted_any b p f F w h hp (fun x rest e => ⟨hl x (by rw [e]; simp), (hg.each x (by rw [e]; simp)).1⟩) hg.stack
  have gc := hg.counted p
  obtain ⟨cb, cq, hcb⟩ : ∃ cb cq, Cf.counted f p = (cb, cq) := ⟨_, _, rfl⟩
  have hr : Cf.ended f p = match Cf.counted f p with | (true, g) => Cf.settle g | (false, g) => g := rfl
  rw [hcb] at hc gc hr
  have H := Px.hid (And.intro hc (And.intro gc hr))
  clear hc gc hr hcb h hg hl hp
  go_enter Tryd.func45, Tryd.ntmps45
  go_wp2_with fail
  refine H.out.1.mono ?_
  rintro e w' ⟨rfl, hF, hfr⟩
  have H1 := Px.hid (And.intro hF (And.intro hfr H.out.2))
  clear hF hfr H
  cases cb
  · go_wp2
    go_end0
    rw [H1.out.2.2.2]
    exact ⟨rfl, H1.out.1, H1.out.2.1⟩
  · go_wp2_with fail
    refine (settle_any b cq F w' H1.out.1 H1.out.2.2.1).mono ?_
    rintro e w2 ⟨rfl, hF, hfr⟩
    go_wp2
    go_end0
    rw [H1.out.2.2.2]
    exact ⟨rfl, hF, H1.out.2.1.step (Fresh.refl _ _) hfr⟩
end Go.Proofs.YtclbbfmpkhfigaaDoor

/-! The walks over cborfeed's whole and known. -/
namespace Go.Proofs.YtclbbfmpkhfigaaDoor
open Go.RowKit Go.Px Go.Px.Cf

theorem Tryd.infoAtom : (Tryd.prog.info? 72).map (fun i => (i.zero, i.size, i.bytes)) = some (some (.agg #[.int .i64 0, .int .u64 0, .string ByteArray.empty]), 3, 32) := by kernel_rfl
theorem Tryd.infoFm : (Tryd.prog.info? 106).map (fun i => (i.zero, i.size, i.bytes)) = some (some (.agg #[.int .i64 0, .int .i64 0, .int .u8 0, .int .u64 0, .int .u64 0, .int .u64 0, .string ByteArray.empty, .bool false]), 8, 72) := by kernel_rfl
theorem Tryd.infoU8 : (Tryd.prog.info? 5).map (fun i => (i.zero, i.size, i.bytes)) = some (some (.int .u8 0), 1, 1) := by kernel_rfl

theorem FeedRep.below {w w' : World} {b : Nat} {f : Feed} {vt vo vs : Value} (h : FeedRep w b f vt vo vs) (hb : Below w.heap.size w w') : FeedRep w' b f vt vo vs :=
  h.fr (F := fun _ => False) (Fr.below hb) (fun _ _ x => x)


set_option maxHeartbeats 1000000 in
theorem whole_any (b : Nat) (f : Feed) (F : Nat → Prop) (w : World) (h : FeedAt w b f F) (hg : FOk f) (hl : ∀ x ∈ f.stack, 0 < x.left) (hp : f.stack ≠ [] → f.hat < f.text.length)
    (hn : f.num ≤ f.text.length) (ho : f.out.length ≤ 1000000) (hT : Tabs w) :
    Calls Tryd.prog 33 #[.pointer (some ⟨b, 0, none⟩)] w fun r w' => r = .returned (.tuple #[]) ∧ ∃ F', FeedAt w' b (Cf.whole f) F' ∧ Fr F w w' ∧ Fresh w F F' := by
  obtain ⟨vt, vo, vs, h, rfl⟩ := h
  have ht := hg.text
  obtain ⟨a, capt, hv, _⟩ := h.text.len
  obtain ⟨sv, hsl, hcv⟩ := h.text.bytesTo (P := Tryd.prog) (p := f.text.length - f.num) (by omega) (t := 42) (dst := 9) (by kernel_rfl) (by kernel_rfl) (by kernel_rfl) Tryd.sizeU8
  have c4 : w.cell? ⟨b, 4, none⟩ = some vt := cellOf h.blk 4 rfl
  have c8' : w.cell? ⟨b, 8, none⟩ = some (.int .i64 f.kind) := cellOf h.blk 8 rfl
  have c9 : w.cell? ⟨b, 9, none⟩ = some (.int .i64 f.hat) := cellOf h.blk 9 rfl
  have c11 : w.cell? ⟨b, 11, none⟩ = some (.int .u64 f.num) := cellOf h.blk 11 rfl
  have en : ((f.text.length - f.num : Nat) : Int) = (f.text.length : Int) - (f.num : Int) := by omega
  rw [en] at hsl
  rw [hv] at c4 hsl
  have H := Px.hid (And.intro h (And.intro (hg.out (f.out ++ [⟨f.kind, 0, f.text.drop (f.text.length - f.num)⟩])) (And.intro hl hp)))
  have HT := Px.hid hT
  clear h hg hl hp hv hT en
  by_cases hk : f.kind = 3
  · have hk' : (f.kind == 3) = true := by simpa using hk
    have hlen : (f.text.drop (f.text.length - f.num)).length ≤ 9223372036854775807 := by simp; omega
    by_cases hvd : Lib.validD (f.text.drop (f.text.length - f.num)) = true
    · have hr : Cf.whole f = Cf.ended { f with out := f.out ++ [⟨f.kind, 0, f.text.drop (f.text.length - f.num)⟩] } f.hat := by simp [Cf.whole, hvd]
      have HR := Px.hid (And.intro hr (And.intro hlen hvd))
      clear hk hr hlen hvd
      go_enter Tryd.func33, Tryd.ntmps33
      go_wp2_with fail
      go_quiet (fail)
      go_wp2_with fail
      refine (valid_any _ _ HR.out.2.1 (HT.out.drewN nq)).mono ?_
      rintro e WX ⟨rfl, hbl⟩
      have HX := Px.hid ((H.out.1.drewN nq).below hbl)
      have HXF := Px.hid (And.intro (Fr.trans (Fr.drewN (Fr.refl (foot b vt vo vs) w) nq) (Fr.below hbl) (fun _ _ x => x)) True.intro)
      have HR := Px.hid (And.intro HR.out.1 HR.out.2.2)
      clear hbl
      rw [HR.out.2]
      have HR := Px.hid HR.out.1
      clear hsl hcv c4 c8' c9 c11
      have f5 := HX.out.free 5
      have hb : b < WX.heap.size := HX.out.lt
      obtain ⟨i0, hi0, hz0, hz1, hz2⟩ := info_parts Tryd.infoAtom
      have c5 : WX.cell? ⟨b, 5, none⟩ = some vo := cellOf HX.out.blk 5 rfl
      have c8 : WX.cell? ⟨b, 8, none⟩ = some (.int .i64 f.kind) := cellOf HX.out.blk 8 rfl
      go_upto_region 4 with fail
      go_cut [] (fun wx => AfterOut WX wx b f ⟨f.kind, 0, f.text.drop (f.text.length - f.num)⟩ vt vo vs)
      case first =>
        go_region_law
          ((refine step_append_lies _ (by rfl) _ _ _ (by rfl) 0 72 i0 _ 3 32 Tryd.underlying32 hi0 hz0 hz1 hz2 rfl (by omega) vo f.out.length (f.out.flatMap cAtom) (by rfl) ((HX.out.out.alloc _).drew)
                ⟨WX.heap.size, 0, none⟩ 1 1 (cAtom ⟨f.kind, 0, f.text.drop (f.text.length - f.num)⟩) (by rfl) (by rfl) (World.news_of_block (cs := #[.int .i64 f.kind, .int .u64 0, S (f.text.drop (f.text.length - f.num))]) (t := 72) (fr := (0, 0)) (heap_alloc_new WX _)) (by simp [cAtom, Value.oneCell'])
                (by omega) (by unfold maxLen; omega) (by omega) (by simp) (WX.heap.size + 1) (by simp) ?_; intro gg cap w1 hown1 hgrow hat hlt; have k5 := grown_cell hgrow c5 HX.out.ob.ne; have e5 := grown_free hgrow c5 f5 HX.out.ob.ne))
        all_goals (go_wp2_with fail; go_meet; exact HX.out.afterOut hown1 (grown_alloc hgrow) (hat.imp id (fun e => by omega)))
      case rest =>
        obtain ⟨vo', hy, hyf, hyn⟩ := hcut
        have c9 : wc.cell? ⟨b, 9, none⟩ = some (.int .i64 f.hat) := cellOf hy.blk 9 rfl
        have HY := Px.hid (And.intro hy (And.intro hyf hyn))
        clear hy hyf hyn c5 c8 f5
        go_wp2_with fail
        refine (ended_any b f.hat _ _ _ ⟨_, _, _, HY.out.1, rfl⟩ H.out.2.1 H.out.2.2.1 H.out.2.2.2).mono ?_
        rintro e w' ⟨rfl, hF, hfr⟩
        go_wp2
        go_end0
        rw [HR.out]
        exact ⟨rfl, _, hF, HXF.out.1.step (Fresh.refl _ _) (HY.out.2.1.step HY.out.2.2 hfr), Fresh.trans (Fresh.refl _ _) HXF.out.1.size HY.out.2.2⟩
    · have hvd : Lib.validD (f.text.drop (f.text.length - f.num)) = false := by simpa using hvd
      have hr : Cf.whole f = Cf.wrong f f.hat 9 := by simp [Cf.whole, hk, hvd]
      have HR := Px.hid (And.intro hr (And.intro hlen hvd))
      clear hk hr hlen hvd
      go_enter Tryd.func33, Tryd.ntmps33
      go_wp2_with fail
      go_quiet (fail)
      go_wp2_with fail
      refine (valid_any _ _ HR.out.2.1 (HT.out.drewN nq)).mono ?_
      rintro e WX ⟨rfl, hbl⟩
      have HX := Px.hid ((H.out.1.drewN nq).below hbl)
      have HXF := Px.hid (Fr.trans (Fr.drewN (Fr.refl (foot b vt vo vs) w) nq) (Fr.below (F := foot b vt vo vs) hbl) (fun _ _ x => x))
      clear hbl
      rw [HR.out.2.2]
      have HR := Px.hid HR.out.1
      clear hsl hcv c4 c8' c9 c11
      have c9 : WX.cell? ⟨b, 9, none⟩ = some (.int .i64 f.hat) := cellOf HX.out.blk 9 rfl
      go_wp2_with fail
      refine (wrong_any b f.hat 9 f _ _ ⟨_, _, _, HX.out, rfl⟩).mono ?_
      rintro e w' ⟨rfl, hF, hfr⟩
      go_wp2
      refine bodyPost_ret (results_none rfl _ _ _) rfl ?_
      rw [HR.out]
      exact ⟨rfl, _, hF, HXF.out.step (Fresh.refl _ _) hfr, Fresh.refl _ _⟩
  · have hk' : (f.kind == 3) = false := by simpa using hk
    have hr : Cf.whole f = Cf.ended { f with out := f.out ++ [⟨f.kind, 0, f.text.drop (f.text.length - f.num)⟩] } f.hat := by simp [Cf.whole, hk]
    have HR := Px.hid hr
    clear hk hr
    go_enter Tryd.func33, Tryd.ntmps33
    go_wp2_with fail
    go_quiet (fail)
    obtain ⟨WX, hWX⟩ : ∃ WX, WX = w.drewN nq := ⟨_, rfl⟩
    have HX := Px.hid (H.out.1.drewN nq)
    have HXF := Px.hid (And.intro (Fr.drewN (Fr.refl (foot b vt vo vs) w) nq) True.intro)
    have c8x : (w.drewN nq).cell? ⟨b, 8, none⟩ = some (.int .i64 f.kind) := cellOf HX.out.blk 8 rfl
    rw [← hWX] at HX HXF c8x ⊢
    clear hWX hsl hcv c4 c8' c9 c11
    have f5 := HX.out.free 5
    have hb : b < WX.heap.size := HX.out.lt
    obtain ⟨i0, hi0, hz0, hz1, hz2⟩ := info_parts Tryd.infoAtom
    have c5 : WX.cell? ⟨b, 5, none⟩ = some vo := cellOf HX.out.blk 5 rfl
    have c8 : WX.cell? ⟨b, 8, none⟩ = some (.int .i64 f.kind) := cellOf HX.out.blk 8 rfl
    go_upto_region 4 with fail
    go_cut [] (fun wx => AfterOut WX wx b f ⟨f.kind, 0, f.text.drop (f.text.length - f.num)⟩ vt vo vs)
    case first =>
      go_region_law
        ((refine step_append_lies _ (by rfl) _ _ _ (by rfl) 0 72 i0 _ 3 32 Tryd.underlying32 hi0 hz0 hz1 hz2 rfl (by omega) vo f.out.length (f.out.flatMap cAtom) (by rfl) ((HX.out.out.alloc _).drew)
              ⟨WX.heap.size, 0, none⟩ 1 1 (cAtom ⟨f.kind, 0, f.text.drop (f.text.length - f.num)⟩) (by rfl) (by rfl) (World.news_of_block (cs := #[.int .i64 f.kind, .int .u64 0, S (f.text.drop (f.text.length - f.num))]) (t := 72) (fr := (0, 0)) (heap_alloc_new WX _)) (by simp [cAtom, Value.oneCell'])
              (by omega) (by unfold maxLen; omega) (by omega) (by simp) (WX.heap.size + 1) (by simp) ?_; intro gg cap w1 hown1 hgrow hat hlt; have k5 := grown_cell hgrow c5 HX.out.ob.ne; have e5 := grown_free hgrow c5 f5 HX.out.ob.ne))
      all_goals (go_wp2_with fail; go_meet; exact HX.out.afterOut hown1 (grown_alloc hgrow) (hat.imp id (fun e => by omega)))
    case rest =>
      obtain ⟨vo', hy, hyf, hyn⟩ := hcut
      have c9 : wc.cell? ⟨b, 9, none⟩ = some (.int .i64 f.hat) := cellOf hy.blk 9 rfl
      have HY := Px.hid (And.intro hy (And.intro hyf hyn))
      clear hy hyf hyn c5 c8 f5
      go_wp2_with fail
      refine (ended_any b f.hat _ _ _ ⟨_, _, _, HY.out.1, rfl⟩ H.out.2.1 H.out.2.2.1 H.out.2.2.2).mono ?_
      rintro e w' ⟨rfl, hF, hfr⟩
      go_wp2
      go_end0
      rw [HR.out]
      exact ⟨rfl, _, hF, HXF.out.1.step (Fresh.refl _ _) (HY.out.2.1.step HY.out.2.2 hfr), Fresh.trans (Fresh.refl _ _) HXF.out.1.size HY.out.2.2⟩
end Go.Proofs.YtclbbfmpkhfigaaDoor

/-! The walk over cborfeed's known. -/
namespace Go.Proofs.YtclbbfmpkhfigaaDoor
open Go.RowKit Go.Px Go.Px.Cf

set_option maxRecDepth 100000 in
set_option maxHeartbeats 4000000 in
theorem known_any (b : Nat) (f : Feed) (F : Nat → Prop) (w : World) (h : FeedAt w b f F) (hg : FOk f) (hl : ∀ x ∈ f.stack, 0 < x.left) (hp : f.hat < f.text.length)
    (hn : f.num < 18446744073709551616) (hF2 : ∀ k, F k → 2 ≤ k) (ho : f.out.length ≤ 1000000) (hsk : f.stack.length ≤ 900) (hT : Tabs w) :
    Calls Tryd.prog 43 #[.pointer (some ⟨b, 0, none⟩)] w fun r w' => r = .returned (.tuple #[]) ∧ ∃ F', FeedAt w' b (Cf.known f) F' ∧ Fr F w w' ∧ Fresh w F F' := by
  obtain ⟨vt, vo, vs, h, rfl⟩ := h
  have ht := hg.text
  have c8 : w.cell? ⟨b, 8, none⟩ = some (.int .i64 f.kind) := cellOf h.blk 8 rfl
  have c11 : w.cell? ⟨b, 11, none⟩ = some (.int .u64 f.num) := cellOf h.blk 11 rfl
  have hb : b < w.heap.size := h.lt
  have HG := Px.hid (show ∀ N, N < 18446744073709551616 → FOk { f with out := f.out ++ [⟨f.kind, f.num, []⟩], stack := ⟨f.kind, f.hat, f.info, f.num, f.more, N, [], false⟩ :: f.stack } from
    fun N hN => (hg.push hl N hN hp hsk).out _)
  have H := Px.hid (And.intro h (And.intro hg (And.intro hl (And.intro hp hT))))
  clear h hg hl hT

  by_cases k2 : f.kind = 2
  · have hk := k2
    clear k2
    have k2' : (f.kind == 2) = true := by rw [hk]; rfl
    have c7 : w.cell? ⟨b, 7, none⟩ = some (.int .i64 f.next) := cellOf H.out.1.blk 7 rfl
    have c12 : w.cell? ⟨b, 12, none⟩ = some (.int .u64 f.more) := cellOf H.out.1.blk 12 rfl
    have f7 := H.out.1.free 7
    have f12 := H.out.1.free 12
    have HY := Px.hid (((H.out.1.set 12 (.int .u64 f.num) { f with more := f.num } rfl rfl rfl rfl).set 7 (.int .i64 2) { f with more := f.num, next := 2 } rfl rfl rfl rfl).alloc (.cells #[.int .i64 f.kind, .int .u64 f.num, .string ⟨#[]⟩] 72))
    have HYF := Px.hid ((((Fr.refl (foot b vt vo vs) w).setCell (p := ⟨b, 12, none⟩) (.inl (.inl rfl)) (.int .u64 f.num)).setCell (p := ⟨b, 7, none⟩) (.inl (.inl rfl)) (.int .i64 2)).alloc (.cells #[.int .i64 f.kind, .int .u64 f.num, .string ⟨#[]⟩] 72))
    by_cases hz : f.num = 0
    · have hz' : ((f.num : Int) == 0) = true := by simp [hz]
      have HR := Px.hid (show Cf.known f = Cf.whole { f with more := f.num, next := 2 } by simp [Cf.known, hk, hz])
      have HZ := Px.hid hz
      clear hk hz
      go_enter Tryd.func43, Tryd.ntmps43
      go_wp2_with fail
      refine (whole_any b { f with more := f.num, next := 2 } _ _ ⟨_, _, _, HY.out, rfl⟩ ⟨H.out.2.1.each, H.out.2.1.tail, H.out.2.1.text, H.out.2.1.stack⟩ H.out.2.2.1 (fun _ => H.out.2.2.2.1) (by show f.num ≤ _; rw [HZ.out]; exact Nat.zero_le _) ho (H.out.2.2.2.2.fr HYF.out hF2 (by have := hF2 b (.inl rfl); omega))).mono ?_
      rintro e w' ⟨rfl, F', hF, hfr, hn'⟩
      have HE := Px.hid (And.intro hF (And.intro hfr hn'))
      clear hF hfr hn'
      go_wp2
      refine bodyPost_ret (results_none rfl _ _ _) rfl ?_
      rw [HR.out]
      exact ⟨rfl, _, HE.out.1, HYF.out.step (Fresh.refl _ _) HE.out.2.1, Fresh.trans (Fresh.refl _ _) HYF.out.size HE.out.2.2⟩
    · have hz' : ((f.num : Int) == 0) = false := by simp [hz]
      have HR := Px.hid (show Cf.known f = { f with more := f.num, next := 2 } by simp [Cf.known, hk, hz])
      clear hk hz
      go_enter Tryd.func43, Tryd.ntmps43
      go_wp2
      refine bodyPost_ret (results_none rfl _ _ _) rfl ?_
      rw [HR.out]
      exact ⟨rfl, _, ⟨_, _, _, HY.out, rfl⟩, HYF.out, Fresh.refl _ _⟩
  by_cases k3 : f.kind = 3
  · have hk := k3
    clear k3
    have k2' : (f.kind == 2) = false := by rw [hk]; rfl
    have k3' : (f.kind == 3) = true := by rw [hk]; rfl
    have c7 : w.cell? ⟨b, 7, none⟩ = some (.int .i64 f.next) := cellOf H.out.1.blk 7 rfl
    have c12 : w.cell? ⟨b, 12, none⟩ = some (.int .u64 f.more) := cellOf H.out.1.blk 12 rfl
    have f7 := H.out.1.free 7
    have f12 := H.out.1.free 12
    have HY := Px.hid (((H.out.1.set 12 (.int .u64 f.num) { f with more := f.num } rfl rfl rfl rfl).set 7 (.int .i64 2) { f with more := f.num, next := 2 } rfl rfl rfl rfl).alloc (.cells #[.int .i64 f.kind, .int .u64 f.num, .string ⟨#[]⟩] 72))
    have HYF := Px.hid ((((Fr.refl (foot b vt vo vs) w).setCell (p := ⟨b, 12, none⟩) (.inl (.inl rfl)) (.int .u64 f.num)).setCell (p := ⟨b, 7, none⟩) (.inl (.inl rfl)) (.int .i64 2)).alloc (.cells #[.int .i64 f.kind, .int .u64 f.num, .string ⟨#[]⟩] 72))
    by_cases hz : f.num = 0
    · have hz' : ((f.num : Int) == 0) = true := by simp [hz]
      have HR := Px.hid (show Cf.known f = Cf.whole { f with more := f.num, next := 2 } by simp [Cf.known, hk, hz])
      have HZ := Px.hid hz
      clear hk hz
      go_enter Tryd.func43, Tryd.ntmps43
      go_wp2_with fail
      refine (whole_any b { f with more := f.num, next := 2 } _ _ ⟨_, _, _, HY.out, rfl⟩ ⟨H.out.2.1.each, H.out.2.1.tail, H.out.2.1.text, H.out.2.1.stack⟩ H.out.2.2.1 (fun _ => H.out.2.2.2.1) (by show f.num ≤ _; rw [HZ.out]; exact Nat.zero_le _) ho (H.out.2.2.2.2.fr HYF.out hF2 (by have := hF2 b (.inl rfl); omega))).mono ?_
      rintro e w' ⟨rfl, F', hF, hfr, hn'⟩
      have HE := Px.hid (And.intro hF (And.intro hfr hn'))
      clear hF hfr hn'
      go_wp2
      refine bodyPost_ret (results_none rfl _ _ _) rfl ?_
      rw [HR.out]
      exact ⟨rfl, _, HE.out.1, HYF.out.step (Fresh.refl _ _) HE.out.2.1, Fresh.trans (Fresh.refl _ _) HYF.out.size HE.out.2.2⟩
    · have hz' : ((f.num : Int) == 0) = false := by simp [hz]
      have HR := Px.hid (show Cf.known f = { f with more := f.num, next := 2 } by simp [Cf.known, hk, hz])
      clear hk hz
      go_enter Tryd.func43, Tryd.ntmps43
      go_wp2
      refine bodyPost_ret (results_none rfl _ _ _) rfl ?_
      rw [HR.out]
      exact ⟨rfl, _, ⟨_, _, _, HY.out, rfl⟩, HYF.out, Fresh.refl _ _⟩
  by_cases k4 : f.kind = 4
  · have hk := k4
    clear k4
    have k2' : (f.kind == 2) = false := by rw [hk]; rfl
    have k3' : (f.kind == 3) = false := by rw [hk]; rfl
    have k4' : (f.kind == 4) = true := by rw [hk]; rfl
    have HR := Px.hid (show Cf.known f = Cf.opens f (f.num) by simp [Cf.known, hk])
    have HN := Px.hid (show f.num < 18446744073709551616 by exact hn)
    clear hk
    have s6 : w.cell? ⟨b, 6, none⟩ = some vs := cellOf H.out.1.blk 6 rfl
    have s0 : w.cell? ⟨b, 0, none⟩ = some (.int .i64 f.lim.d) := cellOf H.out.1.blk 0 rfl
    obtain ⟨sa, sc, hsv⟩ := H.out.1.stackLen
    rw [hsv] at s6
    have HSV := Px.hid hsv
    clear hsv
    go_enter Tryd.func43, Tryd.ntmps43
    go_wp2_with fail
    go_quiet (fail)
    clear s6 s0
    have HX := Px.hid ((H.out.1.alloc (.cells #[.int .i64 f.kind, .int .u64 f.num, .string ⟨#[]⟩] 72)).drewN nq)
    have HXF := Px.hid (Fr.drewN ((Fr.refl (foot b vt vo vs) w).alloc (.cells #[.int .i64 f.kind, .int .u64 f.num, .string ⟨#[]⟩] 72)) nq)
    have hx : ((w.alloc (.cells #[.int .i64 f.kind, .int .u64 f.num, .string ⟨#[]⟩] 72)).drewN nq).heap[w.heap.size]? = some (.cells #[.int .i64 f.kind, .int .u64 f.num, .string ⟨#[]⟩] 72 (0, 0)) := heap_alloc_new w _
    have hlt : w.heap.size < ((w.alloc (.cells #[.int .i64 f.kind, .int .u64 f.num, .string ⟨#[]⟩] 72)).drewN nq).heap.size := (by simp)
    obtain ⟨WX, hWX⟩ : ∃ WX, WX = (w.alloc (.cells #[.int .i64 f.kind, .int .u64 f.num, .string ⟨#[]⟩] 72)).drewN nq := ⟨_, rfl⟩
    have eW : (w.alloc (.cells #[.int .i64 f.kind, .int .u64 f.num, .string ⟨#[]⟩] 72)).drewN nq = WX := hWX.symm
    rw [eW] at HX HXF hx hlt ⊢
    clear hWX eW c8 c11 hb
    have hb : b < WX.heap.size := HX.out.lt
    have x0 : WX.cell? ⟨w.heap.size, 0, none⟩ = some (.int .i64 f.kind) := cellOf hx 0 rfl
    have x1 : WX.cell? ⟨w.heap.size, 1, none⟩ = some (.int .u64 f.num) := cellOf hx 1 rfl
    have x2 : WX.cell? ⟨w.heap.size, 2, none⟩ = some (.string ⟨#[]⟩) := cellOf hx 2 rfl
    have c9 : WX.cell? ⟨b, 9, none⟩ = some (.int .i64 f.hat) := cellOf HX.out.blk 9 rfl
    rcases Bool.eq_false_or_eq_true ((f.stack.length : Int) == f.lim.d) with hd | hd
    · have HR := Px.hid (show Cf.known f = Cf.wrong f f.hat 10 by rw [HR.out]; simp only [Cf.opens, hd, if_true])
      have HD := Px.hid hd
      go_wp2_with fail
      refine (wrong_any b f.hat 10 f _ _ ⟨_, _, _, HX.out, rfl⟩).mono ?_
      rintro e w' ⟨rfl, hF, hfr⟩
      go_wp2
      refine bodyPost_ret (results_none rfl _ _ _) rfl ?_
      rw [HR.out]
      exact ⟨rfl, _, hF, HXF.out.step (Fresh.refl _ _) hfr, Fresh.refl _ _⟩
    · have HR := Px.hid (show Cf.known f = Cf.settle { f with out := f.out ++ [⟨f.kind, f.num, []⟩], stack := ⟨f.kind, f.hat, f.info, f.num, f.more, f.num, [], false⟩ :: f.stack } by rw [HR.out]; simp only [Cf.opens, hd]; rfl)
      have c5 : WX.cell? ⟨b, 5, none⟩ = some vo := cellOf HX.out.blk 5 rfl
      have f5 := HX.out.free 5
      obtain ⟨i0, hi0, hz0, hz1, hz2⟩ := info_parts Tryd.infoAtom
      go_upto_region 18 with fail
      go_cut [] (fun wx => AfterOut WX wx b f ⟨f.kind, f.num, []⟩ vt vo vs)
      case first =>
        go_region_law
          ((refine step_append_lies _ (by rfl) _ _ _ (by rfl) 0 72 i0 _ 3 32 Tryd.underlying32 hi0 hz0 hz1 hz2 rfl (by omega) vo f.out.length (f.out.flatMap cAtom) (by rfl) ((HX.out.out.alloc _).drew)
                ⟨WX.heap.size, 0, none⟩ 1 1 (cAtom ⟨f.kind, f.num, []⟩) (by rfl) (by rfl) (World.news_of_block (cs := #[.int .i64 f.kind, .int .u64 f.num, S []]) (t := 72) (fr := (0, 0)) (heap_alloc_new WX _)) (by simp [cAtom, Value.oneCell'])
                (by omega) (by unfold maxLen; omega) (by omega) (by simp) (WX.heap.size + 1) (by simp) ?_; intro gg cap w1 hown1 hgrow hat hlt; have k5 := grown_cell hgrow c5 HX.out.ob.ne; have e5 := grown_free hgrow c5 f5 HX.out.ob.ne))
        all_goals (go_wp2_with fail; go_meet; exact HX.out.afterOut hown1 (grown_alloc hgrow) (hat.imp id (fun e => by omega)))
      case rest =>
        obtain ⟨vo', hy, hyf, hyn⟩ := hcut
        have HY := Px.hid (And.intro hy (And.intro hyf hyn))
        clear hy hyf hyn c5 f5 hx
        have hb : b < wc.heap.size := HY.out.1.lt
        have c6 : wc.cell? ⟨b, 6, none⟩ = some vs := cellOf HY.out.1.blk 6 rfl
        have f6 := HY.out.1.free 6
        have c8 : wc.cell? ⟨b, 8, none⟩ = some (.int .i64 f.kind) := cellOf HY.out.1.blk 8 rfl
        have c9 : wc.cell? ⟨b, 9, none⟩ = some (.int .i64 f.hat) := cellOf HY.out.1.blk 9 rfl
        have c10 : wc.cell? ⟨b, 10, none⟩ = some (.int .u8 f.info) := cellOf HY.out.1.blk 10 rfl
        have c11 : wc.cell? ⟨b, 11, none⟩ = some (.int .u64 f.num) := cellOf HY.out.1.blk 11 rfl
        have c12 : wc.cell? ⟨b, 12, none⟩ = some (.int .u64 f.more) := cellOf HY.out.1.blk 12 rfl
        obtain ⟨j0, hj0, hy0, hy1, hy2⟩ := info_parts Tryd.infoFm
        have hsl : f.stack.reverse.length = f.stack.length := List.length_reverse
        have HS := Px.hid (show wc.ownsRow 0 106 8 vs f.stack.length (f.stack.reverse.flatMap cFrame) by have := HY.out.1.stack; unfold Owns at this; rw [show ({ f with out := f.out ++ [⟨f.kind, f.num, []⟩] } : Feed).stack.reverse.length = f.stack.length from hsl] at this; exact this)
        clear hsl
        go_upto_region 19 with fail
        go_cut [] (fun wx => AfterPush wc wx b { f with out := f.out ++ [⟨f.kind, f.num, []⟩] } ⟨f.kind, f.hat, f.info, f.num, f.more, f.num, [], false⟩ vt vo' vs)
        case first =>
          go_region_law
            ((refine step_append_lies _ (by rfl) _ _ _ (by rfl) 0 106 j0 _ 8 72 Tryd.underlying43 hj0 hy0 hy1 hy2 rfl (by omega) vs f.stack.length (f.stack.reverse.flatMap cFrame) (by rfl) ((HS.out.alloc _).drew)
                  ⟨wc.heap.size, 0, none⟩ 1 1 (cFrame ⟨f.kind, f.hat, f.info, f.num, f.more, f.num, [], false⟩) (by rfl) (by rfl) (World.news_of_block (cs := #[.int .i64 f.kind, .int .i64 f.hat, .int .u8 f.info, .int .u64 f.num, .int .u64 f.more, .int .u64 f.num, S [], .bool false]) (t := 106) (fr := (0, 0)) (heap_alloc_new wc _)) (by simp [cFrame, Value.oneCell'])
                  (by omega) (by unfold maxLen; omega) (by omega) (by simp) (wc.heap.size + 1) (by simp) ?_; intro gg cap w1 hown1 hgrow hat hlt; have k6 := grown_cell hgrow c6 HY.out.1.sb.ne; have e6 := grown_free hgrow c6 f6 HY.out.1.sb.ne))
          all_goals (go_wp2_with fail; go_meet; exact HY.out.1.afterPush hown1 (grown_alloc hgrow) (hat.imp id (fun e => by omega)))
        case rest =>
          obtain ⟨vs', hz, hzf, hzn⟩ := hcut
          have HZ := Px.hid (And.intro hz (And.intro hzf hzn))
          clear hz hzf hzn c6 f6 c8 c9 c10 c11 c12
          go_wp2_with fail
          refine (settle_any b _ _ _ ⟨_, _, _, HZ.out.1, rfl⟩ (HG.out f.num HN.out)).mono ?_
          rintro e w' ⟨rfl, hF, hfr⟩
          go_wp2
          go_end0
          rw [HR.out]
          exact ⟨rfl, _, hF, HXF.out.step (Fresh.refl _ _) (HY.out.2.1.step HY.out.2.2 (HZ.out.2.1.step HZ.out.2.2 hfr)),
            Fresh.trans (Fresh.refl _ _) HXF.out.size (Fresh.trans HY.out.2.2 HY.out.2.1.size HZ.out.2.2)⟩
  by_cases k5 : f.kind = 5
  · have hk := k5
    clear k5
    have k2' : (f.kind == 2) = false := by rw [hk]; rfl
    have k3' : (f.kind == 3) = false := by rw [hk]; rfl
    have k4' : (f.kind == 4) = false := by rw [hk]; rfl
    have k5' : (f.kind == 5) = true := by rw [hk]; rfl
    have HR := Px.hid (show Cf.known f = Cf.opens f (2 * min f.num 1099511627776) by simp [Cf.known, hk])
    have HN := Px.hid (show 2 * min f.num 1099511627776 < 18446744073709551616 by omega)
    clear hk
    have s6 : w.cell? ⟨b, 6, none⟩ = some vs := cellOf H.out.1.blk 6 rfl
    have s0 : w.cell? ⟨b, 0, none⟩ = some (.int .i64 f.lim.d) := cellOf H.out.1.blk 0 rfl
    obtain ⟨sa, sc, hsv⟩ := H.out.1.stackLen
    rw [hsv] at s6
    have HSV := Px.hid hsv
    clear hsv
    go_enter Tryd.func43, Tryd.ntmps43
    go_wp2_with fail
    go_quiet (fail)
    obtain ⟨N, hN⟩ : ∃ N : Nat, N = 2 * min f.num 1099511627776 := ⟨_, rfl⟩
    have en : (2 * min (f.num : Int) 1099511627776 : Int) = (N : Int) := by omega
    rw [en]
    rw [← hN] at HR HN
    clear en hN
    clear s6 s0
    have HX := Px.hid ((H.out.1.alloc (.cells #[.int .i64 f.kind, .int .u64 f.num, .string ⟨#[]⟩] 72)).drewN nq)
    have HXF := Px.hid (Fr.drewN ((Fr.refl (foot b vt vo vs) w).alloc (.cells #[.int .i64 f.kind, .int .u64 f.num, .string ⟨#[]⟩] 72)) nq)
    have hx : ((w.alloc (.cells #[.int .i64 f.kind, .int .u64 f.num, .string ⟨#[]⟩] 72)).drewN nq).heap[w.heap.size]? = some (.cells #[.int .i64 f.kind, .int .u64 f.num, .string ⟨#[]⟩] 72 (0, 0)) := heap_alloc_new w _
    have hlt : w.heap.size < ((w.alloc (.cells #[.int .i64 f.kind, .int .u64 f.num, .string ⟨#[]⟩] 72)).drewN nq).heap.size := (by simp)
    obtain ⟨WX, hWX⟩ : ∃ WX, WX = (w.alloc (.cells #[.int .i64 f.kind, .int .u64 f.num, .string ⟨#[]⟩] 72)).drewN nq := ⟨_, rfl⟩
    have eW : (w.alloc (.cells #[.int .i64 f.kind, .int .u64 f.num, .string ⟨#[]⟩] 72)).drewN nq = WX := hWX.symm
    rw [eW] at HX HXF hx hlt ⊢
    clear hWX eW c8 c11 hb
    have hb : b < WX.heap.size := HX.out.lt
    have x0 : WX.cell? ⟨w.heap.size, 0, none⟩ = some (.int .i64 f.kind) := cellOf hx 0 rfl
    have x1 : WX.cell? ⟨w.heap.size, 1, none⟩ = some (.int .u64 f.num) := cellOf hx 1 rfl
    have x2 : WX.cell? ⟨w.heap.size, 2, none⟩ = some (.string ⟨#[]⟩) := cellOf hx 2 rfl
    have c9 : WX.cell? ⟨b, 9, none⟩ = some (.int .i64 f.hat) := cellOf HX.out.blk 9 rfl
    rcases Bool.eq_false_or_eq_true ((f.stack.length : Int) == f.lim.d) with hd | hd
    · have HR := Px.hid (show Cf.known f = Cf.wrong f f.hat 10 by rw [HR.out]; simp only [Cf.opens, hd, if_true])
      have HD := Px.hid hd
      go_wp2_with fail
      refine (wrong_any b f.hat 10 f _ _ ⟨_, _, _, HX.out, rfl⟩).mono ?_
      rintro e w' ⟨rfl, hF, hfr⟩
      go_wp2
      refine bodyPost_ret (results_none rfl _ _ _) rfl ?_
      rw [HR.out]
      exact ⟨rfl, _, hF, HXF.out.step (Fresh.refl _ _) hfr, Fresh.refl _ _⟩
    · have HR := Px.hid (show Cf.known f = Cf.settle { f with out := f.out ++ [⟨f.kind, f.num, []⟩], stack := ⟨f.kind, f.hat, f.info, f.num, f.more, N, [], false⟩ :: f.stack } by rw [HR.out]; simp only [Cf.opens, hd]; rfl)
      have c5 : WX.cell? ⟨b, 5, none⟩ = some vo := cellOf HX.out.blk 5 rfl
      have f5 := HX.out.free 5
      obtain ⟨i0, hi0, hz0, hz1, hz2⟩ := info_parts Tryd.infoAtom
      go_upto_region 18 with fail
      go_cut [] (fun wx => AfterOut WX wx b f ⟨f.kind, f.num, []⟩ vt vo vs)
      case first =>
        go_region_law
          ((refine step_append_lies _ (by rfl) _ _ _ (by rfl) 0 72 i0 _ 3 32 Tryd.underlying32 hi0 hz0 hz1 hz2 rfl (by omega) vo f.out.length (f.out.flatMap cAtom) (by rfl) ((HX.out.out.alloc _).drew)
                ⟨WX.heap.size, 0, none⟩ 1 1 (cAtom ⟨f.kind, f.num, []⟩) (by rfl) (by rfl) (World.news_of_block (cs := #[.int .i64 f.kind, .int .u64 f.num, S []]) (t := 72) (fr := (0, 0)) (heap_alloc_new WX _)) (by simp [cAtom, Value.oneCell'])
                (by omega) (by unfold maxLen; omega) (by omega) (by simp) (WX.heap.size + 1) (by simp) ?_; intro gg cap w1 hown1 hgrow hat hlt; have k5 := grown_cell hgrow c5 HX.out.ob.ne; have e5 := grown_free hgrow c5 f5 HX.out.ob.ne))
        all_goals (go_wp2_with fail; go_meet; exact HX.out.afterOut hown1 (grown_alloc hgrow) (hat.imp id (fun e => by omega)))
      case rest =>
        obtain ⟨vo', hy, hyf, hyn⟩ := hcut
        have HY := Px.hid (And.intro hy (And.intro hyf hyn))
        clear hy hyf hyn c5 f5 hx
        have hb : b < wc.heap.size := HY.out.1.lt
        have c6 : wc.cell? ⟨b, 6, none⟩ = some vs := cellOf HY.out.1.blk 6 rfl
        have f6 := HY.out.1.free 6
        have c8 : wc.cell? ⟨b, 8, none⟩ = some (.int .i64 f.kind) := cellOf HY.out.1.blk 8 rfl
        have c9 : wc.cell? ⟨b, 9, none⟩ = some (.int .i64 f.hat) := cellOf HY.out.1.blk 9 rfl
        have c10 : wc.cell? ⟨b, 10, none⟩ = some (.int .u8 f.info) := cellOf HY.out.1.blk 10 rfl
        have c11 : wc.cell? ⟨b, 11, none⟩ = some (.int .u64 f.num) := cellOf HY.out.1.blk 11 rfl
        have c12 : wc.cell? ⟨b, 12, none⟩ = some (.int .u64 f.more) := cellOf HY.out.1.blk 12 rfl
        obtain ⟨j0, hj0, hy0, hy1, hy2⟩ := info_parts Tryd.infoFm
        have hsl : f.stack.reverse.length = f.stack.length := List.length_reverse
        have HS := Px.hid (show wc.ownsRow 0 106 8 vs f.stack.length (f.stack.reverse.flatMap cFrame) by have := HY.out.1.stack; unfold Owns at this; rw [show ({ f with out := f.out ++ [⟨f.kind, f.num, []⟩] } : Feed).stack.reverse.length = f.stack.length from hsl] at this; exact this)
        clear hsl
        go_upto_region 19 with fail
        go_cut [] (fun wx => AfterPush wc wx b { f with out := f.out ++ [⟨f.kind, f.num, []⟩] } ⟨f.kind, f.hat, f.info, f.num, f.more, N, [], false⟩ vt vo' vs)
        case first =>
          go_region_law
            ((refine step_append_lies _ (by rfl) _ _ _ (by rfl) 0 106 j0 _ 8 72 Tryd.underlying43 hj0 hy0 hy1 hy2 rfl (by omega) vs f.stack.length (f.stack.reverse.flatMap cFrame) (by rfl) ((HS.out.alloc _).drew)
                  ⟨wc.heap.size, 0, none⟩ 1 1 (cFrame ⟨f.kind, f.hat, f.info, f.num, f.more, N, [], false⟩) (by rfl) (by rfl) (World.news_of_block (cs := #[.int .i64 f.kind, .int .i64 f.hat, .int .u8 f.info, .int .u64 f.num, .int .u64 f.more, .int .u64 N, S [], .bool false]) (t := 106) (fr := (0, 0)) (heap_alloc_new wc _)) (by simp [cFrame, Value.oneCell'])
                  (by omega) (by unfold maxLen; omega) (by omega) (by simp) (wc.heap.size + 1) (by simp) ?_; intro gg cap w1 hown1 hgrow hat hlt; have k6 := grown_cell hgrow c6 HY.out.1.sb.ne; have e6 := grown_free hgrow c6 f6 HY.out.1.sb.ne))
          all_goals (go_wp2_with fail; go_meet; exact HY.out.1.afterPush hown1 (grown_alloc hgrow) (hat.imp id (fun e => by omega)))
        case rest =>
          obtain ⟨vs', hz, hzf, hzn⟩ := hcut
          have HZ := Px.hid (And.intro hz (And.intro hzf hzn))
          clear hz hzf hzn c6 f6 c8 c9 c10 c11 c12
          go_wp2_with fail
          refine (settle_any b _ _ _ ⟨_, _, _, HZ.out.1, rfl⟩ (HG.out N HN.out)).mono ?_
          rintro e w' ⟨rfl, hF, hfr⟩
          go_wp2
          go_end0
          rw [HR.out]
          exact ⟨rfl, _, hF, HXF.out.step (Fresh.refl _ _) (HY.out.2.1.step HY.out.2.2 (HZ.out.2.1.step HZ.out.2.2 hfr)),
            Fresh.trans (Fresh.refl _ _) HXF.out.size (Fresh.trans HY.out.2.2 HY.out.2.1.size HZ.out.2.2)⟩
  by_cases k6 : f.kind = 6
  · have hk := k6
    clear k6
    have k2' : (f.kind == 2) = false := by rw [hk]; rfl
    have k3' : (f.kind == 3) = false := by rw [hk]; rfl
    have k4' : (f.kind == 4) = false := by rw [hk]; rfl
    have k5' : (f.kind == 5) = false := by rw [hk]; rfl
    have k6' : (f.kind == 6) = true := by rw [hk]; rfl
    have HR := Px.hid (show Cf.known f = Cf.opens f (1) by simp [Cf.known, hk])
    have HN := Px.hid (show 1 < 18446744073709551616 by omega)
    clear hk
    have s6 : w.cell? ⟨b, 6, none⟩ = some vs := cellOf H.out.1.blk 6 rfl
    have s0 : w.cell? ⟨b, 0, none⟩ = some (.int .i64 f.lim.d) := cellOf H.out.1.blk 0 rfl
    obtain ⟨sa, sc, hsv⟩ := H.out.1.stackLen
    rw [hsv] at s6
    have HSV := Px.hid hsv
    clear hsv
    go_enter Tryd.func43, Tryd.ntmps43
    go_wp2_with fail
    go_quiet (fail)
    clear s6 s0
    have HX := Px.hid ((H.out.1.alloc (.cells #[.int .i64 f.kind, .int .u64 f.num, .string ⟨#[]⟩] 72)).drewN nq)
    have HXF := Px.hid (Fr.drewN ((Fr.refl (foot b vt vo vs) w).alloc (.cells #[.int .i64 f.kind, .int .u64 f.num, .string ⟨#[]⟩] 72)) nq)
    have hx : ((w.alloc (.cells #[.int .i64 f.kind, .int .u64 f.num, .string ⟨#[]⟩] 72)).drewN nq).heap[w.heap.size]? = some (.cells #[.int .i64 f.kind, .int .u64 f.num, .string ⟨#[]⟩] 72 (0, 0)) := heap_alloc_new w _
    have hlt : w.heap.size < ((w.alloc (.cells #[.int .i64 f.kind, .int .u64 f.num, .string ⟨#[]⟩] 72)).drewN nq).heap.size := (by simp)
    obtain ⟨WX, hWX⟩ : ∃ WX, WX = (w.alloc (.cells #[.int .i64 f.kind, .int .u64 f.num, .string ⟨#[]⟩] 72)).drewN nq := ⟨_, rfl⟩
    have eW : (w.alloc (.cells #[.int .i64 f.kind, .int .u64 f.num, .string ⟨#[]⟩] 72)).drewN nq = WX := hWX.symm
    rw [eW] at HX HXF hx hlt ⊢
    clear hWX eW c8 c11 hb
    have hb : b < WX.heap.size := HX.out.lt
    have x0 : WX.cell? ⟨w.heap.size, 0, none⟩ = some (.int .i64 f.kind) := cellOf hx 0 rfl
    have x1 : WX.cell? ⟨w.heap.size, 1, none⟩ = some (.int .u64 f.num) := cellOf hx 1 rfl
    have x2 : WX.cell? ⟨w.heap.size, 2, none⟩ = some (.string ⟨#[]⟩) := cellOf hx 2 rfl
    have c9 : WX.cell? ⟨b, 9, none⟩ = some (.int .i64 f.hat) := cellOf HX.out.blk 9 rfl
    rcases Bool.eq_false_or_eq_true ((f.stack.length : Int) == f.lim.d) with hd | hd
    · have HR := Px.hid (show Cf.known f = Cf.wrong f f.hat 10 by rw [HR.out]; simp only [Cf.opens, hd, if_true])
      have HD := Px.hid hd
      go_wp2_with fail
      refine (wrong_any b f.hat 10 f _ _ ⟨_, _, _, HX.out, rfl⟩).mono ?_
      rintro e w' ⟨rfl, hF, hfr⟩
      go_wp2
      refine bodyPost_ret (results_none rfl _ _ _) rfl ?_
      rw [HR.out]
      exact ⟨rfl, _, hF, HXF.out.step (Fresh.refl _ _) hfr, Fresh.refl _ _⟩
    · have HR := Px.hid (show Cf.known f = Cf.settle { f with out := f.out ++ [⟨f.kind, f.num, []⟩], stack := ⟨f.kind, f.hat, f.info, f.num, f.more, 1, [], false⟩ :: f.stack } by rw [HR.out]; simp only [Cf.opens, hd]; rfl)
      have c5 : WX.cell? ⟨b, 5, none⟩ = some vo := cellOf HX.out.blk 5 rfl
      have f5 := HX.out.free 5
      obtain ⟨i0, hi0, hz0, hz1, hz2⟩ := info_parts Tryd.infoAtom
      go_upto_region 18 with fail
      go_cut [] (fun wx => AfterOut WX wx b f ⟨f.kind, f.num, []⟩ vt vo vs)
      case first =>
        go_region_law
          ((refine step_append_lies _ (by rfl) _ _ _ (by rfl) 0 72 i0 _ 3 32 Tryd.underlying32 hi0 hz0 hz1 hz2 rfl (by omega) vo f.out.length (f.out.flatMap cAtom) (by rfl) ((HX.out.out.alloc _).drew)
                ⟨WX.heap.size, 0, none⟩ 1 1 (cAtom ⟨f.kind, f.num, []⟩) (by rfl) (by rfl) (World.news_of_block (cs := #[.int .i64 f.kind, .int .u64 f.num, S []]) (t := 72) (fr := (0, 0)) (heap_alloc_new WX _)) (by simp [cAtom, Value.oneCell'])
                (by omega) (by unfold maxLen; omega) (by omega) (by simp) (WX.heap.size + 1) (by simp) ?_; intro gg cap w1 hown1 hgrow hat hlt; have k5 := grown_cell hgrow c5 HX.out.ob.ne; have e5 := grown_free hgrow c5 f5 HX.out.ob.ne))
        all_goals (go_wp2_with fail; go_meet; exact HX.out.afterOut hown1 (grown_alloc hgrow) (hat.imp id (fun e => by omega)))
      case rest =>
        obtain ⟨vo', hy, hyf, hyn⟩ := hcut
        have HY := Px.hid (And.intro hy (And.intro hyf hyn))
        clear hy hyf hyn c5 f5 hx
        have hb : b < wc.heap.size := HY.out.1.lt
        have c6 : wc.cell? ⟨b, 6, none⟩ = some vs := cellOf HY.out.1.blk 6 rfl
        have f6 := HY.out.1.free 6
        have c8 : wc.cell? ⟨b, 8, none⟩ = some (.int .i64 f.kind) := cellOf HY.out.1.blk 8 rfl
        have c9 : wc.cell? ⟨b, 9, none⟩ = some (.int .i64 f.hat) := cellOf HY.out.1.blk 9 rfl
        have c10 : wc.cell? ⟨b, 10, none⟩ = some (.int .u8 f.info) := cellOf HY.out.1.blk 10 rfl
        have c11 : wc.cell? ⟨b, 11, none⟩ = some (.int .u64 f.num) := cellOf HY.out.1.blk 11 rfl
        have c12 : wc.cell? ⟨b, 12, none⟩ = some (.int .u64 f.more) := cellOf HY.out.1.blk 12 rfl
        obtain ⟨j0, hj0, hy0, hy1, hy2⟩ := info_parts Tryd.infoFm
        have hsl : f.stack.reverse.length = f.stack.length := List.length_reverse
        have HS := Px.hid (show wc.ownsRow 0 106 8 vs f.stack.length (f.stack.reverse.flatMap cFrame) by have := HY.out.1.stack; unfold Owns at this; rw [show ({ f with out := f.out ++ [⟨f.kind, f.num, []⟩] } : Feed).stack.reverse.length = f.stack.length from hsl] at this; exact this)
        clear hsl
        go_upto_region 19 with fail
        go_cut [] (fun wx => AfterPush wc wx b { f with out := f.out ++ [⟨f.kind, f.num, []⟩] } ⟨f.kind, f.hat, f.info, f.num, f.more, 1, [], false⟩ vt vo' vs)
        case first =>
          go_region_law
            ((refine step_append_lies _ (by rfl) _ _ _ (by rfl) 0 106 j0 _ 8 72 Tryd.underlying43 hj0 hy0 hy1 hy2 rfl (by omega) vs f.stack.length (f.stack.reverse.flatMap cFrame) (by rfl) ((HS.out.alloc _).drew)
                  ⟨wc.heap.size, 0, none⟩ 1 1 (cFrame ⟨f.kind, f.hat, f.info, f.num, f.more, 1, [], false⟩) (by rfl) (by rfl) (World.news_of_block (cs := #[.int .i64 f.kind, .int .i64 f.hat, .int .u8 f.info, .int .u64 f.num, .int .u64 f.more, .int .u64 1, S [], .bool false]) (t := 106) (fr := (0, 0)) (heap_alloc_new wc _)) (by simp [cFrame, Value.oneCell'])
                  (by omega) (by unfold maxLen; omega) (by omega) (by simp) (wc.heap.size + 1) (by simp) ?_; intro gg cap w1 hown1 hgrow hat hlt; have k6 := grown_cell hgrow c6 HY.out.1.sb.ne; have e6 := grown_free hgrow c6 f6 HY.out.1.sb.ne))
          all_goals (go_wp2_with fail; go_meet; exact HY.out.1.afterPush hown1 (grown_alloc hgrow) (hat.imp id (fun e => by omega)))
        case rest =>
          obtain ⟨vs', hz, hzf, hzn⟩ := hcut
          have HZ := Px.hid (And.intro hz (And.intro hzf hzn))
          clear hz hzf hzn c6 f6 c8 c9 c10 c11 c12
          go_wp2_with fail
          refine (settle_any b _ _ _ ⟨_, _, _, HZ.out.1, rfl⟩ (HG.out 1 HN.out)).mono ?_
          rintro e w' ⟨rfl, hF, hfr⟩
          go_wp2
          go_end0
          rw [HR.out]
          exact ⟨rfl, _, hF, HXF.out.step (Fresh.refl _ _) (HY.out.2.1.step HY.out.2.2 (HZ.out.2.1.step HZ.out.2.2 hfr)),
            Fresh.trans (Fresh.refl _ _) HXF.out.size (Fresh.trans HY.out.2.2 HY.out.2.1.size HZ.out.2.2)⟩
  have k2' : (f.kind == 2) = false := by simpa using k2
  have k3' : (f.kind == 3) = false := by simpa using k3
  have k4' : (f.kind == 4) = false := by simpa using k4
  have k5' : (f.kind == 5) = false := by simpa using k5
  have k6' : (f.kind == 6) = false := by simpa using k6
  have HR := Px.hid (show Cf.known f = Cf.ended { f with out := f.out ++ [⟨f.kind, f.num, []⟩] } f.hat by simp [Cf.known, k2, k3, k4, k5, k6])
  clear k2 k3 k4 k5 k6
  go_enter Tryd.func43, Tryd.ntmps43
  go_wp2_with fail
  have HX := Px.hid (H.out.1.alloc (.cells #[.int .i64 f.kind, .int .u64 f.num, .string ⟨#[]⟩] 72))
  have HXF := Px.hid ((Fr.refl (foot b vt vo vs) w).alloc (.cells #[.int .i64 f.kind, .int .u64 f.num, .string ⟨#[]⟩] 72))
  have hx : (w.alloc (.cells #[.int .i64 f.kind, .int .u64 f.num, .string ⟨#[]⟩] 72)).heap[w.heap.size]? = some (.cells #[.int .i64 f.kind, .int .u64 f.num, .string ⟨#[]⟩] 72 (0, 0)) := heap_alloc_new w _
  have hlt : w.heap.size < (w.alloc (.cells #[.int .i64 f.kind, .int .u64 f.num, .string ⟨#[]⟩] 72)).heap.size := (by simp)
  obtain ⟨WX, hWX⟩ : ∃ WX, WX = w.alloc (.cells #[.int .i64 f.kind, .int .u64 f.num, .string ⟨#[]⟩] 72) := ⟨_, rfl⟩
  have eW : w.alloc (.cells #[.int .i64 f.kind, .int .u64 f.num, .string ⟨#[]⟩] 72) = WX := hWX.symm
  rw [eW] at HX HXF hx hlt ⊢
  clear hWX eW c8 c11 hb
  have hb : b < WX.heap.size := HX.out.lt
  have x0 : WX.cell? ⟨w.heap.size, 0, none⟩ = some (.int .i64 f.kind) := cellOf hx 0 rfl
  have x1 : WX.cell? ⟨w.heap.size, 1, none⟩ = some (.int .u64 f.num) := cellOf hx 1 rfl
  have x2 : WX.cell? ⟨w.heap.size, 2, none⟩ = some (.string ⟨#[]⟩) := cellOf hx 2 rfl
  have c5 : WX.cell? ⟨b, 5, none⟩ = some vo := cellOf HX.out.blk 5 rfl
  have f5 := HX.out.free 5
  obtain ⟨i0, hi0, hz0, hz1, hz2⟩ := info_parts Tryd.infoAtom
  go_upto_region 3 with fail
  go_cut [] (fun wx => AfterOut WX wx b f ⟨f.kind, f.num, []⟩ vt vo vs)
  case first =>
    go_region_law
      ((refine step_append_lies _ (by rfl) _ _ _ (by rfl) 0 72 i0 _ 3 32 Tryd.underlying32 hi0 hz0 hz1 hz2 rfl (by omega) vo f.out.length (f.out.flatMap cAtom) (by rfl) ((HX.out.out.alloc _).drew)
            ⟨WX.heap.size, 0, none⟩ 1 1 (cAtom ⟨f.kind, f.num, []⟩) (by rfl) (by rfl) (World.news_of_block (cs := #[.int .i64 f.kind, .int .u64 f.num, S []]) (t := 72) (fr := (0, 0)) (heap_alloc_new WX _)) (by simp [cAtom, Value.oneCell'])
            (by omega) (by unfold maxLen; omega) (by omega) (by simp) (WX.heap.size + 1) (by simp) ?_; intro gg cap w1 hown1 hgrow hat hlt; have k5 := grown_cell hgrow c5 HX.out.ob.ne; have e5 := grown_free hgrow c5 f5 HX.out.ob.ne))
    all_goals (go_wp2_with fail; go_meet; exact HX.out.afterOut hown1 (grown_alloc hgrow) (hat.imp id (fun e => by omega)))
  case rest =>
    obtain ⟨vo', hy, hyf, hyn⟩ := hcut
    have HY := Px.hid (And.intro hy (And.intro hyf hyn))
    clear hy hyf hyn c5 f5 hx
    have c9 : wc.cell? ⟨b, 9, none⟩ = some (.int .i64 f.hat) := cellOf HY.out.1.blk 9 rfl
    go_wp2_with fail
    refine (ended_any b f.hat _ _ _ ⟨_, _, _, HY.out.1, rfl⟩ (H.out.2.1.out _) H.out.2.2.1 (fun _ => H.out.2.2.2.1)).mono ?_
    rintro e w' ⟨rfl, hF, hfr⟩
    go_wp2
    refine bodyPost_ret (results_none rfl _ _ _) rfl ?_
    rw [HR.out]
    exact ⟨rfl, _, hF, HXF.out.step (Fresh.refl _ _) (HY.out.2.1.step HY.out.2.2 hfr), Fresh.trans (Fresh.refl _ _) HXF.out.size HY.out.2.2⟩
end Go.Proofs.YtclbbfmpkhfigaaDoor

/-! The walks over cborfeed's argument and head. -/
namespace Go.Proofs.YtclbbfmpkhfigaaDoor
open Go.RowKit Go.Px Go.Px.Cf

set_option maxRecDepth 100000 in
set_option maxHeartbeats 2000000 in
theorem argument_any (b : Nat) (f : Feed) (c : UInt8) (F : Nat → Prop) (w : World) (h : FeedAt w b f F) (hg : FOk f) (hl : ∀ x ∈ f.stack, 0 < x.left) (hp : f.hat < f.text.length)
    (hn : f.num * 256 + c.toNat < 18446744073709551616) (hi : 24 ≤ f.info) (hi2 : f.info ≤ 27) (hm : 1 ≤ f.more) (hm2 : f.more ≤ 8) (hF2 : ∀ k, F k → 2 ≤ k) (ho : f.out.length ≤ 1000000) (hsk : f.stack.length ≤ 900) (hT : Tabs w) :
    Calls Tryd.prog 32 #[.pointer (some ⟨b, 0, none⟩), .int .u8 c.toNat] w fun r w' => r = .returned (.tuple #[]) ∧ ∃ F', FeedAt w' b (Cf.argument f c.toNat) F' ∧ Fr F w w' ∧ Fresh w F F' := by
  obtain ⟨vt, vo, vs, h, rfl⟩ := h
  have hc := c.toNat_lt
  have c11 : w.cell? ⟨b, 11, none⟩ = some (.int .u64 f.num) := cellOf h.blk 11 rfl
  have c12 : w.cell? ⟨b, 12, none⟩ = some (.int .u64 f.more) := cellOf h.blk 12 rfl
  have c10 : w.cell? ⟨b, 10, none⟩ = some (.int .u8 f.info) := cellOf h.blk 10 rfl
  have c9 : w.cell? ⟨b, 9, none⟩ = some (.int .i64 f.hat) := cellOf h.blk 9 rfl
  have f11 := h.free 11
  have f12 := h.free 12
  have hb := or_byte f.num c.toNat hc hn
  obtain ⟨N, hN⟩ : ∃ N, f.num * 256 + c.toNat = N := ⟨_, rfl⟩
  rw [hN] at hb
  have HY := Px.hid ((h.set 11 (.int .u64 N) { f with num := N } rfl rfl rfl rfl).set 12 (.int .u64 (f.more - 1 : Nat)) { f with num := N, more := f.more - 1 } rfl rfl rfl rfl)
  have HYF := Px.hid (((Fr.refl (foot b vt vo vs) w).setCell (p := ⟨b, 11, none⟩) (.inl (.inl rfl)) (.int .u64 N)).setCell (p := ⟨b, 12, none⟩) (.inl (.inl rfl)) (.int .u64 (f.more - 1 : Nat)))
  have en : ((f.more - 1 : Nat) : Int) = (f.more : Int) - 1 := by omega
  have hr : Cf.argument f c.toNat = if 0 < f.more - 1 then { f with num := N, more := f.more - 1 } else if N < Cf.least f.info then Cf.wrong { f with num := N, more := f.more - 1 } f.hat 9 else Cf.known { f with num := N, more := f.more - 1 } := by
    unfold Cf.argument; rw [hN]
  have HB : 2 ≤ w.heap.size := by have := hF2 b (.inl rfl); have := h.lt; omega
  have H := Px.hid (And.intro h (And.intro hg (And.intro hl (And.intro hp hT))))
  have HN := Px.hid (show N < 18446744073709551616 by rw [← hN]; exact hn)
  have hn0 : (f.num : Int) < 72057594037927936 := by omega
  clear h hg hl hT hN hn hp
  by_cases hz : f.more = 1
  · have hr2 : ¬ 0 < f.more - 1 := by omega
    rw [if_neg hr2] at hr
    have e0 : f.more - 1 = 0 := by omega
    rw [e0] at HY HYF hr
    rw [hz] at c12
    clear hr2 en e0 hz
    have hi4 : f.info = 24 ∨ f.info = 25 ∨ f.info = 26 ∨ f.info = 27 := by omega
    rcases hi4 with hi4 | hi4 | hi4 | hi4
    · rw [hi4] at c10
      have el : Cf.least f.info = 24 := by rw [hi4]; decide
      rw [el] at hr
      clear el hi4 hi hi2
      by_cases hlt : N < 24
      · rw [if_pos hlt] at hr
        have hlt' : (N : Int) < 24 := by omega
        have HR := Px.hid hr
        clear hr hlt
        go_enter Tryd.func32, Tryd.ntmps32
        go_wp2_with fail
        refine (wrong_any b f.hat 9 _ _ _ ⟨_, _, _, HY.out, rfl⟩).mono ?_
        rintro e w' ⟨rfl, hF, hfr⟩
        go_wp2
        refine bodyPost_ret (results_none rfl _ _ _) rfl ?_
        rw [HR.out]
        exact ⟨rfl, _, hF, HYF.out.step (Fresh.refl _ _) hfr, Fresh.refl _ _⟩
      · rw [if_neg hlt] at hr
        have hlt' : ¬ (N : Int) < 24 := by omega
        have HR := Px.hid hr
        clear hr hlt
        go_enter Tryd.func32, Tryd.ntmps32
        go_wp2_with fail
        refine (known_any b _ _ _ ⟨_, _, _, HY.out, rfl⟩ ⟨H.out.2.1.each, H.out.2.1.tail, H.out.2.1.text, H.out.2.1.stack⟩ H.out.2.2.1 H.out.2.2.2.1 HN.out hF2 ho hsk (H.out.2.2.2.2.fr HYF.out hF2 HB)).mono ?_
        rintro e w' ⟨rfl, F', hF, hfr, hnn⟩
        have HE := Px.hid (And.intro hF (And.intro hfr hnn))
        clear hF hfr hnn
        go_wp2
        go_end0
        rw [HR.out]
        exact ⟨rfl, _, HE.out.1, HYF.out.step (Fresh.refl _ _) HE.out.2.1, Fresh.trans (Fresh.refl _ _) HYF.out.size HE.out.2.2⟩
    · rw [hi4] at c10
      have el : Cf.least f.info = 256 := by rw [hi4]; decide
      rw [el] at hr
      clear el hi4 hi hi2
      by_cases hlt : N < 256
      · rw [if_pos hlt] at hr
        have hlt' : (N : Int) < 256 := by omega
        have HR := Px.hid hr
        clear hr hlt
        go_enter Tryd.func32, Tryd.ntmps32
        go_wp2_with fail
        refine (wrong_any b f.hat 9 _ _ _ ⟨_, _, _, HY.out, rfl⟩).mono ?_
        rintro e w' ⟨rfl, hF, hfr⟩
        go_wp2
        refine bodyPost_ret (results_none rfl _ _ _) rfl ?_
        rw [HR.out]
        exact ⟨rfl, _, hF, HYF.out.step (Fresh.refl _ _) hfr, Fresh.refl _ _⟩
      · rw [if_neg hlt] at hr
        have hlt' : ¬ (N : Int) < 256 := by omega
        have HR := Px.hid hr
        clear hr hlt
        go_enter Tryd.func32, Tryd.ntmps32
        go_wp2_with fail
        refine (known_any b _ _ _ ⟨_, _, _, HY.out, rfl⟩ ⟨H.out.2.1.each, H.out.2.1.tail, H.out.2.1.text, H.out.2.1.stack⟩ H.out.2.2.1 H.out.2.2.2.1 HN.out hF2 ho hsk (H.out.2.2.2.2.fr HYF.out hF2 HB)).mono ?_
        rintro e w' ⟨rfl, F', hF, hfr, hnn⟩
        have HE := Px.hid (And.intro hF (And.intro hfr hnn))
        clear hF hfr hnn
        go_wp2
        go_end0
        rw [HR.out]
        exact ⟨rfl, _, HE.out.1, HYF.out.step (Fresh.refl _ _) HE.out.2.1, Fresh.trans (Fresh.refl _ _) HYF.out.size HE.out.2.2⟩
    · rw [hi4] at c10
      have el : Cf.least f.info = 65536 := by rw [hi4]; decide
      rw [el] at hr
      clear el hi4 hi hi2
      by_cases hlt : N < 65536
      · rw [if_pos hlt] at hr
        have hlt' : (N : Int) < 65536 := by omega
        have HR := Px.hid hr
        clear hr hlt
        go_enter Tryd.func32, Tryd.ntmps32
        go_wp2_with fail
        refine (wrong_any b f.hat 9 _ _ _ ⟨_, _, _, HY.out, rfl⟩).mono ?_
        rintro e w' ⟨rfl, hF, hfr⟩
        go_wp2
        refine bodyPost_ret (results_none rfl _ _ _) rfl ?_
        rw [HR.out]
        exact ⟨rfl, _, hF, HYF.out.step (Fresh.refl _ _) hfr, Fresh.refl _ _⟩
      · rw [if_neg hlt] at hr
        have hlt' : ¬ (N : Int) < 65536 := by omega
        have HR := Px.hid hr
        clear hr hlt
        go_enter Tryd.func32, Tryd.ntmps32
        go_wp2_with fail
        refine (known_any b _ _ _ ⟨_, _, _, HY.out, rfl⟩ ⟨H.out.2.1.each, H.out.2.1.tail, H.out.2.1.text, H.out.2.1.stack⟩ H.out.2.2.1 H.out.2.2.2.1 HN.out hF2 ho hsk (H.out.2.2.2.2.fr HYF.out hF2 HB)).mono ?_
        rintro e w' ⟨rfl, F', hF, hfr, hnn⟩
        have HE := Px.hid (And.intro hF (And.intro hfr hnn))
        clear hF hfr hnn
        go_wp2
        go_end0
        rw [HR.out]
        exact ⟨rfl, _, HE.out.1, HYF.out.step (Fresh.refl _ _) HE.out.2.1, Fresh.trans (Fresh.refl _ _) HYF.out.size HE.out.2.2⟩
    · rw [hi4] at c10
      have el : Cf.least f.info = 4294967296 := by rw [hi4]; decide
      rw [el] at hr
      clear el hi4 hi hi2
      by_cases hlt : N < 4294967296
      · rw [if_pos hlt] at hr
        have hlt' : (N : Int) < 4294967296 := by omega
        have HR := Px.hid hr
        clear hr hlt
        go_enter Tryd.func32, Tryd.ntmps32
        go_wp2_with fail
        refine (wrong_any b f.hat 9 _ _ _ ⟨_, _, _, HY.out, rfl⟩).mono ?_
        rintro e w' ⟨rfl, hF, hfr⟩
        go_wp2
        refine bodyPost_ret (results_none rfl _ _ _) rfl ?_
        rw [HR.out]
        exact ⟨rfl, _, hF, HYF.out.step (Fresh.refl _ _) hfr, Fresh.refl _ _⟩
      · rw [if_neg hlt] at hr
        have hlt' : ¬ (N : Int) < 4294967296 := by omega
        have HR := Px.hid hr
        clear hr hlt
        go_enter Tryd.func32, Tryd.ntmps32
        go_wp2_with fail
        refine (known_any b _ _ _ ⟨_, _, _, HY.out, rfl⟩ ⟨H.out.2.1.each, H.out.2.1.tail, H.out.2.1.text, H.out.2.1.stack⟩ H.out.2.2.1 H.out.2.2.2.1 HN.out hF2 ho hsk (H.out.2.2.2.2.fr HYF.out hF2 HB)).mono ?_
        rintro e w' ⟨rfl, F', hF, hfr, hnn⟩
        have HE := Px.hid (And.intro hF (And.intro hfr hnn))
        clear hF hfr hnn
        go_wp2
        go_end0
        rw [HR.out]
        exact ⟨rfl, _, HE.out.1, HYF.out.step (Fresh.refl _ _) HE.out.2.1, Fresh.trans (Fresh.refl _ _) HYF.out.size HE.out.2.2⟩
  · have hr2 : 0 < f.more - 1 := by omega
    rw [if_pos hr2] at hr
    rw [en] at HY HYF
    have hz' : (0 : Int) < (f.more : Int) - 1 := by omega
    have HR := Px.hid hr
    have hw : IntKind.u64.wrap ((f.num : Int) * 256) = (f.num : Int) * 256 := IntWalk.u64_in _ ⟨by omega, by omega⟩
    clear hz hr hr2 en hn0
    go_enter Tryd.func32, Tryd.ntmps32
    go_wp2
    refine bodyPost_ret (results_none rfl _ _ _) rfl ?_
    rw [HR.out]
    exact ⟨rfl, _, ⟨_, _, _, HY.out, rfl⟩, HYF.out, Fresh.refl _ _⟩
end Go.Proofs.YtclbbfmpkhfigaaDoor

/-! The walk over cborfeed's head. -/
namespace Go.Proofs.YtclbbfmpkhfigaaDoor
open Go.RowKit Go.Px Go.Px.Cf

set_option maxRecDepth 100000 in
set_option maxHeartbeats 2000000 in
theorem head_any (b : Nat) (f : Feed) (c : UInt8) (F : Nat → Prop) (w : World) (h : FeedAt w b f F) (hg : FOk f) (hl : ∀ x ∈ f.stack, 0 < x.left) (hp : 0 < f.text.length)
    (hF2 : ∀ k, F k → 2 ≤ k) (ho : f.out.length ≤ 1000000) (hsk : f.stack.length ≤ 900) (hT : Tabs w) :
    Calls Tryd.prog 31 #[.pointer (some ⟨b, 0, none⟩), .int .u8 c.toNat] w fun r w' => r = .returned (.tuple #[]) ∧ ∃ F', FeedAt w' b (Cf.head f c.toNat) F' ∧ Fr F w w' ∧ Fresh w F F' := by
  obtain ⟨vt, vo, vs, h, rfl⟩ := h
  have hc := c.toNat_lt
  obtain ⟨at', capt, hvt, _⟩ := h.text.len
  have ht := hg.text
  have c4 : w.cell? ⟨b, 4, none⟩ = some (.slice at' f.text.length capt) := by rw [← hvt]; exact cellOf h.blk 4 rfl
  have f8 := h.free 8
  have f9 := h.free 9
  have f10 := h.free 10
  have f11 := h.free 11
  have f12 := h.free 12
  have c8 : w.cell? ⟨b, 8, none⟩ = some (.int .i64 f.kind) := cellOf h.blk 8 rfl
  have c9 : w.cell? ⟨b, 9, none⟩ = some (.int .i64 f.hat) := cellOf h.blk 9 rfl
  have c10 : w.cell? ⟨b, 10, none⟩ = some (.int .u8 f.info) := cellOf h.blk 10 rfl
  have c11 : w.cell? ⟨b, 11, none⟩ = some (.int .u64 f.num) := cellOf h.blk 11 rfl
  have c12 : w.cell? ⟨b, 12, none⟩ = some (.int .u64 f.more) := cellOf h.blk 12 rfl
  have H := Px.hid (And.intro h (And.intro hg (And.intro hl (And.intro hp hT))))
  clear h hg hl hT hvt
  have eK : ((c.toNat : Int) / 32) = ((c.toNat / 32 : Nat) : Int) := by omega
  have eA : ((c.toNat : Int) % 32) = ((c.toNat % 32 : Nat) : Int) := by omega
  have eP : ((f.text.length : Int) - 1) = ((f.text.length - 1 : Nat) : Int) := by omega
  have hK8 : c.toNat / 32 < 8 := by omega
  have hA32 : c.toNat % 32 < 32 := by omega
  have HR := Px.hid (show Cf.head f c.toNat = Cf.headOn { f with kind := (c.toNat / 32 : Nat), hat := f.text.length - 1, info := c.toNat % 32, num := 0, more := 0 } (f.text.length - 1) (c.toNat / 32) (c.toNat % 32) from rfl)
  have EK := Px.hid (And.intro eK (And.intro eA eP))
  clear eK eA eP
  go_enter Tryd.func31, Tryd.ntmps31
  go_wp2_with fail
  rw [EK.out.1, EK.out.2.1, EK.out.2.2]
  obtain ⟨K, hK⟩ : ∃ K, c.toNat / 32 = K := ⟨_, rfl⟩
  obtain ⟨A, hA⟩ : ∃ A, c.toNat % 32 = A := ⟨_, rfl⟩
  obtain ⟨p, hpp⟩ : ∃ p, f.text.length - 1 = p := ⟨_, rfl⟩
  rw [hK, hA, hpp] at HR ⊢
  rw [hK] at hK8
  rw [hA] at hA32
  have hpl : p < f.text.length := by omega
  clear EK hK hA hpp c8 c9 c10 c11 c12 c4 f8 f9 f10 f11 f12
  have HY := Px.hid (((((H.out.1.set 8 (.int .i64 K) { f with kind := K } rfl rfl rfl rfl).set 9 (.int .i64 p) { f with kind := K, hat := p } rfl rfl rfl rfl).set 10 (.int .u8 A) { f with kind := K, hat := p, info := A } rfl rfl rfl rfl).set 11 (.int .u64 0)
    { f with kind := K, hat := p, info := A, num := 0 } rfl rfl rfl rfl).set 12 (.int .u64 0) { f with kind := K, hat := p, info := A, num := 0, more := 0 } rfl rfl rfl rfl)
  have HYF := Px.hid ((((((Fr.refl (foot b vt vo vs) w).setCell (p := ⟨b, 8, none⟩) (.inl (.inl rfl)) (.int .i64 K)).setCell (p := ⟨b, 9, none⟩) (.inl (.inl rfl)) (.int .i64 p)).setCell (p := ⟨b, 10, none⟩) (.inl (.inl rfl)) (.int .u8 A)).setCell
    (p := ⟨b, 11, none⟩) (.inl (.inl rfl)) (.int .u64 0)).setCell (p := ⟨b, 12, none⟩) (.inl (.inl rfl)) (.int .u64 0))
  have HB : 2 ≤ w.heap.size := by have := hF2 b (.inl rfl); have := H.out.1.lt; omega
  have HT := Px.hid (H.out.2.2.2.2.fr HYF.out hF2 HB)
  obtain ⟨WX, hWX⟩ : ∃ WX, WX = ((((w.setCell ⟨b, 8, none⟩ (.int .i64 K)).setCell ⟨b, 9, none⟩ (.int .i64 p)).setCell ⟨b, 10, none⟩ (.int .u8 A)).setCell ⟨b, 11, none⟩ (.int .u64 0)).setCell ⟨b, 12, none⟩ (.int .u64 0) := ⟨_, rfl⟩
  rw [← hWX] at HY HYF HT ⊢
  clear hWX
  have HG := Px.hid (show FOk { f with kind := K, hat := p, info := A, num := 0, more := 0 } from ⟨H.out.2.1.each, H.out.2.1.tail, H.out.2.1.text, H.out.2.1.stack⟩)
  obtain ⟨g, hg⟩ : ∃ g : Feed, g = { f with kind := K, hat := p, info := A, num := 0, more := 0 } := ⟨_, rfl⟩
  have e1 : g.out = f.out := by rw [hg]
  have e2 : g.lim = f.lim := by rw [hg]
  have e3 : g.kind = K := by rw [hg]
  have e4 : g.info = A := by rw [hg]
  have e5 : g.stack = f.stack := by rw [hg]
  have e6 : g.text = f.text := by rw [hg]
  have e7 : g.hat = p := by rw [hg]
  rw [← hg] at HY HG HR
  have HR := Px.hid (HR.out.trans (show Cf.headOn g p K A = if (g.out.length : Int) == g.lim.i then Cf.wrong g p 10 else if 27 < A then Cf.wrong g p 9 else if K == 7 && (decide (A < 20) || decide (23 < A)) then Cf.wrong g p 11 else if A < 24 then Cf.known { g with num := A } else { g with more := 2 ^ (A - 24), next := 1 } from rfl))
  rw [← e1] at ho
  rw [← e5] at hsk
  have hps : g.stack ≠ [] → g.hat < g.text.length := fun _ => by rw [e6, e7]; exact hpl
  have hpg : g.hat < g.text.length := by rw [e6, e7]; exact hpl
  have hlg : ∀ x ∈ g.stack, 0 < x.left := by rw [e5]; exact H.out.2.2.1
  have HL := Px.hid (And.intro hpg hlg)
  have E3 := Px.hid e3
  have E4 := Px.hid e4
  clear H hg e1 e2 e3 e4 e5 e6 e7 hps hpg hlg hp ht hpl hc
  obtain ⟨ao, co, hvo, _⟩ := HY.out.out.len
  have c5 : WX.cell? ⟨b, 5, none⟩ = some (.slice ao g.out.length co) := by rw [← hvo]; exact cellOf HY.out.blk 5 rfl
  have c1 : WX.cell? ⟨b, 1, none⟩ = some (.int .i64 g.lim.i) := cellOf HY.out.blk 1 rfl
  clear hvo
  go_quiet (fail)
  have HX := Px.hid (HY.out.drewN nq)
  have HXF := Px.hid (HYF.out.drewN nq)
  have HT := Px.hid (HT.out.drewN nq)
  obtain ⟨WZ, hWZ⟩ : ∃ WZ, WZ = WX.drewN nq := ⟨_, rfl⟩
  rw [← hWZ] at HX HXF HT ⊢
  clear hWZ HY HYF c5 c1
  have c8 : WZ.cell? ⟨b, 8, none⟩ = some (.int .i64 K) := by rw [← E3.out]; exact cellOf HX.out.blk 8 rfl
  have c11 : WZ.cell? ⟨b, 11, none⟩ = some (.int .u64 g.num) := cellOf HX.out.blk 11 rfl
  have f11 := HX.out.free 11
  have c12 : WZ.cell? ⟨b, 12, none⟩ = some (.int .u64 g.more) := cellOf HX.out.blk 12 rfl
  have f12 := HX.out.free 12
  have c7 : WZ.cell? ⟨b, 7, none⟩ = some (.int .i64 g.next) := cellOf HX.out.blk 7 rfl
  have f7 := HX.out.free 7
  rcases Bool.eq_false_or_eq_true ((g.out.length : Int) == g.lim.i) with hd | hd
  · have HR := Px.hid (HR.out.trans (if_pos hd))
    go_wp2_with fail
    refine (wrong_any b p 10 g _ _ ⟨_, _, _, HX.out, rfl⟩).mono ?_
    rintro e w' ⟨rfl, hF, hfr⟩
    go_wp2
    go_end0
    rw [HR.out]
    exact ⟨rfl, _, hF, HXF.out.step (Fresh.refl _ _) hfr, Fresh.refl _ _⟩
  · have HR := Px.hid (HR.out.trans (if_neg (by rw [hd]; exact Bool.false_ne_true)))
    by_cases h27 : 27 < A
    · have HR := Px.hid (HR.out.trans (if_pos h27))
      have h27' : (27 : Int) < (A : Int) := by omega
      clear h27
      go_wp2_with fail
      refine (wrong_any b p 9 g _ _ ⟨_, _, _, HX.out, rfl⟩).mono ?_
      rintro e w' ⟨rfl, hF, hfr⟩
      go_wp2
      go_end0
      rw [HR.out]
      exact ⟨rfl, _, hF, HXF.out.step (Fresh.refl _ _) hfr, Fresh.refl _ _⟩
    · have HR := Px.hid (HR.out.trans (if_neg h27))
      have h27' : ¬ (27 : Int) < (A : Int) := by omega
      clear h27
      have known4 : A < 24 → ∀ WQ : World, WQ = WZ → Calls Tryd.prog 43 #[.pointer (some ⟨b, 0, none⟩)] (WQ.setCell ⟨b, 11, none⟩ (.int .u64 A)) fun r w' => r = .returned (.tuple #[]) ∧ ∃ F', FeedAt w' b (Cf.known { g with num := A }) F' ∧ Fr (foot b vt vo vs) (WQ.setCell ⟨b, 11, none⟩ (.int .u64 A)) w' ∧ Fresh (WQ.setCell ⟨b, 11, none⟩ (.int .u64 A)) (foot b vt vo vs) F' := by
        intro h24 WQ hWQ
        subst hWQ
        have hy := HX.out.set 11 (.int .u64 A) { g with num := A } rfl rfl rfl rfl
        have hyf := (Fr.refl (foot b vt vo vs) WQ).setCell (p := ⟨b, 11, none⟩) (.inl (.inl rfl)) (.int .u64 A)
        exact known_any b _ _ _ ⟨_, _, _, hy, rfl⟩ ⟨HG.out.each, HG.out.tail, HG.out.text, HG.out.stack⟩ HL.out.2 HL.out.1 (by show A < 18446744073709551616; omega) hF2 ho hsk
          (HT.out.fr hyf hF2 (by have := hF2 b (.inl rfl); have := HX.out.lt; omega))
      have K4 := Px.hid known4
      clear known4
      by_cases h7 : K = 7
      · have h7' : ((K : Int) == 7) = true := by simp [h7]
        have h7n : (K == 7) = true := by simp [h7]
        clear h7
        by_cases h20 : A < 20
        · have HR := Px.hid (HR.out.trans (if_pos (by simp [h7n, h20])))
          have h20' : (A : Int) < 20 := by omega
          clear h20
          go_wp2_with fail
          refine (wrong_any b p 11 g _ _ ⟨_, _, _, HX.out, rfl⟩).mono ?_
          rintro e w' ⟨rfl, hF, hfr⟩
          go_wp2
          go_end0
          rw [HR.out]
          exact ⟨rfl, _, hF, HXF.out.step (Fresh.refl _ _) hfr, Fresh.refl _ _⟩
        · have h20' : ¬ (A : Int) < 20 := by omega
          by_cases h23 : 23 < A
          · have HR := Px.hid (HR.out.trans (if_pos (by simp [h7n, h23])))
            have h23' : (23 : Int) < (A : Int) := by omega
            clear h20 h23
            go_wp2_with fail
            refine (wrong_any b p 11 g _ _ ⟨_, _, _, HX.out, rfl⟩).mono ?_
            rintro e w' ⟨rfl, hF, hfr⟩
            go_wp2
            go_end0
            rw [HR.out]
            exact ⟨rfl, _, hF, HXF.out.step (Fresh.refl _ _) hfr, Fresh.refl _ _⟩
          · have HR := Px.hid (HR.out.trans (if_neg (by simp [h20, h23])))
            have h23' : ¬ (23 : Int) < (A : Int) := by omega
            clear h20
            have h24 : A < 24 := by omega
            clear h23
            have h24' : (A : Int) < 24 := by omega
            have HR := Px.hid (HR.out.trans (if_pos h24))
            have K5 := Px.hid (K4.out h24 WZ rfl)
            have HXG := Px.hid (HXF.out.setCell (p := ⟨b, 11, none⟩) (.inl (.inl rfl)) (.int .u64 A))
            clear h24 K4
            go_wp2_with fail
            refine K5.out.mono ?_
            rintro e w' ⟨rfl, F', hF, hfr, hnn⟩
            have HE := Px.hid (And.intro hF (And.intro hfr hnn))
            clear hF hfr hnn
            go_wp2
            go_end0
            rw [HR.out]
            exact ⟨rfl, _, HE.out.1, HXG.out.step (Fresh.refl _ _) HE.out.2.1, Fresh.trans (Fresh.refl _ _) HXG.out.size HE.out.2.2⟩
      · have h7' : ((K : Int) == 7) = false := by simp; omega
        have HR := Px.hid (HR.out.trans (if_neg (by simp [h7])))
        clear h7
        by_cases h24 : A < 24
        · have h24' : (A : Int) < 24 := by omega
          have HR := Px.hid (HR.out.trans (if_pos h24))
          have K5 := Px.hid (K4.out h24 WZ rfl)
          have HXG := Px.hid (HXF.out.setCell (p := ⟨b, 11, none⟩) (.inl (.inl rfl)) (.int .u64 A))
          clear h24 K4
          go_wp2_with fail
          refine K5.out.mono ?_
          rintro e w' ⟨rfl, F', hF, hfr, hnn⟩
          have HE := Px.hid (And.intro hF (And.intro hfr hnn))
          clear hF hfr hnn
          go_wp2
          go_end0
          rw [HR.out]
          exact ⟨rfl, _, HE.out.1, HXG.out.step (Fresh.refl _ _) HE.out.2.1, Fresh.trans (Fresh.refl _ _) HXG.out.size HE.out.2.2⟩
        · have h24' : ¬ (A : Int) < 24 := by omega
          have HR := Px.hid (HR.out.trans (if_neg h24))
          clear K4
          have hA4 : A = 24 ∨ A = 25 ∨ A = 26 ∨ A = 27 := by omega
          clear h24
          rcases hA4 with hA4 | hA4 | hA4 | hA4
          · subst hA4
            have HY := Px.hid ((HX.out.set 12 (.int .u64 1) { g with more := 1 } rfl rfl rfl rfl).set 7 (.int .i64 1) { g with more := 1, next := 1 } rfl rfl rfl rfl)
            have HYF := Px.hid ((HXF.out.setCell (p := ⟨b, 12, none⟩) (.inl (.inl rfl)) (.int .u64 1)).setCell (p := ⟨b, 7, none⟩) (.inl (.inl rfl)) (.int .i64 1))
            go_wp2
            go_end0
            rw [HR.out]
            exact ⟨rfl, _, ⟨_, _, _, HY.out, rfl⟩, HYF.out, Fresh.refl _ _⟩
          · subst hA4
            have HY := Px.hid ((HX.out.set 12 (.int .u64 2) { g with more := 2 } rfl rfl rfl rfl).set 7 (.int .i64 1) { g with more := 2, next := 1 } rfl rfl rfl rfl)
            have HYF := Px.hid ((HXF.out.setCell (p := ⟨b, 12, none⟩) (.inl (.inl rfl)) (.int .u64 2)).setCell (p := ⟨b, 7, none⟩) (.inl (.inl rfl)) (.int .i64 1))
            go_wp2
            go_end0
            rw [HR.out]
            exact ⟨rfl, _, ⟨_, _, _, HY.out, rfl⟩, HYF.out, Fresh.refl _ _⟩
          · subst hA4
            have HY := Px.hid ((HX.out.set 12 (.int .u64 4) { g with more := 4 } rfl rfl rfl rfl).set 7 (.int .i64 1) { g with more := 4, next := 1 } rfl rfl rfl rfl)
            have HYF := Px.hid ((HXF.out.setCell (p := ⟨b, 12, none⟩) (.inl (.inl rfl)) (.int .u64 4)).setCell (p := ⟨b, 7, none⟩) (.inl (.inl rfl)) (.int .i64 1))
            go_wp2
            go_end0
            rw [HR.out]
            exact ⟨rfl, _, ⟨_, _, _, HY.out, rfl⟩, HYF.out, Fresh.refl _ _⟩
          · subst hA4
            have HY := Px.hid ((HX.out.set 12 (.int .u64 8) { g with more := 8 } rfl rfl rfl rfl).set 7 (.int .i64 1) { g with more := 8, next := 1 } rfl rfl rfl rfl)
            have HYF := Px.hid ((HXF.out.setCell (p := ⟨b, 12, none⟩) (.inl (.inl rfl)) (.int .u64 8)).setCell (p := ⟨b, 7, none⟩) (.inl (.inl rfl)) (.int .i64 1))
            go_wp2
            go_end0
            rw [HR.out]
            exact ⟨rfl, _, ⟨_, _, _, HY.out, rfl⟩, HYF.out, Fresh.refl _ _⟩
end Go.Proofs.YtclbbfmpkhfigaaDoor

/-! The walk over cborfeed's Write. -/
namespace Go.Proofs.YtclbbfmpkhfigaaDoor
open Go.RowKit Go.Px Go.Px.Cf

set_option maxRecDepth 100000 in
set_option maxHeartbeats 2000000 in
theorem write_any (b : Nat) (f : Feed) (s : List UInt8) (F : Nat → Prop) (w : World) (h : FeedAt w b f F) (hok : FeedOk f) (hs : s.length ≤ maxLen) (hF2 : ∀ k, F k → 2 ≤ k) (hT : Tabs w) :
    Calls Tryd.prog 17 #[.pointer (some ⟨b, 0, none⟩), S s] w fun r w' => r = .returned (.int .i64 (Cf.write f s).err) ∧ ∃ F', FeedAt w' b (Cf.write f s) F' ∧ Fr F w w' ∧ Fresh w F F' ∧ FeedOk (Cf.write f s) := by
  unfold maxLen at hs
  have hm := may_of hok.1
  have c2 : w.cell? ⟨b, 2, none⟩ = some (.int .i64 f.lim.b) := by obtain ⟨vt, vo, vs, h, rfl⟩ := h; exact cellOf h.blk 2 rfl
  have h0 : (f.lim.b == 0) = false := by simp; omega
  have hw2 : 2 ≤ w.heap.size := by obtain ⟨vt, vo, vs, h, rfl⟩ := h; have := h.lt; have := hF2 b (.inl rfl); omega
  have hsz : (ByteArray.mk s.toArray).size = s.length := size_S s
  have H := Px.hid (And.intro h (And.intro hok hT))
  clear h hok hT hm
  go_enter Tryd.func17, Tryd.ntmps17
  go_wp2
  go_loopw [5] (fun i wr => ∃ k q F', k ≤ s.length ∧ i = .int .i64 (k : Nat) ∧ FeedAt wr b q F' ∧ Fr F w wr ∧ Fresh w F F' ∧ FeedOk q ∧ Cf.write f s = Cf.write q (s.drop k)) (fun i _ => s.length - (intOf i).toNat)
  case atStart => exact ⟨0, f, F, Nat.zero_le _, rfl, H.out.1, Fr.refl _ _, Fresh.refl _ _, H.out.2.1, by simp⟩
  case round =>
    obtain ⟨k, q, F', hk, rfl, hq, hfr, hfs, hok, hwr⟩ := hrel
    have HF2 : ∀ j, F' j → 2 ≤ j := fun j hj => by rcases hfs j hj with x | x; exact hF2 j x; omega
    have HT := Px.hid (H.out.2.2.fr hfr hF2 hw2)
    have HW2 : 2 ≤ wr.heap.size := by have := hfr.size; omega
    have HFR := Px.hid (And.intro hfr hfs)
    have HOK := Px.hid hok
    have HWR := Px.hid hwr
    clear hfr hfs hok hwr H c2 h0
    obtain ⟨vt, vo, vs, h, rfl⟩ := hq
    have HQ := Px.hid h
    have c13 : wr.cell? ⟨b, 13, none⟩ = some (.int .i64 q.err) := cellOf h.blk 13 rfl
    clear h
    by_cases hlt : k < s.length
    · have hltz : (k : Int) < (s.length : Int) := by omega
      by_cases he : q.err = 0
      · have he' : (q.err == 0) = true := by simpa using he
        have hlive := HOK.out.2 he
        have hm := may_of HOK.out.1
        have hbl := hlive.len
        have HWR := Px.hid (HWR.out.trans (Cf.write_drop q s k hlt he))
        have HOKB := Px.hid (byte_ok HOK.out he s[k])
        have HL := Px.hid hlive
        obtain ⟨c, hc⟩ : ∃ c, s[k] = c := ⟨_, rfl⟩
        rw [hc] at HWR HOKB
        have hidx : ∀ w', (Instr.index 9 (S s) (.int .i64 (k : Int))).run Tryd.prog w' = .ok (.int .u8 c.toNat) w' := fun w' => by
          rw [run_index_string w' 9 _ .i64 _ Tryd.underlying9, dif_pos ⟨by omega, by rw [size_S]; omega⟩]
          congr 3
          rw [← hc]
          rfl
        have HE := Px.hid he
        clear he hlive hm hc
        obtain ⟨ta, tc, htv, _⟩ := HQ.out.text.len
        have c4 : wr.cell? ⟨b, 4, none⟩ = some (.slice ta q.text.length tc) := by rw [← htv]; exact cellOf HQ.out.blk 4 rfl
        have c2 : wr.cell? ⟨b, 2, none⟩ = some (.int .i64 q.lim.b) := cellOf HQ.out.blk 2 rfl
        have HTV := Px.hid htv
        clear htv
        rcases Bool.eq_false_or_eq_true ((q.text.length : Int) == q.lim.b) with hd | hd
        · have HB := Px.hid (show Cf.byte q c = Cf.wrong q q.lim.b 10 by unfold Cf.byte; rw [if_pos hd])
          go_wp2_with fail
          go_quiet (fail)
          have HX := Px.hid (HQ.out.drewN nq)
          have HXF := Px.hid (HFR.out.1.drewN nq)
          obtain ⟨WX, hWX⟩ : ∃ WX, WX = wr.drewN nq := ⟨_, rfl⟩
          rw [← hWX] at HX HXF ⊢
          clear hWX c2 c4 c13
          have c2 : WX.cell? ⟨b, 2, none⟩ = some (.int .i64 q.lim.b) := cellOf HX.out.blk 2 rfl
          go_wp2_with fail
          refine (wrong_any b q.lim.b 10 q _ _ ⟨_, _, _, HX.out, rfl⟩).mono ?_
          rintro e w' ⟨rfl, hF, hfr⟩
          have c13 : w'.cell? ⟨b, 13, none⟩ = some (.int .i64 10) := by obtain ⟨_, _, _, hF, _⟩ := hF; exact cellOf hF.blk 13 rfl
          have HE2 := Px.hid (And.intro hF hfr)
          clear hF hfr
          go_wp2
          go_ret
          rw [HB.out] at HWR HOKB
          rw [HWR.out, Cf.write_err _ (by simp [Cf.wrong])]
          exact ⟨rfl, _, HE2.out.1, HXF.out.step HFR.out.2 HE2.out.2, HFR.out.2, HOKB.out⟩
        · have hd' : ¬ (q.text.length : Int) = q.lim.b := by simpa using hd
          go_wp2_with fail
          go_quiet (fail)
          have HX := Px.hid (HQ.out.drewN nq)
          have HXF := Px.hid (HFR.out.1.drewN nq)
          have HT := Px.hid (HT.out.drewN nq)
          obtain ⟨WX, hWX⟩ : ∃ WX, WX = wr.drewN nq := ⟨_, rfl⟩
          rw [← hWX] at HX HXF HT ⊢
          clear hWX c2 c4 c13
          have c4 : WX.cell? ⟨b, 4, none⟩ = some vt := cellOf HX.out.blk 4 rfl
          have f4 := HX.out.free 4
          have hb : b < WX.heap.size := HX.out.lt
          have hlb : q.text.length ≤ 1000000 := by have := may_of HOK.out.1; omega
          obtain ⟨i0, hi0, hz0, hz1, hz2⟩ := info_parts Tryd.infoU8
          go_upto_region 8 with fail
          go_cut [] (fun wx => AfterText WX wx b q c vt vo vs)
          case first =>
            go_region_law
              ((refine step_append_lies _ (by rfl) _ _ _ (by rfl) 0 5 i0 _ 1 1 Tryd.underlying42 hi0 hz0 hz1 hz2 rfl (by omega) vt q.text.length (q.text.flatMap cByte) (by rfl) ((HX.out.text.alloc _).drew)
                    ⟨WX.heap.size, 0, none⟩ 1 1 (cByte c) (by rfl) (by rfl) (World.news_of_block (cs := #[.int .u8 c.toNat]) (t := 5) (fr := (0, 0)) (heap_alloc_new WX _)) (by simp [cByte, Value.oneCell'])
                    (by omega) (by unfold maxLen; omega) (by omega) (by simp) (WX.heap.size + 1) (by simp) ?_; intro gg cap w1 hown1 hgrow hat hlt; have k4 := grown_cell hgrow c4 HX.out.tb.ne; have e4 := grown_free hgrow c4 f4 HX.out.tb.ne))
            all_goals (go_wp2_with fail; go_meet; exact HX.out.afterText hown1 (grown_alloc hgrow) (hat.imp id (fun e => by omega)))
          case rest =>
            obtain ⟨vt', hy, hyf, hyn⟩ := hcut
            have HY := Px.hid hy
            have HF3 : ∀ j, foot b vt' vo vs j → 2 ≤ j := fun j hj => by rcases hyn j hj with x | x; exact HF2 j x; have := HXF.out.size; omega
            have HX1 := Px.hid (And.intro (HXF.out.step HFR.out.2 hyf) (Fresh.trans HFR.out.2 HXF.out.size hyn))
            have HT1 := Px.hid (HT.out.fr hyf HF2 (by have := HXF.out.size; omega))
            have hlive := HL.out
            have hp1 : q.text.length < (q.text ++ [c]).length := by simp
            have hpre := hlive.pre
            have HG : FOk { q with text := q.text ++ [c] } := ⟨fun x hx => ⟨(hlive.each x hx).1, by have := (hlive.each x hx).2.1; show x.at_ < (q.text ++ [c]).length; omega⟩, hpre.tail, by show (q.text ++ [c]).length ≤ 1000000; have := may_of HOK.out.1; simp; omega, hpre.ok.stack⟩
            have ho : q.out.length ≤ 1000000 := by have := hlive.out; omega
            have hsk : q.stack.length ≤ 900 := by have := hlive.deep; have := may_of HOK.out.1; omega
            have HM := Px.hid (And.intro HG (And.intro ho (And.intro hsk (And.intro hlive.pos hlive.next))))
            have c7 : wc.cell? ⟨b, 7, none⟩ = some (.int .i64 q.next) := cellOf hy.blk 7 rfl
            have HBY := Px.hid (show Cf.byte q c = _ from rfl)
            unfold Cf.byte at HBY
            have HBY := Px.hid (HBY.out.trans (if_neg (by simpa using hd')))
            clear hy hyf hyn hlive hpre HG ho hsk hp1 c4 f4 hd'
            by_cases n0 : q.next = 0
            · have n0' : (q.next == 0) = true := by simpa using n0
              have HB := Px.hid (show Cf.byte q c = Cf.head { q with text := q.text ++ [c] } c.toNat from HBY.out.trans (if_pos n0'))
              clear n0 HBY
              go_wp2_with fail
              refine (head_any b { q with text := q.text ++ [c] } c _ _ ⟨_, _, _, HY.out, rfl⟩ HM.out.1 HM.out.2.2.2.1 (by simp) HF3 HM.out.2.1 HM.out.2.2.1 HT1.out).mono ?_
              rintro e w' ⟨rfl, F'', hF, hfr, hnn⟩
              have HE2 := Px.hid (And.intro hF (And.intro hfr hnn))
              clear hF hfr hnn
              go_wp2
              go_roundw
              case rel =>
                refine ⟨k + 1, _, F'', by omega, by go_num, HE2.out.1, HX1.out.1.step HX1.out.2 HE2.out.2.1, Fresh.trans HX1.out.2 HX1.out.1.size HE2.out.2.2, ?_, ?_⟩
                · have := HOKB.out; rw [HB.out] at this; exact this
                · rw [HWR.out, HB.out]
              case measure => simp [intOf]; omega
            · have n0' : (q.next == 0) = false := by simpa using n0
              have HBY := Px.hid (HBY.out.trans (if_neg (by simpa using n0)))
              by_cases n1 : q.next = 1
              · have n1' : (q.next == 1) = true := by simpa using n1
                have HB := Px.hid (show Cf.byte q c = Cf.argument { q with text := q.text ++ [c] } c.toNat from HBY.out.trans (if_pos n1'))
                have HA := Px.hid (show 24 ≤ q.info ∧ q.info ≤ 27 ∧ 1 ≤ q.more ∧ q.more ≤ 2 ^ (q.info - 24) ∧ q.num < 256 ^ (2 ^ (q.info - 24) - q.more) ∧ q.hat < q.text.length by
                  rcases HM.out.2.2.2.2 with hx | ⟨_, hx⟩ | ⟨hx, _⟩ | ⟨hx, _⟩
                  · omega
                  · exact hx
                  · omega
                  · omega)
                clear n0 n1 HBY
                go_wp2_with fail
                obtain ⟨i1, i2, m1, m2, hn, hh⟩ := HA.out
                have w8 := two_pow_le q.info i2
                have hst := Nat.lt_of_lt_of_le (arg_step m1 m2 hn c.toNat_lt) (pow256_le _ (by omega))
                refine (argument_any b { q with text := q.text ++ [c] } c _ _ ⟨_, _, _, HY.out, rfl⟩ HM.out.1 HM.out.2.2.2.1 (by show q.hat < (q.text ++ [c]).length; simp; omega) hst i1 i2 m1 (Nat.le_trans m2 w8) HF3 HM.out.2.1 HM.out.2.2.1 HT1.out).mono ?_
                clear i1 i2 m1 m2 hn hh w8 hst
                rintro e w' ⟨rfl, F'', hF, hfr, hnn⟩
                have HE2 := Px.hid (And.intro hF (And.intro hfr hnn))
                clear hF hfr hnn
                go_wp2
                go_roundw
                case rel =>
                  refine ⟨k + 1, _, F'', by omega, by go_num, HE2.out.1, HX1.out.1.step HX1.out.2 HE2.out.2.1, Fresh.trans HX1.out.2 HX1.out.1.size HE2.out.2.2, ?_, ?_⟩
                  · have := HOKB.out; rw [HB.out] at this; exact this
                  · rw [HWR.out, HB.out]
                case measure => simp [intOf]; omega
              · have n1' : (q.next == 1) = false := by simpa using n1
                have HBY := Px.hid (HBY.out.trans (if_neg (by simpa using n1)))
                by_cases n2 : q.next = 2
                · have n2' : (q.next == 2) = true := by simpa using n2
                  have HBY := Px.hid (HBY.out.trans (if_pos n2'))
                  have HA := Px.hid (show (q.kind = 2 ∨ q.kind = 3) ∧ 1 ≤ q.more ∧ q.num ≤ q.text.length + q.more ∧ q.hat < q.text.length ∧ q.more < 18446744073709551616 by
                    rcases HM.out.2.2.2.2 with hx | ⟨hx, _⟩ | ⟨_, hx⟩ | ⟨hx, _⟩
                    · omega
                    · omega
                    · exact hx
                    · omega)
                  have hm1 := HA.out.2.1
                  have hmz : (0 : Int) ≤ (q.more : Int) - 1 := by omega
                  have en : ((q.more - 1 : Nat) : Int) = (q.more : Int) - 1 := by omega
                  have hmw : IntKind.u64.wrap ((q.more : Int) - 1) = (q.more : Int) - 1 := IntWalk.u64_in _ ⟨by omega, by have := HA.out.2.2.2.2; omega⟩
                  have c12 : wc.cell? ⟨b, 12, none⟩ = some (.int .u64 q.more) := cellOf HY.out.blk 12 rfl
                  have f12 := HY.out.free 12
                  have hz := HY.out.set 12 (.int .u64 (q.more - 1 : Nat)) { q with text := q.text ++ [c], more := q.more - 1 } rfl rfl rfl rfl
                  have hzf := HX1.out.1.step HX1.out.2 ((Fr.refl (foot b vt' vo vs) wc).setCell (p := ⟨b, 12, none⟩) (.inl (.inl rfl)) (.int .u64 (q.more - 1 : Nat)))
                  have hzt := HT1.out.fr ((Fr.refl (foot b vt' vo vs) wc).setCell (p := ⟨b, 12, none⟩) (.inl (.inl rfl)) (.int .u64 (q.more - 1 : Nat))) HF3 (by have := HX1.out.1.size; omega)
                  rw [en] at hz hzf hzt
                  have HZ := Px.hid (And.intro hz (And.intro hzf hzt))
                  clear hz hzf hzt en n0 n1 n2
                  by_cases m0 : q.more = 1
                  · have m0' : ((q.more : Int) - 1 == 0) = true := by simp; omega
                    have HB := Px.hid (show Cf.byte q c = Cf.whole { q with text := q.text ++ [c], more := q.more - 1 } from HBY.out.trans (if_pos (by simp [m0])))
                    have m0z : (q.more : Int) - 1 = 0 := by omega
                    have HMZ := Px.hid (And.intro m0 m0z)
                    clear m0 m0z HBY
                    go_wp2_with fail
                    refine (whole_any b { q with text := q.text ++ [c], more := q.more - 1 } _ _ ⟨_, _, _, HZ.out.1, rfl⟩ ⟨HM.out.1.each, HM.out.1.tail, HM.out.1.text, HM.out.1.stack⟩ HM.out.2.2.2.1 (fun _ => by have := HA.out.2.2.2.1; show q.hat < (q.text ++ [c]).length; simp; omega)
                      (by have := HA.out.2.2.1; have := HMZ.out.1; show q.num ≤ (q.text ++ [c]).length; simp; omega) HM.out.2.1 HZ.out.2.2).mono ?_
                    rintro e w' ⟨rfl, F'', hF, hfr, hnn⟩
                    have HE2 := Px.hid (And.intro hF (And.intro hfr hnn))
                    clear hF hfr hnn
                    go_wp2
                    go_roundw
                    case rel =>
                      refine ⟨k + 1, _, F'', by omega, by go_num, HE2.out.1, HZ.out.2.1.step HX1.out.2 HE2.out.2.1, Fresh.trans HX1.out.2 HZ.out.2.1.size HE2.out.2.2, ?_, ?_⟩
                      · have := HOKB.out; rw [HB.out] at this; exact this
                      · rw [HWR.out, HB.out]
                    case measure => simp [intOf]; omega
                  · have m0' : ((q.more : Int) - 1 == 0) = false := by simp; omega
                    have HB := Px.hid (show Cf.byte q c = { q with text := q.text ++ [c], more := q.more - 1 } from HBY.out.trans (if_neg (by simp; omega)))
                    clear m0 HBY
                    go_wp2
                    go_roundw
                    case rel =>
                      refine ⟨k + 1, _, _, by omega, by go_num, ⟨_, _, _, HZ.out.1, rfl⟩, HZ.out.2.1, HX1.out.2, ?_, ?_⟩
                      · have := HOKB.out; rw [HB.out] at this; exact this
                      · rw [HWR.out, HB.out]
                    case measure => simp [intOf]; omega
                · have n2' : (q.next == 2) = false := by simpa using n2
                  have HB := Px.hid (show Cf.byte q c = Cf.wrong { q with text := q.text ++ [c] } q.text.length 9 from (HBY.out.trans (if_neg (by simpa using n2))).trans (by simp))
                  have hty := HY.out.text.len
                  obtain ⟨ta2, tc2, htv2, _⟩ := hty
                  have htv2 : vt' = .slice ta2 (q.text.length + 1) tc2 := by rw [htv2]; simp
                  have c4 : wc.cell? ⟨b, 4, none⟩ = some (.slice ta2 (q.text.length + 1) tc2) := by rw [← htv2]; exact cellOf HY.out.blk 4 rfl
                  clear htv2
                  clear n0 n1 n2 HBY
                  go_wp2_with fail
                  refine (wrong_any b (q.text.length : Nat) 9 { q with text := q.text ++ [c] } _ _ ⟨_, _, _, HY.out, rfl⟩).mono ?_
                  rintro e w' ⟨rfl, hF, hfr⟩
                  have HE2 := Px.hid (And.intro hF hfr)
                  clear hF hfr
                  go_wp2
                  go_roundw
                  case rel =>
                    refine ⟨k + 1, _, _, by omega, by go_num, HE2.out.1, HX1.out.1.step HX1.out.2 HE2.out.2, HX1.out.2, ?_, ?_⟩
                    · have := HOKB.out; rw [HB.out] at this; exact this
                    · rw [HWR.out, HB.out]
                  case measure => simp [intOf]; omega
      · have he' : (q.err == 0) = false := by simpa using he
        have HWE := Px.hid (HWR.out.trans (Cf.write_err _ he))
        clear he
        go_wp2
        go_ret
        rw [HWE.out]
        exact ⟨rfl, _, ⟨_, _, _, HQ.out, rfl⟩, HFR.out.1, HFR.out.2, HOK.out⟩
    · have hlt' : ¬ (k : Int) < (s.length : Int) := by omega
      have HWE := Px.hid (HWR.out.trans (by rw [List.drop_eq_nil_of_le (by omega)]; rfl : Cf.write q (s.drop k) = q))
      go_wp2
      go_ret
      rw [HWE.out]
      exact ⟨rfl, _, ⟨_, _, _, HQ.out, rfl⟩, HFR.out.1, HFR.out.2, HOK.out⟩
end Go.Proofs.YtclbbfmpkhfigaaDoor

/-! The walks over May (der's and the reference's), cborfeed's New, End, State; and of a nil and a zero feed. -/
namespace Go.Proofs.YtclbbfmpkhfigaaDoor
open Go.RowKit Go.Px Go.Px.Cf

def limV (l : Lim) : Value := .agg #[.int .i64 l.d, .int .i64 l.i, .int .i64 l.b, .int .i64 l.r]
/-- Nothing that was there has changed. -/
def Same (w w' : World) : Prop := Fr (fun _ => False) w w'
theorem Same.refl (w : World) : Same w w := Fr.refl _ w
theorem Same.trans {a b c : World} (h : Same a b) (k : Same b c) : Same a c := Fr.trans h k fun _ _ x => x
theorem Same.below {a b : World} (h : Same a b) : Below a.heap.size a b := ⟨h.os, h.tape, h.output, h.size, fun k hk => h.block k hk (fun x => x)⟩
theorem Same.fr {a b : World} (h : Same a b) (F : Nat → Prop) : Fr F a b := Fr.mono h fun _ x => x.elim
theorem FeedAt.same {w w' : World} {b : Nat} {f : Feed} {F : Nat → Prop} (h : FeedAt w b f F) (hs : Same w w') : FeedAt w' b f F := by
  obtain ⟨vt, vo, vs, h, e⟩ := h
  exact ⟨vt, vo, vs, h.fr hs (fun _ _ x => x), e⟩
theorem Owns.same {α : Type} {w w' : World} {T sz : Nat} {c : α → List Value} {v : Value} {l : List α} (h : Owns w T sz c v l) (hs : Same w w') : Owns w' T sz c v l := h.fr hs (fun _ _ x => x)
theorem Tabs.same {w w' : World} (h : Tabs w) (hs : Same w w') : Tabs w' := h.below hs.below

theorem derMay_any (l : Lim) (w : World) : Calls Tryd.prog 29 #[limV l] w fun e w' => e = .returned (.bool l.may) ∧ Same w w' := by
  unfold limV
  go_enter Tryd.func29, Tryd.ntmps29
  go_wp2
  all_goals
    go_ret
    exact ⟨by (first | (simp [Lim.may, *]; done) | (simp [Lim.may, *]; omega)), (Fr.refl _ w).alloc _⟩
theorem refMay_any (l : Lim) (w : World) : Calls Tryd.prog 16 #[limV l] w fun e w' => e = .returned (.bool l.may) ∧ Same w w' := by
  unfold limV
  go_enter Tryd.func16, Tryd.ntmps16
  go_wp2
  all_goals
    go_ret
    exact ⟨by (first | (simp [Lim.may, *]; done) | (simp [Lim.may, *]; omega)), (Fr.refl _ w).alloc _⟩

theorem state_any (b : Nat) (f : Feed) (F : Nat → Prop) (w : World) (h : FeedAt w b f F) :
    Calls Tryd.prog 21 #[.pointer (some ⟨b, 0, none⟩)] w fun e w' => e = .returned (.tuple #[.int .i64 f.text.length, .int .i64 f.stack.length]) ∧ Same w w' := by
  obtain ⟨vt, vo, vs, h, rfl⟩ := h
  obtain ⟨ta, tc, htv, _⟩ := h.text.len
  obtain ⟨sa, sc, hsv⟩ := h.stackLen
  have c4 : w.cell? ⟨b, 4, none⟩ = some (.slice ta f.text.length tc) := by rw [← htv]; exact cellOf h.blk 4 rfl
  have c6 : w.cell? ⟨b, 6, none⟩ = some (.slice sa f.stack.length sc) := by rw [← hsv]; exact cellOf h.blk 6 rfl
  clear htv hsv h
  go_enter Tryd.func21, Tryd.ntmps21
  go_wp2_with fail
  go_quiet (fail)
  go_wp2
  go_ret2
  exact ⟨rfl, (Fr.refl _ w).drewN nq⟩
theorem state_nil (w : World) : Calls Tryd.prog 21 #[.pointer none] w fun e w' => e = .returned (.tuple #[.int .i64 0, .int .i64 0]) ∧ Same w w' := by
  go_enter Tryd.func21, Tryd.ntmps21
  go_wp2
  go_ret2
  exact ⟨rfl, Same.refl w⟩
theorem end_nil (w : World) : Calls Tryd.prog 19 #[.pointer none] w fun e w' => e = .returned (.tuple #[.slice none 0 0, .int .i64 0, .int .i64 1]) ∧ Same w w' := by
  go_enter Tryd.func19, Tryd.ntmps19
  go_wp2
  go_ret3
  exact ⟨rfl, Same.refl w⟩
theorem write_nil (s : List UInt8) (w : World) : Calls Tryd.prog 17 #[.pointer none, S s] w fun e w' => e = .returned (.int .i64 1) ∧ Same w w' := by
  go_enter Tryd.func17, Tryd.ntmps17
  go_wp2
  go_ret
  exact ⟨rfl, Same.refl w⟩
theorem end_zero (b : Nat) (w : World) (c2 : w.cell? ⟨b, 2, none⟩ = some (.int .i64 0)) : Calls Tryd.prog 19 #[.pointer (some ⟨b, 0, none⟩)] w fun e w' => e = .returned (.tuple #[.slice none 0 0, .int .i64 0, .int .i64 1]) ∧ Same w w' := by
  go_enter Tryd.func19, Tryd.ntmps19
  go_wp2
  go_ret3
  exact ⟨rfl, Same.refl w⟩
theorem write_zero (b : Nat) (s : List UInt8) (w : World) (c2 : w.cell? ⟨b, 2, none⟩ = some (.int .i64 0)) : Calls Tryd.prog 17 #[.pointer (some ⟨b, 0, none⟩), S s] w fun e w' => e = .returned (.int .i64 1) ∧ Same w w' := by
  go_enter Tryd.func17, Tryd.ntmps17
  go_wp2
  go_ret
  exact ⟨rfl, Same.refl w⟩

theorem new_no (l : Lim) (w : World) (hm : l.may = false) : Calls Tryd.prog 15 #[limV l] w fun e w' => e = .returned (.tuple #[.pointer none, .int .i64 2]) ∧ Same w w' := by
  have H := Px.hid hm
  clear hm
  unfold limV
  go_enter Tryd.func15, Tryd.ntmps15
  go_wp2_with fail
  refine (derMay_any l _).mono ?_
  rintro e w' ⟨rfl, hs⟩
  have HS := Px.hid (Same.trans ((Fr.refl (fun _ => False) w).alloc _) hs)
  clear hs
  rw [H.out]
  go_wp2
  go_ret2
  exact ⟨rfl, HS.out⟩
theorem new_yes (l : Lim) (w : World) (hm : l.may = true) : Calls Tryd.prog 15 #[limV l] w fun e w' => ∃ b, e = .returned (.tuple #[.pointer (some ⟨b, 0, none⟩), .int .i64 0]) ∧ Same w w' ∧ w.heap.size ≤ b ∧ FeedAt w' b (Cf.init l) (fun k => k = b) := by
  have H := Px.hid hm
  clear hm
  unfold limV
  go_enter Tryd.func15, Tryd.ntmps15
  go_wp2_with fail
  refine (derMay_any l _).mono ?_
  rintro e w' ⟨rfl, hs⟩
  have HS := Px.hid (Same.trans ((Fr.refl (fun _ => False) w).alloc _) hs)
  have c0 : w'.cell? ⟨w.heap.size, 0, none⟩ = some (.int .i64 l.d) := (hs.cell (p := ⟨w.heap.size, 0, none⟩) (by simp) (fun x => x)).trans (cellOf (heap_alloc_new w _) 0 rfl)
  have c1 : w'.cell? ⟨w.heap.size, 1, none⟩ = some (.int .i64 l.i) := (hs.cell (p := ⟨w.heap.size, 1, none⟩) (by simp) (fun x => x)).trans (cellOf (heap_alloc_new w _) 1 rfl)
  have c2 : w'.cell? ⟨w.heap.size, 2, none⟩ = some (.int .i64 l.b) := (hs.cell (p := ⟨w.heap.size, 2, none⟩) (by simp) (fun x => x)).trans (cellOf (heap_alloc_new w _) 2 rfl)
  have c3 : w'.cell? ⟨w.heap.size, 3, none⟩ = some (.int .i64 l.r) := (hs.cell (p := ⟨w.heap.size, 3, none⟩) (by simp) (fun x => x)).trans (cellOf (heap_alloc_new w _) 3 rfl)
  clear hs
  rw [H.out]
  go_wp2
  go_ret2
  refine ⟨w'.heap.size, rfl, HS.out.alloc _, HS.out.size, .slice none 0 0, .slice none 0 0, .slice none 0 0, ⟨heap_alloc_new w' _, owns_nil _ _ _ _, owns_nil _ _ _ _, owns_nil _ _ _ _, ?_, ?_, ?_, ?_, ?_, ?_⟩, ?_⟩
  · intro k hk; simp [Value.ownBlock] at hk
  · intro k hk; simp [Value.ownBlock] at hk
  · intro k hk; simp [Value.ownBlock] at hk
  · intro k hk; simp [Value.ownBlock] at hk
  · intro k hk; simp [Value.ownBlock] at hk
  · intro k hk; simp [Value.ownBlock] at hk
  · funext k; simp [foot, Value.ownBlock]

theorem atom_one (l : List Atom) : ∀ u ∈ l.flatMap cAtom, u.oneCell' = true := by
  intro u hu
  simp only [List.mem_flatMap] at hu
  obtain ⟨a, _, hu⟩ := hu
  simp only [cAtom, List.mem_cons, List.not_mem_nil, or_false] at hu
  rcases hu with rfl | rfl | rfl <;> rfl

set_option maxRecDepth 100000 in
set_option maxHeartbeats 1000000 in
theorem end_any (b : Nat) (f : Feed) (F : Nat → Prop) (w : World) (h : FeedAt w b f F) (hb0 : f.lim.b ≠ 0) (ho : f.out.length ≤ 1000000) (hne : f.err = 0 → f.next = 3 → f.out ≠ []) :
    Calls Tryd.prog 19 #[.pointer (some ⟨b, 0, none⟩)] w fun e w' => ∃ v, e = .returned (.tuple #[v, .int .i64 (Cf.End f).2.1, .int .i64 (Cf.End f).2.2]) ∧ Owns w' 72 3 cAtom v (Cf.End f).1 ∧ Same w w' ∧ (∀ k, v.ownBlock = some k → w.heap.size ≤ k) := by
  obtain ⟨vt, vo, vs, h, rfl⟩ := h
  have h0 : (f.lim.b == 0) = false := by simpa using hb0
  have c2 : w.cell? ⟨b, 2, none⟩ = some (.int .i64 f.lim.b) := cellOf h.blk 2 rfl
  have c13 : w.cell? ⟨b, 13, none⟩ = some (.int .i64 f.err) := cellOf h.blk 13 rfl
  have c14 : w.cell? ⟨b, 14, none⟩ = some (.int .i64 f.at_) := cellOf h.blk 14 rfl
  have c7 : w.cell? ⟨b, 7, none⟩ = some (.int .i64 f.next) := cellOf h.blk 7 rfl
  clear hb0
  by_cases he : f.err = 0
  · have he' : (f.err == 0) = true := by simpa using he
    have he2 : (f.err != 0) = false := by simp [he]
    by_cases hn : f.next = 3
    · have hn2 : (f.next != 3) = false := by simp [hn]
      have HE := Px.hid (show Cf.End f = (f.out, 0, 0) by simp [Cf.End, he2, hn2])
      have he0 := he
      clear he
      obtain ⟨oa, oc, hov, hoc1, hoc2, hon⟩ := h.out.len
      have c5 : w.cell? ⟨b, 5, none⟩ = some (.slice oa f.out.length oc) := by rw [← hov]; exact cellOf h.blk 5 rfl
      have hpos : 0 < f.out.length := List.length_pos_iff.2 (hne he0 hn)
      obtain ⟨g, rfl⟩ : ∃ g, oa = some ⟨g, 0, none⟩ := by
        obtain ⟨g, cap, hv, _⟩ := h.out.at cAtom_len (j := 0) (a := f.out[0]) (by simp [hpos])
        rw [hov] at hv
        simp only [Value.slice.injEq] at hv
        exact ⟨g, hv.1⟩
      have hown : w.ownsRow 0 72 3 (.slice (some ⟨g, 0, none⟩) f.out.length oc) f.out.length (f.out.flatMap cAtom) := by have := h.out; rw [hov] at this; exact this
      have HC := Px.hid (hown.cells (g := g) rfl)
      obtain ⟨i0, hi0, hz0, hz1, hz2⟩ := info_parts Tryd.infoAtom
      clear he0 hn hov hon h hown hoc1 hoc2
      go_enter Tryd.func19, Tryd.ntmps19
      go_wp2_with (at_builtin; refine wpList_append_lies _ rfl _ _ _ rfl 0 72 i0 _ 3 32 Tryd.underlying32 hi0 hz0 hz1 hz2 rfl (by omega) (.slice none 0 0) 0 [] rfl (World.ownsRow_nil _ _ _ _) ⟨g, 0, none⟩ f.out.length oc (f.out.flatMap cAtom) rfl (flat_len cAtom_len _) HC.out (atom_one _) hpos (by unfold maxLen; omega) (by omega) (by omega) w.heap.size rfl ?_)
      intro gg cap w1 hown1 hgrow hat hlt
      have HW := Px.hid (And.intro hown1 (And.intro hgrow hat))
      clear hown1 hgrow hat
      go_wp2
      go_ret3
      rw [HE.out]
      obtain ⟨h1, h2, h3⟩ := HW.out
      refine ⟨.slice (some ⟨gg, 0, none⟩) f.out.length cap, rfl, ?_, (Fr.refl _ w).grown h2 (fun k e => by simp [Value.ownBlock] at e), fun k hk => ?_⟩
      · unfold Owns
        simpa using h1
      · simp only [Value.ownBlock, Option.some.injEq] at hk
        subst hk
        rcases h3 with e | e
        · simp [Value.ownBlock] at e
        · omega
    · have hn2 : (f.next != 3) = true := by simp [hn]
      have HE := Px.hid (show Cf.End f = ([], (f.text.length : Int), 9) by simp [Cf.End, he2, hn2])
      obtain ⟨ta, tc, htv, _⟩ := h.text.len
      have c4 : w.cell? ⟨b, 4, none⟩ = some (.slice ta f.text.length tc) := by rw [← htv]; exact cellOf h.blk 4 rfl
      clear he hn htv h
      go_enter Tryd.func19, Tryd.ntmps19
      go_wp2_with fail
      go_quiet (fail)
      go_wp2
      go_ret3
      rw [HE.out]
      exact ⟨_, rfl, owns_nil _ _ _ _, (Fr.refl _ w).drewN nq, fun k hk => by simp [Value.ownBlock] at hk⟩
  · have he2 : (f.err != 0) = true := by simp [he]
    have HE := Px.hid (show Cf.End f = ([], f.at_, f.err) by simp [Cf.End, he2])
    clear he h
    go_enter Tryd.func19, Tryd.ntmps19
    go_wp2_with fail
    go_quiet (fail)
    go_wp2
    go_ret3
    rw [HE.out]
    exact ⟨_, rfl, owns_nil _ _ _ _, (Fr.refl _ w).drewN nq, fun k hk => by simp [Value.ownBlock] at hk⟩
end Go.Proofs.YtclbbfmpkhfigaaDoor

/-! The walks over the statements' own helpers of layer 20: Most, wakes; and over CborfeedNil. -/
namespace Go.Proofs.YtclbbfmpkhfigaaDoor
open Go.RowKit Go.Px Go.Px.Cf

def most : Lim := ⟨32, 4096, 262144, 4096⟩
theorem most_any (w : World) : Calls Tryd.prog 28 #[] w fun e w' => e = .returned (limV most) ∧ Same w w' := by
  go_enter Tryd.func28, Tryd.ntmps28
  go_wp2
  exact bodyPost_ret (v := limV most) (by simp [results, Tryd.results28, go_sem, limV, most]) rfl ⟨rfl, (Fr.refl _ w).alloc _⟩

theorem Fr.toSame {F : Nat → Prop} {w w' : World} (h : Fr F w w') (hF : ∀ k, F k → w.heap.size ≤ k) : Same w w' :=
  ⟨h.os, h.tape, h.output, h.size, fun k hk _ => h.block k hk (fun x => by have := hF k x; omega)⟩

/-- A feed of the call's own: it lies in blocks that are newer than w. -/
def Own (w w' : World) (b : Nat) (f : Feed) : Prop := ∃ F, FeedAt w' b f F ∧ FeedOk f ∧ Same w w' ∧ (∀ k, F k → w.heap.size ≤ k)

theorem Own.write {w w1 : World} {b : Nat} {f : Feed} (h : Own w w1 b f) (hw : 2 ≤ w.heap.size) (hT : Tabs w) (s : List UInt8) (hs : s.length ≤ maxLen) :
    Calls Tryd.prog 17 #[.pointer (some ⟨b, 0, none⟩), S s] w1 fun r w' => r = .returned (.int .i64 (Cf.write f s).err) ∧ Own w w' b (Cf.write f s) := by
  obtain ⟨F, h1, h2, h3, h4⟩ := h
  refine (write_any b f s F w1 h1 h2 hs (fun k hk => Nat.le_trans hw (h4 k hk)) (hT.same h3)).mono ?_
  rintro e w' ⟨rfl, F', g1, g2, g3, g4⟩
  have hf : ∀ k, F' k → w.heap.size ≤ k := fun k hk => by rcases g3 k hk with x | x; exact h4 k x; exact Nat.le_trans h3.size x
  exact ⟨rfl, F', g1, g4, Fr.toSame ((h3.fr F).trans g2 (fun _ _ x => x)) h4, hf⟩
theorem feedOk_out {f : Feed} (h : FeedOk f) : (f.err = 0 → f.next = 3 → f.out ≠ []) ∧ (f.err = 0 → f.out.length ≤ 1000000) ∧ f.lim.b ≠ 0 := by
  have hm := may_of h.1
  refine ⟨fun he hn => ?_, fun he => ?_, by omega⟩
  · rcases (h.2 he).next with x | ⟨x, _⟩ | ⟨x, _⟩ | ⟨_, _, x⟩
    · omega
    · omega
    · omega
    · exact x
  · have := (h.2 he).out; have := (h.2 he).len; omega
theorem end_err (b : Nat) (f : Feed) (F : Nat → Prop) (w : World) (h : FeedAt w b f F) (hok : FeedOk f) :
    Calls Tryd.prog 19 #[.pointer (some ⟨b, 0, none⟩)] w fun e w' => ∃ v, e = .returned (.tuple #[v, .int .i64 (Cf.End f).2.1, .int .i64 (Cf.End f).2.2]) ∧ Owns w' 72 3 cAtom v (Cf.End f).1 ∧ Same w w' ∧ (∀ k, v.ownBlock = some k → w.heap.size ≤ k) := by
  obtain ⟨h1, h2, h3⟩ := feedOk_out hok
  by_cases he : f.err = 0
  · exact end_any b f F w h h3 (h2 he) h1
  · obtain ⟨vt, vo, vs, h, rfl⟩ := h
    have h0 : (f.lim.b == 0) = false := by simpa using h3
    have c2 : w.cell? ⟨b, 2, none⟩ = some (.int .i64 f.lim.b) := cellOf h.blk 2 rfl
    have c13 : w.cell? ⟨b, 13, none⟩ = some (.int .i64 f.err) := cellOf h.blk 13 rfl
    have c14 : w.cell? ⟨b, 14, none⟩ = some (.int .i64 f.at_) := cellOf h.blk 14 rfl
    have he2 : (f.err != 0) = true := by simp [he]
    have HE := Px.hid (show Cf.End f = ([], f.at_, f.err) by simp [Cf.End, he2])
    clear he h h1 h2 h3
    go_enter Tryd.func19, Tryd.ntmps19
    go_wp2_with fail
    go_quiet (fail)
    go_wp2
    go_ret3
    rw [HE.out]
    exact ⟨_, rfl, owns_nil _ _ _ _, (Fr.refl _ w).drewN nq, fun k hk => by simp [Value.ownBlock] at hk⟩
theorem Own.ends {w w1 : World} {b : Nat} {f : Feed} (h : Own w w1 b f) :
    Calls Tryd.prog 19 #[.pointer (some ⟨b, 0, none⟩)] w1 fun e w' => ∃ v, e = .returned (.tuple #[v, .int .i64 (Cf.End f).2.1, .int .i64 (Cf.End f).2.2]) ∧ Owns w' 72 3 cAtom v (Cf.End f).1 ∧ Same w1 w' ∧ (∀ k, v.ownBlock = some k → w1.heap.size ≤ k) := by
  obtain ⟨F, h1, h2, h3, h4⟩ := h
  exact end_err b f F w1 h1 h2
theorem Own.same {w w1 w2 : World} {b : Nat} {f : Feed} (h : Own w w1 b f) (hs : Same w1 w2) : Own w w2 b f := by
  obtain ⟨F, h1, h2, h3, h4⟩ := h
  exact ⟨F, h1.same hs, h2, h3.trans hs, h4⟩
theorem Own.state {w w1 : World} {b : Nat} {f : Feed} (h : Own w w1 b f) :
    Calls Tryd.prog 21 #[.pointer (some ⟨b, 0, none⟩)] w1 fun e w' => e = .returned (.tuple #[.int .i64 f.text.length, .int .i64 f.stack.length]) ∧ Same w1 w' := by
  obtain ⟨F, h1, h2, h3, h4⟩ := h
  exact state_any b f F w1 h1
theorem init_ok {l : Lim} (h : l.may = true) : FeedOk (Cf.init l) :=
  ⟨h, fun _ => ⟨h, rfl, by have := may_of h; show ((0 : Nat) : Int) ≤ l.b; omega, fun x hx => by simp [Cf.init] at hx, Nat.le_refl _, by have := may_of h; show ((0 : Nat) : Int) ≤ l.d; omega, .inl rfl⟩⟩
theorem Own.new {w w1 : World} {l : Lim} (hs : Same w w1) (hm : l.may = true) :
    Calls Tryd.prog 15 #[limV l] w1 fun e w' => ∃ b, e = .returned (.tuple #[.pointer (some ⟨b, 0, none⟩), .int .i64 0]) ∧ Own w w' b (Cf.init l) ∧ Same w1 w' ∧ w1.heap.size ≤ b := by
  refine (new_yes l w1 hm).mono ?_
  rintro e w' ⟨b, rfl, h1, h2, h3⟩
  exact ⟨b, rfl, ⟨_, h3, init_ok hm, hs.trans h1, fun k hk => by subst hk; exact Nat.le_trans hs.size h2⟩, h1, h2⟩

def wakeS : List UInt8 := [130, 1, 65, 97]
theorem wake_slice (k : Nat) (c : UInt8) (hc : wakeS[k]? = some c) (w : World) :
    (Instr.slice 9 (.string ⟨#[130, 1, 65, 97]⟩) (some (.int .i64 (k : Int))) (some (.int .i64 ((k : Int) + 1))) none).run Tryd.prog w = .ok (S [c]) w := by
  have hk : k < 4 := (List.getElem?_eq_some_iff.1 hc).1
  have e : (⟨#[130, 1, 65, 97]⟩ : ByteArray) = ⟨wakeS.toArray⟩ := rfl
  rw [e, run_slice_string w _ _ _ _ _ _ Tryd.underlying9 (by omega) (by omega) (by rw [size_S]; show _ ≤ ((4 : Nat) : Int); omega), ByteArray.extract_mk]
  have e1 : ((k : Int)).toNat = k := by omega
  have e2 : ((k : Int) + 1).toNat = k + 1 := by omega
  rw [e1, e2]
  have : (wakeS.drop k).take (k + 1 - k) = [c] := by
    have h4 : k = 0 ∨ k = 1 ∨ k = 2 ∨ k = 3 := by omega
    rcases h4 with rfl | rfl | rfl | rfl <;> (cases hc; rfl)
  rw [this]
theorem wake_err : ∀ k, k ≤ 4 → (Cf.write (Cf.init most) (wakeS.take k)).err = 0 := by
  intro k hk
  have h4 : k = 0 ∨ k = 1 ∨ k = 2 ∨ k = 3 ∨ k = 4 := by omega
  rcases h4 with rfl | rfl | rfl | rfl | rfl <;> decide +kernel
theorem wake_end : (Cf.End (Cf.write (Cf.init most) wakeS)).2 = (0, 0) ∧ (Cf.End (Cf.write (Cf.init most) wakeS)).1.length = 3 ∧ (Cf.write (Cf.init most) wakeS).text.length = 4 ∧ (Cf.write (Cf.init most) wakeS).stack.length = 0 := by
  decide +kernel
theorem most_may : most.may = true := by decide

set_option maxRecDepth 100000 in
set_option maxHeartbeats 2000000 in
theorem wakes_any (w : World) (hT : Tabs w) (hw : 2 ≤ w.heap.size) : Calls Tryd.prog 14 #[] w fun e w' => e = .returned (.bool true) ∧ Same w w' := by
  have HT := Px.hid hT
  clear hT
  go_enter Tryd.func14, Tryd.ntmps14
  go_wp2_with fail
  refine (most_any _).mono ?_
  rintro e w1 ⟨rfl, hs1⟩
  have H1 := Px.hid hs1
  clear hs1
  go_wp2_with fail
  refine (Own.new H1.out most_may).mono ?_
  rintro e w2 ⟨b, rfl, ho, hs, hb⟩
  have H2 := Px.hid ho
  clear ho hs
  go_wp2
  go_loopw [23] (fun i wr => ∃ k : Nat, k ≤ 4 ∧ i = .int .i64 k ∧ Own w wr b (Cf.write (Cf.init most) (wakeS.take k))) (fun i _ => 4 - (intOf i).toNat)
  case atStart => exact ⟨0, by omega, rfl, H2.out⟩
  case round =>
    obtain ⟨k, hk, rfl, ho⟩ := hrel
    have HO := Px.hid ho
    clear ho H1 H2
    by_cases hlt : k < 4
    · have hlt' : (k : Int) < 4 := by omega
      obtain ⟨c, hc⟩ : ∃ c, wakeS[k]? = some c := ⟨_, List.getElem?_eq_getElem (show k < wakeS.length from hlt)⟩
      have hsl := wake_slice k c hc
      have HC := Px.hid (And.intro hc hlt)
      clear hc hlt
      go_wp2_with fail
      refine (HO.out.write hw HT.out [c] (by unfold maxLen; simp)).mono ?_
      rintro e w' ⟨rfl, ho⟩
      have e1 : Cf.write (Cf.write (Cf.init most) (wakeS.take k)) [c] = Cf.write (Cf.init most) (wakeS.take (k + 1)) := by
        rw [← Cf.write_append, List.take_add_one, HC.out.1]; rfl
      rw [e1] at ho ⊢
      rw [wake_err (k + 1) (by have := HC.out.2; omega)]
      have HO2 := Px.hid ho
      clear ho e1
      go_wp2
      go_roundw
      case rel => exact ⟨k + 1, by have := HC.out.2; omega, by go_num, HO2.out⟩
      case measure => simp [intOf]; have := HC.out.2; omega
    · have hlt' : ¬ (k : Int) < 4 := by omega
      have hk4 : k = 4 := by omega
      subst hk4
      obtain ⟨we, wl, wt, wk⟩ := wake_end
      have ets : wakeS.take 4 = wakeS := rfl
      have HO3 := Px.hid HO.out
      rw [ets] at HO3
      have HW := Px.hid (And.intro we (And.intro wl (And.intro wt wk)))
      clear we wl wt wk ets hlt hlt' HO hk
      go_wp2_with fail
      refine HO3.out.ends.mono ?_
      rintro e w3 ⟨v, rfl, hv, hs3, hvf⟩
      obtain ⟨va, vc, hvl, _⟩ := hv.len
      have HO4 := Px.hid (HO3.out.same hs3)
      rw [HW.out.2.1] at hvl
      subst hvl
      rw [HW.out.1]
      clear hv hs3 hvf HO3
      go_wp2_with fail
      refine HO4.out.state.mono ?_
      rintro e w4 ⟨rfl, hs4⟩
      have HO5 := Px.hid (HO4.out.same hs4)
      clear hs4
      rw [HW.out.2.2.1, HW.out.2.2.2]
      go_wp2
      go_ret
      obtain ⟨_, _, _, hs, _⟩ := HO5.out
      exact ⟨rfl, hs⟩
end Go.Proofs.YtclbbfmpkhfigaaDoor

/-! The walks over the statements CborfeedNil and CborfeedStops. -/
namespace Go.Proofs.YtclbbfmpkhfigaaDoor
open Go.RowKit Go.Px Go.Px.Cf

theorem zero_at {b : Nat} (w : World) (h : w.heap[b]? = some (.cells (feedCells (Cf.init ⟨0, 0, 0, 0⟩) (.slice none 0 0) (.slice none 0 0) (.slice none 0 0)) 48 (0, 0))) : FeedAt w b (Cf.init ⟨0, 0, 0, 0⟩) (fun k => k = b) := by
  refine ⟨.slice none 0 0, .slice none 0 0, .slice none 0 0, ⟨h, owns_nil _ _ _ _, owns_nil _ _ _ _, owns_nil _ _ _ _, ?_, ?_, ?_, ?_, ?_, ?_⟩, ?_⟩
  · intro k hk; simp [Value.ownBlock] at hk
  · intro k hk; simp [Value.ownBlock] at hk
  · intro k hk; simp [Value.ownBlock] at hk
  · intro k hk; simp [Value.ownBlock] at hk
  · intro k hk; simp [Value.ownBlock] at hk
  · intro k hk; simp [Value.ownBlock] at hk
  · funext k; simp [foot, Value.ownBlock]

/-- What a feed made of nothing reads as, as long as nothing of it has changed. -/
def Zero (w0 w : World) (b : Nat) : Prop := Same w0 w ∧ w.heap[b]? = some (.cells (feedCells (Cf.init ⟨0, 0, 0, 0⟩) (.slice none 0 0) (.slice none 0 0) (.slice none 0 0)) 48 (0, 0))
theorem Zero.same {w0 w w' : World} {b : Nat} (h : Zero w0 w b) (hs : Same w w') : Zero w0 w' b := ⟨h.1.trans hs, (hs.block b (ltOf h.2) (fun x => x)).trans h.2⟩
theorem Zero.cell {w0 w : World} {b : Nat} (h : Zero w0 w b) : w.cell? ⟨b, 2, none⟩ = some (.int .i64 0) := cellOf h.2 2 rfl
theorem Zero.at {w0 w : World} {b : Nat} (h : Zero w0 w b) : FeedAt w b (Cf.init ⟨0, 0, 0, 0⟩) (fun k => k = b) := zero_at w h.2
theorem state_zero {w0 : World} (b : Nat) (w : World) (h : Zero w0 w b) : Calls Tryd.prog 21 #[.pointer (some ⟨b, 0, none⟩)] w fun e w' => e = .returned (.tuple #[.int .i64 0, .int .i64 0]) ∧ Same w w' := state_any b _ _ w h.at
/-- A block that holds limits. -/
def limObj (l : Lim) : Obj := .cells #[.int .i64 l.d, .int .i64 l.i, .int .i64 l.b, .int .i64 l.r] 24 (0, 0)
def LimIn (w0 w : World) (b : Nat) (l : Lim) : Prop := Same w0 w ∧ w.heap[b]? = some (limObj l)
theorem LimIn.same {w0 w w' : World} {b : Nat} {l : Lim} (h : LimIn w0 w b l) (hs : Same w w') : LimIn w0 w' b l := ⟨h.1.trans hs, (hs.block b (ltOf h.2) (fun x => x)).trans h.2⟩
theorem LimIn.boxed (w : World) (l : Lim) : LimIn w (w.alloc (.cells #[.int .i64 l.d, .int .i64 l.i, .int .i64 l.b, .int .i64 l.r] 24 (0, 0))) w.heap.size l := ⟨(Fr.refl _ w).alloc _, heap_alloc_new w _⟩
theorem LimIn.cells {w0 w : World} {b : Nat} {l : Lim} (h : LimIn w0 w b l) : w.cell? ⟨b, 0, none⟩ = some (.int .i64 l.d) ∧ w.cell? ⟨b, 1, none⟩ = some (.int .i64 l.i) ∧ w.cell? ⟨b, 2, none⟩ = some (.int .i64 l.b) ∧ w.cell? ⟨b, 3, none⟩ = some (.int .i64 l.r) :=
  ⟨cellOf h.2 0 rfl, cellOf h.2 1 rfl, cellOf h.2 2 rfl, cellOf h.2 3 rfl⟩
theorem Tabs.lim {w w' : World} {b : Nat} {l : Lim} (h : Tabs w) (hz : LimIn w w' b l) : Tabs w' := h.same hz.1
theorem Tabs.two {w : World} (h : Tabs w) : 2 ≤ w.heap.size := by
  have h1 := World.block_lt_of_cell? w _ (h.2 0 (by omega)).1
  simp only at h1
  omega
theorem Tabs.zero {w w' : World} {b : Nat} (h : Tabs w) (hz : Zero w w' b) : Tabs w' := h.same hz.1

set_option maxRecDepth 100000 in
set_option maxHeartbeats 2000000 in
theorem law_CborfeedNil (s : List UInt8) (w : World) (_ : s.length ≤ maxLen) (hT : Tabs w) :
    Calls Tryd.prog 6 #[S s] w fun e w' => e = .returned (.bool true) ∧ Below w.heap.size w w' := by
  have HT := Px.hid hT
  clear hT
  go_enter Tryd.func6, Tryd.ntmps6
  go_wp2_with fail
  have HZ := Px.hid (show Zero w (w.alloc _) w.heap.size from ⟨(Fr.refl _ w).alloc _, heap_alloc_new w _⟩)
  refine (end_nil _).mono ?_
  rintro e w1 ⟨rfl, hs⟩
  have HZ := Px.hid (HZ.out.same hs)
  clear hs
  go_wp2_with fail
  refine (end_zero _ _ HZ.out.cell).mono ?_
  rintro e w2 ⟨rfl, hs⟩
  have HZ := Px.hid (HZ.out.same hs)
  clear hs
  go_wp2_with fail
  refine (state_nil _).mono ?_
  rintro e w3 ⟨rfl, hs⟩
  have HZ := Px.hid (HZ.out.same hs)
  clear hs
  go_wp2_with fail
  refine (state_zero _ _ HZ.out).mono ?_
  rintro e w4 ⟨rfl, hs⟩
  have HZ := Px.hid (HZ.out.same hs)
  clear hs
  go_wp2_with fail
  refine (wakes_any _ (HT.out.zero HZ.out) (HT.out.zero HZ.out).two).mono ?_
  rintro e w5 ⟨rfl, hs⟩
  have HZ := Px.hid (HZ.out.same hs)
  clear hs
  go_wp2_with fail
  refine (write_nil s _).mono ?_
  rintro e w6 ⟨rfl, hs⟩
  have HZ := Px.hid (HZ.out.same hs)
  clear hs
  go_wp2_with fail
  refine (write_zero _ s _ HZ.out.cell).mono ?_
  rintro e w7 ⟨rfl, hs⟩
  have HZ := Px.hid (HZ.out.same hs)
  clear hs
  go_wp2
  go_ret
  exact ⟨rfl, HZ.out.1.below⟩

theorem end_told (f : Feed) (h : f.err ≠ 0) : Cf.End f = ([], f.at_, f.err) := by simp [Cf.End, h]

set_option maxRecDepth 100000 in
set_option maxHeartbeats 2000000 in
theorem law_CborfeedStops (s more : List UInt8) (l : Lim) (w : World) (hs : s.length ≤ maxLen) (hm : more.length ≤ maxLen) (hT : Tabs w) :
    Calls Tryd.prog 5 #[S s, S more, limV l] w fun e w' => e = .returned (.bool true) ∧ Below w.heap.size w w' := by
  have HT := Px.hid hT
  have HS := Px.hid (And.intro hs hm)
  clear hT hs hm
  unfold limV
  go_enter Tryd.func5, Tryd.ntmps5
  go_wp2_with fail
  have HL := Px.hid (LimIn.boxed w l)
  refine (wakes_any _ (HT.out.lim HL.out) (HT.out.lim HL.out).two).mono ?_
  rintro e w1 ⟨rfl, hs⟩
  have HL := Px.hid (HL.out.same hs)
  clear hs
  obtain ⟨c0, c1, c2, c3⟩ := HL.out.cells
  cases hm : l.may
  · have HM := Px.hid hm
    clear hm
    go_wp2_with fail
    refine (new_no l _ HM.out).mono ?_
    rintro e w2 ⟨rfl, hs⟩
    have HL := Px.hid (HL.out.same hs)
    clear hs c0 c1 c2 c3
    obtain ⟨c0, c1, c2, c3⟩ := HL.out.cells
    go_wp2_with fail
    refine (refMay_any l _).mono ?_
    rintro e w3 ⟨rfl, hs⟩
    have HL := Px.hid (HL.out.same hs)
    clear hs
    rw [HM.out]
    go_wp2
    go_ret
    exact ⟨rfl, HL.out.1.below⟩
  · have HM := Px.hid hm
    clear hm
    go_wp2_with fail
    refine (Own.new HL.out.1 HM.out).mono ?_
    rintro e w2 ⟨b, rfl, ho, hs, hb⟩
    have HO := Px.hid ho
    clear ho hs hb
    go_wp2_with fail
    refine (HO.out.write HT.out.two HT.out s HS.out.1).mono ?_
    rintro e w3 ⟨rfl, ho⟩
    have HO := Px.hid ho
    clear ho
    by_cases he : (Cf.write (Cf.init l) s).err = 0
    · have hw : Cf.write (Cf.write (Cf.init l) s) [] = Cf.write (Cf.init l) s := rfl
      rw [he]
      have HE := Px.hid (And.intro he hw)
      clear he hw
      go_wp2_with fail
      refine (HO.out.write HT.out.two HT.out [] (Nat.zero_le _)).mono ?_
      rintro e w4 ⟨rfl, ho⟩
      rw [HE.out.2] at ho ⊢
      rw [HE.out.1]
      have HO := Px.hid ho
      clear ho
      go_wp2
      go_ret
      obtain ⟨_, _, _, hs, _⟩ := HO.out
      exact ⟨rfl, hs.below⟩
    · obtain ⟨g, hg⟩ : ∃ g, g = Cf.write (Cf.init l) s := ⟨_, rfl⟩
      have he' : (g.err == 0) = false := by rw [hg]; simpa using he
      rw [← hg] at HO he ⊢
      have HE := Px.hid he
      clear he hg
      go_wp2_with fail
      refine HO.out.ends.mono ?_
      rintro e w4 ⟨v, rfl, hv, hs, hvf⟩
      rw [end_told g HE.out]
      have HO := Px.hid (HO.out.same hs)
      clear hv hs hvf
      go_wp2_with fail
      refine HO.out.state.mono ?_
      rintro e w5 ⟨rfl, hs⟩
      have HO := Px.hid (HO.out.same hs)
      clear hs
      go_wp2_with fail
      refine (HO.out.write HT.out.two HT.out more HS.out.2).mono ?_
      rintro e w6 ⟨rfl, ho⟩
      rw [Cf.write_err _ HE.out] at ho ⊢
      have HO := Px.hid ho
      clear ho
      go_wp2_with fail
      refine HO.out.ends.mono ?_
      rintro e w7 ⟨v2, rfl, hv, hs, hvf⟩
      rw [end_told g HE.out] at hv ⊢
      obtain ⟨va, vc, hvl, _⟩ := hv.len
      simp only [List.length_nil] at hvl
      subst hvl
      have HO := Px.hid (HO.out.same hs)
      clear hv hs hvf
      go_wp2_with fail
      refine HO.out.state.mono ?_
      rintro e w8 ⟨rfl, hs⟩
      have HO := Px.hid (HO.out.same hs)
      clear hs
      go_wp2
      go_ret
      obtain ⟨_, _, _, hs, _⟩ := HO.out
      exact ⟨rfl, hs.below⟩
end Go.Proofs.YtclbbfmpkhfigaaDoor
