/-
  Several texts in one: The walk over jsonfeed's structure inside an object, case by case (printed by gen_yi.py). The walk over jsonfeed's structure: blanks; structure, whole.
-/
import Derived.Test.YtahojodgmjmpnaaSB
/-! The walk over jsonfeed's structure inside an object, case by case (printed by gen_yi.py). -/
namespace Go.Proofs.Ytahojodgmjmpnaa
open Go.RowKit Go.Px
set_option maxRecDepth 100000 in
set_option maxHeartbeats 4000000 in
theorem st_t0_end (b : Nat) (f : J6.Feed) (F : Nat → Prop) (w : World) (h : FeedAt w b f F) (hok : J6.OkK 0 f) (hn1 : 1 ≤ f.n) (hnow : f.now = .none) (ho : J6.object f = true) (hnx : f.next = 0) :
    Calls Try.prog 28 #[.pointer (some ⟨b, 0, none⟩), .int .u8 125] w fun r w' => r = .returned (.tuple #[]) ∧ After w w' b (J6.value f 125) F := by
  have hV : ∀ w : World, FeedAt w b f F → Calls Try.prog 41 #[.pointer (some ⟨b, 0, none⟩), .int .u8 125] w fun r w' => r = .returned (.tuple #[]) ∧ After w w' b (J6.value f 125) F := fun w h => by
    have := value_any b 125 f F w h hok hn1 hnow
    exact this
  have hob := object_ok b f F hok w h
  rw [ho] at hob
  have HW := Px.hid (wrap_n hok hn1)
  have HFA := Px.hid h
  have HOB := Px.hid hob
  have HV := Px.hid hV
  have hb : b < w.heap.size := h.lt b h.own
  have HNX := Px.hid hnx
  clear h hok hn1 hnow ho hob hV hnx
  go_enter Try.func28, Try.ntmps28
  go_wp2_with fail
  refine HOB.out.mono ?_
  rintro e w1 ⟨rfl, hS1⟩
  have HS := Px.hid hS1
  have HFA1 := Px.hid (HFA.out.same hS1)
  have hb1 : b < w1.heap.size := by have := hS1.size; omega
  have c7 : w1.cell? ⟨b, 7, none⟩ = some (.int .i64 0) := by have := HFA1.out.c7.1; rw [HNX.out] at this; exact this
  have f7 : w1.frozen? ⟨b, 7, none⟩ = false := HFA1.out.c7.2.1
  have c4 : w1.cell? ⟨b, 4, none⟩ = some (.int .i64 (f.n : Nat)) := HFA1.out.c7.2.2
  have hw4 := HW.out
  clear hS1
  go_wp2_with fail
  refine (HV.out _ HFA1.out).mono ?_
  rintro e w2 ⟨rfl, hA⟩
  have HA := Px.hid (After.ofFr (HS.out.fr F) hA)
  clear hA
  go_wp2
  go_end0
  exact ⟨rfl, HA.out⟩
set_option maxRecDepth 100000 in
set_option maxHeartbeats 4000000 in
theorem st_t0_on (b : Nat) (c : UInt8) (z : Nat) (hz : z = c.toNat) (b1 : z ≠ 32) (b2 : z ≠ 9) (b3 : z ≠ 10) (b4 : z ≠ 13) (b5 : z ≠ 125) (f : J6.Feed) (F : Nat → Prop) (w : World) (h : FeedAt w b f F) (hok : J6.OkK 0 f) (hn1 : 1 ≤ f.n) (hnow : f.now = .none) (ho : J6.object f = true) (hnx : f.next = 0) :
    Calls Try.prog 28 #[.pointer (some ⟨b, 0, none⟩), .int .u8 (z : Nat)] w fun r w' => r = .returned (.tuple #[]) ∧ After w w' b (J6.value f c) F := by
  have e1 : ((z : Int) == 32) = false := by simp; omega
  have e2 : ((z : Int) == 9) = false := by simp; omega
  have e3 : ((z : Int) == 10) = false := by simp; omega
  have e4 : ((z : Int) == 13) = false := by simp; omega
  have e5 : ((z : Int) == 125) = false := by simp; omega
  have hV : ∀ w : World, FeedAt w b f F → Calls Try.prog 41 #[.pointer (some ⟨b, 0, none⟩), .int .u8 (z : Nat)] w fun r w' => r = .returned (.tuple #[]) ∧ After w w' b (J6.value f c) F := fun w h => by
    rw [hz]; have := value_any b c f F w h hok hn1 hnow
    exact this
  have hob := object_ok b f F hok w h
  rw [ho] at hob
  have HW := Px.hid (wrap_n hok hn1)
  have HFA := Px.hid h
  have HOB := Px.hid hob
  have HV := Px.hid hV
  have hb : b < w.heap.size := h.lt b h.own
  have HNX := Px.hid hnx
  clear h hok hn1 hnow ho hob hV hnx hz b1 b2 b3 b4 b5
  go_enter Try.func28, Try.ntmps28
  go_wp2_with fail
  refine HOB.out.mono ?_
  rintro e w1 ⟨rfl, hS1⟩
  have HS := Px.hid hS1
  have HFA1 := Px.hid (HFA.out.same hS1)
  have hb1 : b < w1.heap.size := by have := hS1.size; omega
  have c7 : w1.cell? ⟨b, 7, none⟩ = some (.int .i64 0) := by have := HFA1.out.c7.1; rw [HNX.out] at this; exact this
  have f7 : w1.frozen? ⟨b, 7, none⟩ = false := HFA1.out.c7.2.1
  have c4 : w1.cell? ⟨b, 4, none⟩ = some (.int .i64 (f.n : Nat)) := HFA1.out.c7.2.2
  have hw4 := HW.out
  clear hS1
  go_wp2_with fail
  refine (HV.out _ HFA1.out).mono ?_
  rintro e w2 ⟨rfl, hA⟩
  have HA := Px.hid (After.ofFr (HS.out.fr F) hA)
  clear hA
  go_wp2
  go_end0
  exact ⟨rfl, HA.out⟩
set_option maxRecDepth 100000 in
set_option maxHeartbeats 4000000 in
theorem st_t1_end (b : Nat) (f : J6.Feed) (F : Nat → Prop) (w : World) (h : FeedAt w b f F) (hok : J6.OkK 0 f) (hn1 : 1 ≤ f.n) (ho : J6.object f = true) (hnx : f.next = 1) :
    Calls Try.prog 28 #[.pointer (some ⟨b, 0, none⟩), .int .u8 125] w fun r w' => r = .returned (.tuple #[]) ∧ After w w' b (J6.over { f with stack := f.stack.tail }) F := by
  have hm := J6.may_parts6 hok.may
  have hsd := hok.sd
  have hsl : f.stack.length ≤ 32 := by omega
  have hne := hok.st (by omega) (by omega)
  have hV := fun F1 => over_ok b { f with stack := f.stack.tail } F1 (by show f.stack.tail.length ≤ 32; simp; omega)
  have HNE := Px.hid (And.intro hne hsl)
  clear hm hsd hsl hne
  have hob := object_ok b f F hok w h
  rw [ho] at hob
  have HW := Px.hid (wrap_n hok hn1)
  have HFA := Px.hid h
  have HOB := Px.hid hob
  have HV := Px.hid hV
  have hb : b < w.heap.size := h.lt b h.own
  have HNX := Px.hid hnx
  clear h hok hn1 ho hob hV hnx
  go_enter Try.func28, Try.ntmps28
  go_wp2_with fail
  refine HOB.out.mono ?_
  rintro e w1 ⟨rfl, hS1⟩
  have HS := Px.hid hS1
  have HFA1 := Px.hid (HFA.out.same hS1)
  have hb1 : b < w1.heap.size := by have := hS1.size; omega
  have c7 : w1.cell? ⟨b, 7, none⟩ = some (.int .i64 1) := by have := HFA1.out.c7.1; rw [HNX.out] at this; exact this
  have f7 : w1.frozen? ⟨b, 7, none⟩ = false := HFA1.out.c7.2.1
  have c4 : w1.cell? ⟨b, 4, none⟩ = some (.int .i64 (f.n : Nat)) := HFA1.out.c7.2.2
  have hw4 := HW.out
  clear hS1
  obtain ⟨vo, vs, tv, tb, ps, h1, hF⟩ := HFA1.out
  obtain ⟨x, rest, hst⟩ : ∃ x rest, f.stack = x :: rest := by
    cases hs : f.stack with
    | nil => exact absurd hs HNE.out.1
    | cons x r => exact ⟨x, r, rfl⟩
  obtain ⟨vn, ps2, hps, hm, g, cap', hsv, hc1, hc2, k0, k1, k2, kf⟩ := h1.top hst
  subst hps
  subst hsv
  have hlt1 : b < w1.heap.size := h1.lt
  have c6 : w1.cell? ⟨b, 6, none⟩ = some (.slice (some ⟨g, 0, none⟩) (ps2.length + 1) cap') := cellOf h1.blk 6 rfl
  have f6 := h1.free 6
  have hpl : ps2.length ≤ 32 := by have h2 := congrArg List.length hm; rw [List.length_map] at h2; have h3 := HNE.out.2; rw [hst] at h3; simp at h3; omega
  have htl : f.stack.tail = ps2.map Prod.fst := by rw [hst, hm]; rfl
  have H1 := Px.hid (And.intro h1 (And.intro hF htl))
  unfold maxLen at hc2
  clear h1 hF hst hm k0 k1 k2 kf htl
  go_upto_region 6 with fail
  go_region
  have hP : After w1 ((w1.setCell ⟨b, 6, none⟩ (.slice (some ⟨g, 0, none⟩) ps2.length cap')).drew) b { f with stack := f.stack.tail } F := by
    rw [H1.out.2.2, H1.out.2.1]
    exact ⟨_, ⟨_, _, _, _, _, H1.out.1.pop.drew, rfl⟩, ((Fr.refl _ _).setCell (p := ⟨b, 6, none⟩) (.inl (.inl rfl)) _).drew, Fresh.foot (fun _ e => .inl (blocks_pop e))⟩
  obtain ⟨F2, hF2, hfr2, hfn2⟩ := hP
  have HP := Px.hid (And.intro hF2 (And.intro hfr2 hfn2))
  obtain ⟨WP, hWP⟩ : ∃ WP, WP = (w1.setCell ⟨b, 6, none⟩ (.slice (some ⟨g, 0, none⟩) ps2.length cap')).drew := ⟨_, rfl⟩
  rw [← hWP] at HP ⊢
  clear hWP hF2 hfr2 hfn2 c6 f6
  go_wp2_with fail
  refine (HV.out F2 WP HP.out.1).mono ?_
  rintro e w2 ⟨rfl, hA⟩
  obtain ⟨F3, a1, a2, a3⟩ := hA
  have HA := Px.hid (After.ofFr (HS.out.fr F) (show After w1 w2 b (J6.over { f with stack := f.stack.tail }) F from ⟨F3, a1, HP.out.2.1.step HP.out.2.2 a2, Fresh.trans HP.out.2.2 HP.out.2.1.size a3⟩))
  clear a1 a2 a3
  go_wp2
  go_end0
  exact ⟨rfl, HA.out⟩
set_option maxRecDepth 100000 in
set_option maxHeartbeats 4000000 in
theorem st_t1_on (b : Nat) (c : UInt8) (z : Nat) (hz : z = c.toNat) (b1 : z ≠ 32) (b2 : z ≠ 9) (b3 : z ≠ 10) (b4 : z ≠ 13) (b5 : z ≠ 125) (f : J6.Feed) (F : Nat → Prop) (w : World) (h : FeedAt w b f F) (hok : J6.OkK 0 f) (hn1 : 1 ≤ f.n) (hnow : f.now = .none) (ho : J6.object f = true) (hnx : f.next = 1) :
    Calls Try.prog 28 #[.pointer (some ⟨b, 0, none⟩), .int .u8 (z : Nat)] w fun r w' => r = .returned (.tuple #[]) ∧ After w w' b (J6.value f c) F := by
  have e1 : ((z : Int) == 32) = false := by simp; omega
  have e2 : ((z : Int) == 9) = false := by simp; omega
  have e3 : ((z : Int) == 10) = false := by simp; omega
  have e4 : ((z : Int) == 13) = false := by simp; omega
  have e5 : ((z : Int) == 125) = false := by simp; omega
  have hV : ∀ w : World, FeedAt w b f F → Calls Try.prog 41 #[.pointer (some ⟨b, 0, none⟩), .int .u8 (z : Nat)] w fun r w' => r = .returned (.tuple #[]) ∧ After w w' b (J6.value f c) F := fun w h => by
    rw [hz]; have := value_any b c f F w h hok hn1 hnow
    exact this
  have hob := object_ok b f F hok w h
  rw [ho] at hob
  have HW := Px.hid (wrap_n hok hn1)
  have HFA := Px.hid h
  have HOB := Px.hid hob
  have HV := Px.hid hV
  have hb : b < w.heap.size := h.lt b h.own
  have HNX := Px.hid hnx
  clear h hok hn1 hnow ho hob hV hnx hz b1 b2 b3 b4 b5
  go_enter Try.func28, Try.ntmps28
  go_wp2_with fail
  refine HOB.out.mono ?_
  rintro e w1 ⟨rfl, hS1⟩
  have HS := Px.hid hS1
  have HFA1 := Px.hid (HFA.out.same hS1)
  have hb1 : b < w1.heap.size := by have := hS1.size; omega
  have c7 : w1.cell? ⟨b, 7, none⟩ = some (.int .i64 1) := by have := HFA1.out.c7.1; rw [HNX.out] at this; exact this
  have f7 : w1.frozen? ⟨b, 7, none⟩ = false := HFA1.out.c7.2.1
  have c4 : w1.cell? ⟨b, 4, none⟩ = some (.int .i64 (f.n : Nat)) := HFA1.out.c7.2.2
  have hw4 := HW.out
  clear hS1
  go_wp2_with fail
  refine (HV.out _ HFA1.out).mono ?_
  rintro e w2 ⟨rfl, hA⟩
  have HA := Px.hid (After.ofFr (HS.out.fr F) hA)
  clear hA
  go_wp2
  go_end0
  exact ⟨rfl, HA.out⟩
set_option maxRecDepth 100000 in
set_option maxHeartbeats 4000000 in
theorem st_t2_end (b : Nat) (f : J6.Feed) (F : Nat → Prop) (w : World) (h : FeedAt w b f F) (hok : J6.OkK 0 f) (hn1 : 1 ≤ f.n) (ho : J6.object f = true) (hnx : f.next = 2) :
    Calls Try.prog 28 #[.pointer (some ⟨b, 0, none⟩), .int .u8 125] w fun r w' => r = .returned (.tuple #[]) ∧ After w w' b (J6.wrong f (f.n - 1 : Nat) 9) F := by
  have hV := wrong_here b 9 f F hn1
  have hob := object_ok b f F hok w h
  rw [ho] at hob
  have HW := Px.hid (wrap_n hok hn1)
  have HFA := Px.hid h
  have HOB := Px.hid hob
  have HV := Px.hid hV
  have hb : b < w.heap.size := h.lt b h.own
  have HNX := Px.hid hnx
  clear h hok hn1 ho hob hV hnx
  go_enter Try.func28, Try.ntmps28
  go_wp2_with fail
  refine HOB.out.mono ?_
  rintro e w1 ⟨rfl, hS1⟩
  have HS := Px.hid hS1
  have HFA1 := Px.hid (HFA.out.same hS1)
  have hb1 : b < w1.heap.size := by have := hS1.size; omega
  have c7 : w1.cell? ⟨b, 7, none⟩ = some (.int .i64 2) := by have := HFA1.out.c7.1; rw [HNX.out] at this; exact this
  have f7 : w1.frozen? ⟨b, 7, none⟩ = false := HFA1.out.c7.2.1
  have c4 : w1.cell? ⟨b, 4, none⟩ = some (.int .i64 (f.n : Nat)) := HFA1.out.c7.2.2
  have hw4 := HW.out
  clear hS1
  go_wp2_with fail
  refine (HV.out _ HFA1.out).mono ?_
  rintro e w2 ⟨rfl, hA⟩
  have HA := Px.hid (After.ofFr (HS.out.fr F) hA)
  clear hA
  go_wp2
  go_end0
  exact ⟨rfl, HA.out⟩
set_option maxRecDepth 100000 in
set_option maxHeartbeats 4000000 in
theorem st_t2_name (b : Nat) (f : J6.Feed) (F : Nat → Prop) (w : World) (h : FeedAt w b f F) (hok : J6.OkK 0 f) (hn1 : 1 ≤ f.n) (hnow : f.now = .none) (ho : J6.object f = true) (hnx : f.next = 2) :
    Calls Try.prog 28 #[.pointer (some ⟨b, 0, none⟩), .int .u8 34] w fun r w' => r = .returned (.tuple #[]) ∧ After w w' b (nameOn f (J6.one f ⟨4, 0, []⟩)) F := by
  have hV := one_ok b f ⟨4, 0, []⟩ F hok hn1
  have hkeep := hok.one ⟨4, 0, []⟩ rfl
  have hgn := hkeep.2.2.1
  have hgs := hkeep.2.2.2.2.2.1
  have hgk := hkeep.2.2.2.2.1
  have hm := J6.may_parts6 hok.may
  have hsd := hok.sd
  have hsl : f.stack.length ≤ 32 := by omega
  have hne := hok.st (by omega) (by omega)
  have hw1 := wrap_n hok hn1
  obtain ⟨⟨r1, g⟩, hres⟩ : ∃ r, J6.one f ⟨4, 0, []⟩ = r := ⟨_, rfl⟩
  simp only [hres] at hV hgn hgs hgk
  rw [hres]
  rw [hnow] at hgn
  have HK := Px.hid (And.intro hgn (And.intro hgs (And.intro hsl (And.intro hne (And.intro hgk hn1)))))
  clear hkeep hgn hgs hm hsd hsl hne hres hgk
  have hob := object_ok b f F hok w h
  rw [ho] at hob
  have HW := Px.hid (wrap_n hok hn1)
  have HFA := Px.hid h
  have HOB := Px.hid hob
  have HV := Px.hid hV
  have hb : b < w.heap.size := h.lt b h.own
  have HNX := Px.hid hnx
  clear h hok hn1 hnow ho hob hV hnx
  go_enter Try.func28, Try.ntmps28
  go_wp2_with fail
  refine HOB.out.mono ?_
  rintro e w1 ⟨rfl, hS1⟩
  have HS := Px.hid hS1
  have HFA1 := Px.hid (HFA.out.same hS1)
  have hb1 : b < w1.heap.size := by have := hS1.size; omega
  have c7 : w1.cell? ⟨b, 7, none⟩ = some (.int .i64 2) := by have := HFA1.out.c7.1; rw [HNX.out] at this; exact this
  have f7 : w1.frozen? ⟨b, 7, none⟩ = false := HFA1.out.c7.2.1
  have c4 : w1.cell? ⟨b, 4, none⟩ = some (.int .i64 (f.n : Nat)) := HFA1.out.c7.2.2
  have hw4 := HW.out
  clear hS1
  go_wp2_with fail
  refine (HV.out _ HFA1.out).mono ?_
  rintro e w2 ⟨rfl, hA⟩
  have HA := Px.hid (After.ofFr (HS.out.fr F) hA)
  clear hA
  cases r1 with
  | false =>
    go_wp2
    go_end0
    exact ⟨rfl, HA.out⟩
  | true =>
    obtain ⟨F2, hF2, hfr2, hfn2⟩ := HA.out
    obtain ⟨vo, vs, tv, tb, ps, h1, hF2e⟩ := hF2
    obtain ⟨x, rest, hst⟩ : ∃ x rest, g.stack = x :: rest := by
      cases hs : g.stack with
      | nil => exact absurd (HK.out.2.1.symm.trans hs) HK.out.2.2.2.1
      | cons x r => exact ⟨x, r, rfl⟩
    obtain ⟨vn, ps2, hps, hm, sg, cap', hsv, hc1, hc2, k0, k1, k2, kf⟩ := h1.top hst
    subst hps
    subst hsv
    have hlt1 : b < w2.heap.size := h1.lt
    have c6 : w2.cell? ⟨b, 6, none⟩ = some (.slice (some ⟨sg, 0, none⟩) (ps2.length + 1) cap') := cellOf h1.blk 6 rfl
    have c4' : w2.cell? ⟨b, 4, none⟩ = some (.int .i64 (f.n : Nat)) := by rw [← HK.out.2.2.2.2.1]; exact cellOf h1.blk 4 rfl
    have kf1 := kf (ps2.length * 3 + 1)
    have hpl : ps2.length ≤ 32 := by have h2 := congrArg List.length hm; rw [List.length_map] at h2; have h3 := HK.out.2.2.1; rw [← HK.out.2.1, hst] at h3; simp at h3; omega
    have HM := Px.hid (And.intro hst hm)
    have H1 := Px.hid (And.intro h1 (And.intro hF2e (And.intro hfr2 hfn2)))
    unfold maxLen at hc2
    clear h1 hF2e hst hm k0 k2 kf hfr2 hfn2
    go_upto_region 12 with fail
    go_region
    have hn1' : ((f.n - 1 : Nat) : Int) = (f.n : Int) - 1 := by have := HK.out.2.2.2.2.2; omega
    have hT : FeedRep (w2.setCell ⟨sg, ps2.length * 3 + 1, none⟩ (.int .i64 ((f.n : Int) - 1))) b { g with stack := { x with at_ := f.n - 1 } :: ps2.map Prod.fst } vo (.slice (some ⟨sg, 0, none⟩) (ps2.length + 1) cap') tv tb (({ x with at_ := f.n - 1 }, vn) :: ps2) :=
      H1.out.1.setTop (x' := { x with at_ := f.n - 1 }) 1 (.int .i64 ((f.n : Int) - 1)) (by rw [← hn1']; rfl) rfl
    have hbl : ∀ k, some k ∈ blocks vo (.slice (some ⟨sg, 0, none⟩) (ps2.length + 1) cap') tb (({ x with at_ := f.n - 1 }, vn) :: ps2) → some k ∈ blocks vo (.slice (some ⟨sg, 0, none⟩) (ps2.length + 1) cap') tb ((x, vn) :: ps2) := fun k e => by simpa [blocks, nmBlocks] using e
    have hP : After w2 ((w2.setCell ⟨sg, ps2.length * 3 + 1, none⟩ (.int .i64 ((f.n : Int) - 1))).drew) b { g with stack := { x with at_ := f.n - 1 } :: rest } F2 := by
      rw [H1.out.2.1, ← HM.out.2]
      exact ⟨_, ⟨_, _, _, _, _, hT.drew, rfl⟩, ((Fr.refl _ _).setCell (p := ⟨sg, ps2.length * 3 + 1, none⟩) (.inl (.inr (mem_blocks.2 (.inr (.inl rfl))))) _).drew, Fresh.foot (fun k e => .inl (hbl k e))⟩
    clear hT hbl hn1'
    have hP2 : After w ((w2.setCell ⟨sg, ps2.length * 3 + 1, none⟩ (.int .i64 ((f.n : Int) - 1))).drew) b { g with stack := { x with at_ := f.n - 1 } :: rest } F := by
      obtain ⟨F3, a1, a2, a3⟩ := hP
      exact ⟨F3, a1, H1.out.2.2.1.step H1.out.2.2.2 a2, Fresh.trans H1.out.2.2.2 H1.out.2.2.1.size a3⟩
    clear hP
    have HP := Px.hid hP2
    obtain ⟨WP, hWP⟩ : ∃ WP, WP = (w2.setCell ⟨sg, ps2.length * 3 + 1, none⟩ (.int .i64 ((f.n : Int) - 1))).drew := ⟨_, rfl⟩
    rw [← hWP] at HP ⊢
    clear hWP hP2 c6 c4' kf1 k1 hc1 hc2 hpl hw1
    have c8 : WP.cell? ⟨b, 8, none⟩ = some .nilIface := by obtain ⟨F', h1, _, _⟩ := HP.out; exact (h1.c8 HK.out.1).1
    have f8 : WP.frozen? ⟨b, 8, none⟩ = false := by obtain ⟨F', h1, _, _⟩ := HP.out; exact (h1.c8 HK.out.1).2
    have k7 := HP.out.c7.1
    have f7' := HP.out.c7.2
    have hbl2 : b < WP.heap.size := by obtain ⟨F', h1, _, _⟩ := HP.out; exact h1.lt b h1.own
    go_wp2
    go_end0
    rw [nameOn_true f g x rest HM.out.1]
    refine ⟨rfl, ?_⟩
    have ht0 := tok_text (WP.alloc (.cells #[.int .i64 0, .slice none 0 0, .int .i32 0, .int .i64 0, .int .i32 0, .int .u8 0, .int .u8 0] 89 (0, 0))) WP.heap.size (heap_alloc_new WP _)
    have hq : After w ((WP.alloc (.cells #[.int .i64 0, .slice none 0 0, .int .i32 0, .int .i64 0, .int .i32 0, .int .u8 0, .int .u8 0] 89 (0, 0))).setCell ⟨b, 8, none⟩ (.iface 87 (.pointer (some ⟨WP.heap.size, 0, none⟩)))) b { g with stack := { x with at_ := f.n - 1 } :: rest, now := .str J6.txt0 } F :=
      HP.out.then fun F1 h => After.tok (g := { g with stack := { x with at_ := f.n - 1 } :: rest }) h.lt h.own ((Fr.refl F1 WP).alloc _) (After.refl (h.same ((Fr.refl _ WP).alloc _))) HK.out.1 ht0 (fun k hk => by simp at hk; omega)
    have hq2 := hq.setNext 2
    rw [World.setCell_alloc_past _ _ _ _ hbl2, World.setCell_alloc_past _ _ _ _ (by simpa [World.setCell] using hbl2)] at hq2
    exact hq2
set_option maxRecDepth 100000 in
set_option maxHeartbeats 4000000 in
theorem st_t2_no (b : Nat) (c : UInt8) (z : Nat) (hz : z = c.toNat) (b1 : z ≠ 32) (b2 : z ≠ 9) (b3 : z ≠ 10) (b4 : z ≠ 13) (b5 : z ≠ 125) (b6 : z ≠ 34) (f : J6.Feed) (F : Nat → Prop) (w : World) (h : FeedAt w b f F) (hok : J6.OkK 0 f) (hn1 : 1 ≤ f.n) (ho : J6.object f = true) (hnx : f.next = 2) :
    Calls Try.prog 28 #[.pointer (some ⟨b, 0, none⟩), .int .u8 (z : Nat)] w fun r w' => r = .returned (.tuple #[]) ∧ After w w' b (J6.wrong f (f.n - 1 : Nat) 9) F := by
  have e1 : ((z : Int) == 32) = false := by simp; omega
  have e2 : ((z : Int) == 9) = false := by simp; omega
  have e3 : ((z : Int) == 10) = false := by simp; omega
  have e4 : ((z : Int) == 13) = false := by simp; omega
  have e5 : ((z : Int) == 125) = false := by simp; omega
  have e6 : ((z : Int) == 34) = false := by simp; omega
  have hV := wrong_here b 9 f F hn1
  have hob := object_ok b f F hok w h
  rw [ho] at hob
  have HW := Px.hid (wrap_n hok hn1)
  have HFA := Px.hid h
  have HOB := Px.hid hob
  have HV := Px.hid hV
  have hb : b < w.heap.size := h.lt b h.own
  have HNX := Px.hid hnx
  clear h hok hn1 ho hob hV hnx hz b1 b2 b3 b4 b5 b6
  go_enter Try.func28, Try.ntmps28
  go_wp2_with fail
  refine HOB.out.mono ?_
  rintro e w1 ⟨rfl, hS1⟩
  have HS := Px.hid hS1
  have HFA1 := Px.hid (HFA.out.same hS1)
  have hb1 : b < w1.heap.size := by have := hS1.size; omega
  have c7 : w1.cell? ⟨b, 7, none⟩ = some (.int .i64 2) := by have := HFA1.out.c7.1; rw [HNX.out] at this; exact this
  have f7 : w1.frozen? ⟨b, 7, none⟩ = false := HFA1.out.c7.2.1
  have c4 : w1.cell? ⟨b, 4, none⟩ = some (.int .i64 (f.n : Nat)) := HFA1.out.c7.2.2
  have hw4 := HW.out
  clear hS1
  go_wp2_with fail
  refine (HV.out _ HFA1.out).mono ?_
  rintro e w2 ⟨rfl, hA⟩
  have HA := Px.hid (After.ofFr (HS.out.fr F) hA)
  clear hA
  go_wp2
  go_end0
  exact ⟨rfl, HA.out⟩
set_option maxRecDepth 100000 in
set_option maxHeartbeats 4000000 in
theorem st_t3_end (b : Nat) (f : J6.Feed) (F : Nat → Prop) (w : World) (h : FeedAt w b f F) (hok : J6.OkK 0 f) (hn1 : 1 ≤ f.n) (ho : J6.object f = true) (hnx : f.next = 3) :
    Calls Try.prog 28 #[.pointer (some ⟨b, 0, none⟩), .int .u8 125] w fun r w' => r = .returned (.tuple #[]) ∧ After w w' b (J6.over { f with stack := f.stack.tail }) F := by
  have hm := J6.may_parts6 hok.may
  have hsd := hok.sd
  have hsl : f.stack.length ≤ 32 := by omega
  have hne := hok.st (by omega) (by omega)
  have hV := fun F1 => over_ok b { f with stack := f.stack.tail } F1 (by show f.stack.tail.length ≤ 32; simp; omega)
  have HNE := Px.hid (And.intro hne hsl)
  clear hm hsd hsl hne
  have hob := object_ok b f F hok w h
  rw [ho] at hob
  have HW := Px.hid (wrap_n hok hn1)
  have HFA := Px.hid h
  have HOB := Px.hid hob
  have HV := Px.hid hV
  have hb : b < w.heap.size := h.lt b h.own
  have HNX := Px.hid hnx
  clear h hok hn1 ho hob hV hnx
  go_enter Try.func28, Try.ntmps28
  go_wp2_with fail
  refine HOB.out.mono ?_
  rintro e w1 ⟨rfl, hS1⟩
  have HS := Px.hid hS1
  have HFA1 := Px.hid (HFA.out.same hS1)
  have hb1 : b < w1.heap.size := by have := hS1.size; omega
  have c7 : w1.cell? ⟨b, 7, none⟩ = some (.int .i64 3) := by have := HFA1.out.c7.1; rw [HNX.out] at this; exact this
  have f7 : w1.frozen? ⟨b, 7, none⟩ = false := HFA1.out.c7.2.1
  have c4 : w1.cell? ⟨b, 4, none⟩ = some (.int .i64 (f.n : Nat)) := HFA1.out.c7.2.2
  have hw4 := HW.out
  clear hS1
  obtain ⟨vo, vs, tv, tb, ps, h1, hF⟩ := HFA1.out
  obtain ⟨x, rest, hst⟩ : ∃ x rest, f.stack = x :: rest := by
    cases hs : f.stack with
    | nil => exact absurd hs HNE.out.1
    | cons x r => exact ⟨x, r, rfl⟩
  obtain ⟨vn, ps2, hps, hm, g, cap', hsv, hc1, hc2, k0, k1, k2, kf⟩ := h1.top hst
  subst hps
  subst hsv
  have hlt1 : b < w1.heap.size := h1.lt
  have c6 : w1.cell? ⟨b, 6, none⟩ = some (.slice (some ⟨g, 0, none⟩) (ps2.length + 1) cap') := cellOf h1.blk 6 rfl
  have f6 := h1.free 6
  have hpl : ps2.length ≤ 32 := by have h2 := congrArg List.length hm; rw [List.length_map] at h2; have h3 := HNE.out.2; rw [hst] at h3; simp at h3; omega
  have htl : f.stack.tail = ps2.map Prod.fst := by rw [hst, hm]; rfl
  have H1 := Px.hid (And.intro h1 (And.intro hF htl))
  unfold maxLen at hc2
  clear h1 hF hst hm k0 k1 k2 kf htl
  go_upto_region 6 with fail
  go_region
  have hP : After w1 ((w1.setCell ⟨b, 6, none⟩ (.slice (some ⟨g, 0, none⟩) ps2.length cap')).drew) b { f with stack := f.stack.tail } F := by
    rw [H1.out.2.2, H1.out.2.1]
    exact ⟨_, ⟨_, _, _, _, _, H1.out.1.pop.drew, rfl⟩, ((Fr.refl _ _).setCell (p := ⟨b, 6, none⟩) (.inl (.inl rfl)) _).drew, Fresh.foot (fun _ e => .inl (blocks_pop e))⟩
  obtain ⟨F2, hF2, hfr2, hfn2⟩ := hP
  have HP := Px.hid (And.intro hF2 (And.intro hfr2 hfn2))
  obtain ⟨WP, hWP⟩ : ∃ WP, WP = (w1.setCell ⟨b, 6, none⟩ (.slice (some ⟨g, 0, none⟩) ps2.length cap')).drew := ⟨_, rfl⟩
  rw [← hWP] at HP ⊢
  clear hWP hF2 hfr2 hfn2 c6 f6
  go_wp2_with fail
  refine (HV.out F2 WP HP.out.1).mono ?_
  rintro e w2 ⟨rfl, hA⟩
  obtain ⟨F3, a1, a2, a3⟩ := hA
  have HA := Px.hid (After.ofFr (HS.out.fr F) (show After w1 w2 b (J6.over { f with stack := f.stack.tail }) F from ⟨F3, a1, HP.out.2.1.step HP.out.2.2 a2, Fresh.trans HP.out.2.2 HP.out.2.1.size a3⟩))
  clear a1 a2 a3
  go_wp2
  go_end0
  exact ⟨rfl, HA.out⟩
set_option maxRecDepth 100000 in
set_option maxHeartbeats 4000000 in
theorem st_t3_name (b : Nat) (f : J6.Feed) (F : Nat → Prop) (w : World) (h : FeedAt w b f F) (hok : J6.OkK 0 f) (hn1 : 1 ≤ f.n) (hnow : f.now = .none) (ho : J6.object f = true) (hnx : f.next = 3) :
    Calls Try.prog 28 #[.pointer (some ⟨b, 0, none⟩), .int .u8 34] w fun r w' => r = .returned (.tuple #[]) ∧ After w w' b (nameOn f (J6.one f ⟨4, 0, []⟩)) F := by
  have hV := one_ok b f ⟨4, 0, []⟩ F hok hn1
  have hkeep := hok.one ⟨4, 0, []⟩ rfl
  have hgn := hkeep.2.2.1
  have hgs := hkeep.2.2.2.2.2.1
  have hgk := hkeep.2.2.2.2.1
  have hm := J6.may_parts6 hok.may
  have hsd := hok.sd
  have hsl : f.stack.length ≤ 32 := by omega
  have hne := hok.st (by omega) (by omega)
  have hw1 := wrap_n hok hn1
  obtain ⟨⟨r1, g⟩, hres⟩ : ∃ r, J6.one f ⟨4, 0, []⟩ = r := ⟨_, rfl⟩
  simp only [hres] at hV hgn hgs hgk
  rw [hres]
  rw [hnow] at hgn
  have HK := Px.hid (And.intro hgn (And.intro hgs (And.intro hsl (And.intro hne (And.intro hgk hn1)))))
  clear hkeep hgn hgs hm hsd hsl hne hres hgk
  have hob := object_ok b f F hok w h
  rw [ho] at hob
  have HW := Px.hid (wrap_n hok hn1)
  have HFA := Px.hid h
  have HOB := Px.hid hob
  have HV := Px.hid hV
  have hb : b < w.heap.size := h.lt b h.own
  have HNX := Px.hid hnx
  clear h hok hn1 hnow ho hob hV hnx
  go_enter Try.func28, Try.ntmps28
  go_wp2_with fail
  refine HOB.out.mono ?_
  rintro e w1 ⟨rfl, hS1⟩
  have HS := Px.hid hS1
  have HFA1 := Px.hid (HFA.out.same hS1)
  have hb1 : b < w1.heap.size := by have := hS1.size; omega
  have c7 : w1.cell? ⟨b, 7, none⟩ = some (.int .i64 3) := by have := HFA1.out.c7.1; rw [HNX.out] at this; exact this
  have f7 : w1.frozen? ⟨b, 7, none⟩ = false := HFA1.out.c7.2.1
  have c4 : w1.cell? ⟨b, 4, none⟩ = some (.int .i64 (f.n : Nat)) := HFA1.out.c7.2.2
  have hw4 := HW.out
  clear hS1
  go_wp2_with fail
  refine (HV.out _ HFA1.out).mono ?_
  rintro e w2 ⟨rfl, hA⟩
  have HA := Px.hid (After.ofFr (HS.out.fr F) hA)
  clear hA
  cases r1 with
  | false =>
    go_wp2
    go_end0
    exact ⟨rfl, HA.out⟩
  | true =>
    obtain ⟨F2, hF2, hfr2, hfn2⟩ := HA.out
    obtain ⟨vo, vs, tv, tb, ps, h1, hF2e⟩ := hF2
    obtain ⟨x, rest, hst⟩ : ∃ x rest, g.stack = x :: rest := by
      cases hs : g.stack with
      | nil => exact absurd (HK.out.2.1.symm.trans hs) HK.out.2.2.2.1
      | cons x r => exact ⟨x, r, rfl⟩
    obtain ⟨vn, ps2, hps, hm, sg, cap', hsv, hc1, hc2, k0, k1, k2, kf⟩ := h1.top hst
    subst hps
    subst hsv
    have hlt1 : b < w2.heap.size := h1.lt
    have c6 : w2.cell? ⟨b, 6, none⟩ = some (.slice (some ⟨sg, 0, none⟩) (ps2.length + 1) cap') := cellOf h1.blk 6 rfl
    have c4' : w2.cell? ⟨b, 4, none⟩ = some (.int .i64 (f.n : Nat)) := by rw [← HK.out.2.2.2.2.1]; exact cellOf h1.blk 4 rfl
    have kf1 := kf (ps2.length * 3 + 1)
    have hpl : ps2.length ≤ 32 := by have h2 := congrArg List.length hm; rw [List.length_map] at h2; have h3 := HK.out.2.2.1; rw [← HK.out.2.1, hst] at h3; simp at h3; omega
    have HM := Px.hid (And.intro hst hm)
    have H1 := Px.hid (And.intro h1 (And.intro hF2e (And.intro hfr2 hfn2)))
    unfold maxLen at hc2
    clear h1 hF2e hst hm k0 k2 kf hfr2 hfn2
    go_upto_region 12 with fail
    go_region
    have hn1' : ((f.n - 1 : Nat) : Int) = (f.n : Int) - 1 := by have := HK.out.2.2.2.2.2; omega
    have hT : FeedRep (w2.setCell ⟨sg, ps2.length * 3 + 1, none⟩ (.int .i64 ((f.n : Int) - 1))) b { g with stack := { x with at_ := f.n - 1 } :: ps2.map Prod.fst } vo (.slice (some ⟨sg, 0, none⟩) (ps2.length + 1) cap') tv tb (({ x with at_ := f.n - 1 }, vn) :: ps2) :=
      H1.out.1.setTop (x' := { x with at_ := f.n - 1 }) 1 (.int .i64 ((f.n : Int) - 1)) (by rw [← hn1']; rfl) rfl
    have hbl : ∀ k, some k ∈ blocks vo (.slice (some ⟨sg, 0, none⟩) (ps2.length + 1) cap') tb (({ x with at_ := f.n - 1 }, vn) :: ps2) → some k ∈ blocks vo (.slice (some ⟨sg, 0, none⟩) (ps2.length + 1) cap') tb ((x, vn) :: ps2) := fun k e => by simpa [blocks, nmBlocks] using e
    have hP : After w2 ((w2.setCell ⟨sg, ps2.length * 3 + 1, none⟩ (.int .i64 ((f.n : Int) - 1))).drew) b { g with stack := { x with at_ := f.n - 1 } :: rest } F2 := by
      rw [H1.out.2.1, ← HM.out.2]
      exact ⟨_, ⟨_, _, _, _, _, hT.drew, rfl⟩, ((Fr.refl _ _).setCell (p := ⟨sg, ps2.length * 3 + 1, none⟩) (.inl (.inr (mem_blocks.2 (.inr (.inl rfl))))) _).drew, Fresh.foot (fun k e => .inl (hbl k e))⟩
    clear hT hbl hn1'
    have hP2 : After w ((w2.setCell ⟨sg, ps2.length * 3 + 1, none⟩ (.int .i64 ((f.n : Int) - 1))).drew) b { g with stack := { x with at_ := f.n - 1 } :: rest } F := by
      obtain ⟨F3, a1, a2, a3⟩ := hP
      exact ⟨F3, a1, H1.out.2.2.1.step H1.out.2.2.2 a2, Fresh.trans H1.out.2.2.2 H1.out.2.2.1.size a3⟩
    clear hP
    have HP := Px.hid hP2
    obtain ⟨WP, hWP⟩ : ∃ WP, WP = (w2.setCell ⟨sg, ps2.length * 3 + 1, none⟩ (.int .i64 ((f.n : Int) - 1))).drew := ⟨_, rfl⟩
    rw [← hWP] at HP ⊢
    clear hWP hP2 c6 c4' kf1 k1 hc1 hc2 hpl hw1
    have c8 : WP.cell? ⟨b, 8, none⟩ = some .nilIface := by obtain ⟨F', h1, _, _⟩ := HP.out; exact (h1.c8 HK.out.1).1
    have f8 : WP.frozen? ⟨b, 8, none⟩ = false := by obtain ⟨F', h1, _, _⟩ := HP.out; exact (h1.c8 HK.out.1).2
    have k7 := HP.out.c7.1
    have f7' := HP.out.c7.2
    have hbl2 : b < WP.heap.size := by obtain ⟨F', h1, _, _⟩ := HP.out; exact h1.lt b h1.own
    go_wp2
    go_end0
    rw [nameOn_true f g x rest HM.out.1]
    refine ⟨rfl, ?_⟩
    have ht0 := tok_text (WP.alloc (.cells #[.int .i64 0, .slice none 0 0, .int .i32 0, .int .i64 0, .int .i32 0, .int .u8 0, .int .u8 0] 89 (0, 0))) WP.heap.size (heap_alloc_new WP _)
    have hq : After w ((WP.alloc (.cells #[.int .i64 0, .slice none 0 0, .int .i32 0, .int .i64 0, .int .i32 0, .int .u8 0, .int .u8 0] 89 (0, 0))).setCell ⟨b, 8, none⟩ (.iface 87 (.pointer (some ⟨WP.heap.size, 0, none⟩)))) b { g with stack := { x with at_ := f.n - 1 } :: rest, now := .str J6.txt0 } F :=
      HP.out.then fun F1 h => After.tok (g := { g with stack := { x with at_ := f.n - 1 } :: rest }) h.lt h.own ((Fr.refl F1 WP).alloc _) (After.refl (h.same ((Fr.refl _ WP).alloc _))) HK.out.1 ht0 (fun k hk => by simp at hk; omega)
    have hq2 := hq.setNext 2
    rw [World.setCell_alloc_past _ _ _ _ hbl2, World.setCell_alloc_past _ _ _ _ (by simpa [World.setCell] using hbl2)] at hq2
    exact hq2
set_option maxRecDepth 100000 in
set_option maxHeartbeats 4000000 in
theorem st_t3_no (b : Nat) (c : UInt8) (z : Nat) (hz : z = c.toNat) (b1 : z ≠ 32) (b2 : z ≠ 9) (b3 : z ≠ 10) (b4 : z ≠ 13) (b5 : z ≠ 125) (b6 : z ≠ 34) (f : J6.Feed) (F : Nat → Prop) (w : World) (h : FeedAt w b f F) (hok : J6.OkK 0 f) (hn1 : 1 ≤ f.n) (ho : J6.object f = true) (hnx : f.next = 3) :
    Calls Try.prog 28 #[.pointer (some ⟨b, 0, none⟩), .int .u8 (z : Nat)] w fun r w' => r = .returned (.tuple #[]) ∧ After w w' b (J6.wrong f (f.n - 1 : Nat) 9) F := by
  have e1 : ((z : Int) == 32) = false := by simp; omega
  have e2 : ((z : Int) == 9) = false := by simp; omega
  have e3 : ((z : Int) == 10) = false := by simp; omega
  have e4 : ((z : Int) == 13) = false := by simp; omega
  have e5 : ((z : Int) == 125) = false := by simp; omega
  have e6 : ((z : Int) == 34) = false := by simp; omega
  have hV := wrong_here b 9 f F hn1
  have hob := object_ok b f F hok w h
  rw [ho] at hob
  have HW := Px.hid (wrap_n hok hn1)
  have HFA := Px.hid h
  have HOB := Px.hid hob
  have HV := Px.hid hV
  have hb : b < w.heap.size := h.lt b h.own
  have HNX := Px.hid hnx
  clear h hok hn1 ho hob hV hnx hz b1 b2 b3 b4 b5 b6
  go_enter Try.func28, Try.ntmps28
  go_wp2_with fail
  refine HOB.out.mono ?_
  rintro e w1 ⟨rfl, hS1⟩
  have HS := Px.hid hS1
  have HFA1 := Px.hid (HFA.out.same hS1)
  have hb1 : b < w1.heap.size := by have := hS1.size; omega
  have c7 : w1.cell? ⟨b, 7, none⟩ = some (.int .i64 3) := by have := HFA1.out.c7.1; rw [HNX.out] at this; exact this
  have f7 : w1.frozen? ⟨b, 7, none⟩ = false := HFA1.out.c7.2.1
  have c4 : w1.cell? ⟨b, 4, none⟩ = some (.int .i64 (f.n : Nat)) := HFA1.out.c7.2.2
  have hw4 := HW.out
  clear hS1
  go_wp2_with fail
  refine (HV.out _ HFA1.out).mono ?_
  rintro e w2 ⟨rfl, hA⟩
  have HA := Px.hid (After.ofFr (HS.out.fr F) hA)
  clear hA
  go_wp2
  go_end0
  exact ⟨rfl, HA.out⟩
set_option maxRecDepth 100000 in
set_option maxHeartbeats 4000000 in
theorem st_t4_end (b : Nat) (f : J6.Feed) (F : Nat → Prop) (w : World) (h : FeedAt w b f F) (hok : J6.OkK 0 f) (hn1 : 1 ≤ f.n) (ho : J6.object f = true) (hnx : f.next = 4) :
    Calls Try.prog 28 #[.pointer (some ⟨b, 0, none⟩), .int .u8 125] w fun r w' => r = .returned (.tuple #[]) ∧ After w w' b (J6.wrong f (f.n - 1 : Nat) 9) F := by
  have hV := wrong_here b 9 f F hn1
  have hob := object_ok b f F hok w h
  rw [ho] at hob
  have HW := Px.hid (wrap_n hok hn1)
  have HFA := Px.hid h
  have HOB := Px.hid hob
  have HV := Px.hid hV
  have hb : b < w.heap.size := h.lt b h.own
  have HNX := Px.hid hnx
  clear h hok hn1 ho hob hV hnx
  go_enter Try.func28, Try.ntmps28
  go_wp2_with fail
  refine HOB.out.mono ?_
  rintro e w1 ⟨rfl, hS1⟩
  have HS := Px.hid hS1
  have HFA1 := Px.hid (HFA.out.same hS1)
  have hb1 : b < w1.heap.size := by have := hS1.size; omega
  have c7 : w1.cell? ⟨b, 7, none⟩ = some (.int .i64 4) := by have := HFA1.out.c7.1; rw [HNX.out] at this; exact this
  have f7 : w1.frozen? ⟨b, 7, none⟩ = false := HFA1.out.c7.2.1
  have c4 : w1.cell? ⟨b, 4, none⟩ = some (.int .i64 (f.n : Nat)) := HFA1.out.c7.2.2
  have hw4 := HW.out
  clear hS1
  go_wp2_with fail
  refine (HV.out _ HFA1.out).mono ?_
  rintro e w2 ⟨rfl, hA⟩
  have HA := Px.hid (After.ofFr (HS.out.fr F) hA)
  clear hA
  go_wp2
  go_end0
  exact ⟨rfl, HA.out⟩
set_option maxRecDepth 100000 in
set_option maxHeartbeats 4000000 in
theorem st_t4_colon (b : Nat) (f : J6.Feed) (F : Nat → Prop) (w : World) (h : FeedAt w b f F) (hok : J6.OkK 0 f) (hn1 : 1 ≤ f.n) (ho : J6.object f = true) (hnx : f.next = 4) :
    Calls Try.prog 28 #[.pointer (some ⟨b, 0, none⟩), .int .u8 58] w fun r w' => r = .returned (.tuple #[]) ∧ After w w' b { f with next := 0 } F := by
  have hV := trivial
  have hob := object_ok b f F hok w h
  rw [ho] at hob
  have HW := Px.hid (wrap_n hok hn1)
  have HFA := Px.hid h
  have HOB := Px.hid hob
  have HV := Px.hid hV
  have hb : b < w.heap.size := h.lt b h.own
  have HNX := Px.hid hnx
  clear h hok hn1 ho hob hV hnx
  go_enter Try.func28, Try.ntmps28
  go_wp2_with fail
  refine HOB.out.mono ?_
  rintro e w1 ⟨rfl, hS1⟩
  have HS := Px.hid hS1
  have HFA1 := Px.hid (HFA.out.same hS1)
  have hb1 : b < w1.heap.size := by have := hS1.size; omega
  have c7 : w1.cell? ⟨b, 7, none⟩ = some (.int .i64 4) := by have := HFA1.out.c7.1; rw [HNX.out] at this; exact this
  have f7 : w1.frozen? ⟨b, 7, none⟩ = false := HFA1.out.c7.2.1
  have c4 : w1.cell? ⟨b, 4, none⟩ = some (.int .i64 (f.n : Nat)) := HFA1.out.c7.2.2
  have hw4 := HW.out
  clear hS1
  go_wp2
  go_end0
  exact ⟨rfl, (After.ofFr (HS.out.fr F) (After.refl HFA1.out)).setNext 0⟩
set_option maxRecDepth 100000 in
set_option maxHeartbeats 4000000 in
theorem st_t4_no (b : Nat) (c : UInt8) (z : Nat) (hz : z = c.toNat) (b1 : z ≠ 32) (b2 : z ≠ 9) (b3 : z ≠ 10) (b4 : z ≠ 13) (b5 : z ≠ 125) (b6 : z ≠ 58) (f : J6.Feed) (F : Nat → Prop) (w : World) (h : FeedAt w b f F) (hok : J6.OkK 0 f) (hn1 : 1 ≤ f.n) (ho : J6.object f = true) (hnx : f.next = 4) :
    Calls Try.prog 28 #[.pointer (some ⟨b, 0, none⟩), .int .u8 (z : Nat)] w fun r w' => r = .returned (.tuple #[]) ∧ After w w' b (J6.wrong f (f.n - 1 : Nat) 9) F := by
  have e1 : ((z : Int) == 32) = false := by simp; omega
  have e2 : ((z : Int) == 9) = false := by simp; omega
  have e3 : ((z : Int) == 10) = false := by simp; omega
  have e4 : ((z : Int) == 13) = false := by simp; omega
  have e5 : ((z : Int) == 125) = false := by simp; omega
  have e6 : ((z : Int) == 58) = false := by simp; omega
  have hV := wrong_here b 9 f F hn1
  have hob := object_ok b f F hok w h
  rw [ho] at hob
  have HW := Px.hid (wrap_n hok hn1)
  have HFA := Px.hid h
  have HOB := Px.hid hob
  have HV := Px.hid hV
  have hb : b < w.heap.size := h.lt b h.own
  have HNX := Px.hid hnx
  clear h hok hn1 ho hob hV hnx hz b1 b2 b3 b4 b5 b6
  go_enter Try.func28, Try.ntmps28
  go_wp2_with fail
  refine HOB.out.mono ?_
  rintro e w1 ⟨rfl, hS1⟩
  have HS := Px.hid hS1
  have HFA1 := Px.hid (HFA.out.same hS1)
  have hb1 : b < w1.heap.size := by have := hS1.size; omega
  have c7 : w1.cell? ⟨b, 7, none⟩ = some (.int .i64 4) := by have := HFA1.out.c7.1; rw [HNX.out] at this; exact this
  have f7 : w1.frozen? ⟨b, 7, none⟩ = false := HFA1.out.c7.2.1
  have c4 : w1.cell? ⟨b, 4, none⟩ = some (.int .i64 (f.n : Nat)) := HFA1.out.c7.2.2
  have hw4 := HW.out
  clear hS1
  go_wp2_with fail
  refine (HV.out _ HFA1.out).mono ?_
  rintro e w2 ⟨rfl, hA⟩
  have HA := Px.hid (After.ofFr (HS.out.fr F) hA)
  clear hA
  go_wp2
  go_end0
  exact ⟨rfl, HA.out⟩
set_option maxRecDepth 100000 in
set_option maxHeartbeats 4000000 in
theorem st_t5_end (b : Nat) (f : J6.Feed) (F : Nat → Prop) (w : World) (h : FeedAt w b f F) (hok : J6.OkK 0 f) (hn1 : 1 ≤ f.n) (ho : J6.object f = true) (hnx : f.next = 5) :
    Calls Try.prog 28 #[.pointer (some ⟨b, 0, none⟩), .int .u8 125] w fun r w' => r = .returned (.tuple #[]) ∧ After w w' b (J6.over { f with stack := f.stack.tail }) F := by
  have hm := J6.may_parts6 hok.may
  have hsd := hok.sd
  have hsl : f.stack.length ≤ 32 := by omega
  have hne := hok.st (by omega) (by omega)
  have hV := fun F1 => over_ok b { f with stack := f.stack.tail } F1 (by show f.stack.tail.length ≤ 32; simp; omega)
  have HNE := Px.hid (And.intro hne hsl)
  clear hm hsd hsl hne
  have hob := object_ok b f F hok w h
  rw [ho] at hob
  have HW := Px.hid (wrap_n hok hn1)
  have HFA := Px.hid h
  have HOB := Px.hid hob
  have HV := Px.hid hV
  have hb : b < w.heap.size := h.lt b h.own
  have HNX := Px.hid hnx
  clear h hok hn1 ho hob hV hnx
  go_enter Try.func28, Try.ntmps28
  go_wp2_with fail
  refine HOB.out.mono ?_
  rintro e w1 ⟨rfl, hS1⟩
  have HS := Px.hid hS1
  have HFA1 := Px.hid (HFA.out.same hS1)
  have hb1 : b < w1.heap.size := by have := hS1.size; omega
  have c7 : w1.cell? ⟨b, 7, none⟩ = some (.int .i64 5) := by have := HFA1.out.c7.1; rw [HNX.out] at this; exact this
  have f7 : w1.frozen? ⟨b, 7, none⟩ = false := HFA1.out.c7.2.1
  have c4 : w1.cell? ⟨b, 4, none⟩ = some (.int .i64 (f.n : Nat)) := HFA1.out.c7.2.2
  have hw4 := HW.out
  clear hS1
  obtain ⟨vo, vs, tv, tb, ps, h1, hF⟩ := HFA1.out
  obtain ⟨x, rest, hst⟩ : ∃ x rest, f.stack = x :: rest := by
    cases hs : f.stack with
    | nil => exact absurd hs HNE.out.1
    | cons x r => exact ⟨x, r, rfl⟩
  obtain ⟨vn, ps2, hps, hm, g, cap', hsv, hc1, hc2, k0, k1, k2, kf⟩ := h1.top hst
  subst hps
  subst hsv
  have hlt1 : b < w1.heap.size := h1.lt
  have c6 : w1.cell? ⟨b, 6, none⟩ = some (.slice (some ⟨g, 0, none⟩) (ps2.length + 1) cap') := cellOf h1.blk 6 rfl
  have f6 := h1.free 6
  have hpl : ps2.length ≤ 32 := by have h2 := congrArg List.length hm; rw [List.length_map] at h2; have h3 := HNE.out.2; rw [hst] at h3; simp at h3; omega
  have htl : f.stack.tail = ps2.map Prod.fst := by rw [hst, hm]; rfl
  have H1 := Px.hid (And.intro h1 (And.intro hF htl))
  unfold maxLen at hc2
  clear h1 hF hst hm k0 k1 k2 kf htl
  go_upto_region 6 with fail
  go_region
  have hP : After w1 ((w1.setCell ⟨b, 6, none⟩ (.slice (some ⟨g, 0, none⟩) ps2.length cap')).drew) b { f with stack := f.stack.tail } F := by
    rw [H1.out.2.2, H1.out.2.1]
    exact ⟨_, ⟨_, _, _, _, _, H1.out.1.pop.drew, rfl⟩, ((Fr.refl _ _).setCell (p := ⟨b, 6, none⟩) (.inl (.inl rfl)) _).drew, Fresh.foot (fun _ e => .inl (blocks_pop e))⟩
  obtain ⟨F2, hF2, hfr2, hfn2⟩ := hP
  have HP := Px.hid (And.intro hF2 (And.intro hfr2 hfn2))
  obtain ⟨WP, hWP⟩ : ∃ WP, WP = (w1.setCell ⟨b, 6, none⟩ (.slice (some ⟨g, 0, none⟩) ps2.length cap')).drew := ⟨_, rfl⟩
  rw [← hWP] at HP ⊢
  clear hWP hF2 hfr2 hfn2 c6 f6
  go_wp2_with fail
  refine (HV.out F2 WP HP.out.1).mono ?_
  rintro e w2 ⟨rfl, hA⟩
  obtain ⟨F3, a1, a2, a3⟩ := hA
  have HA := Px.hid (After.ofFr (HS.out.fr F) (show After w1 w2 b (J6.over { f with stack := f.stack.tail }) F from ⟨F3, a1, HP.out.2.1.step HP.out.2.2 a2, Fresh.trans HP.out.2.2 HP.out.2.1.size a3⟩))
  clear a1 a2 a3
  go_wp2
  go_end0
  exact ⟨rfl, HA.out⟩
set_option maxRecDepth 100000 in
set_option maxHeartbeats 4000000 in
theorem st_t5_comma (b : Nat) (f : J6.Feed) (F : Nat → Prop) (w : World) (h : FeedAt w b f F) (hok : J6.OkK 0 f) (hn1 : 1 ≤ f.n) (ho : J6.object f = true) (hnx : f.next = 5) :
    Calls Try.prog 28 #[.pointer (some ⟨b, 0, none⟩), .int .u8 44] w fun r w' => r = .returned (.tuple #[]) ∧ After w w' b { f with next := 2 } F := by
  have hV : ∀ w : World, FeedAt w b { f with next := 0 } F → Calls Try.prog 40 #[.pointer (some ⟨b, 0, none⟩)] w fun r w' => r = .returned (.bool true) ∧ Same w w' := fun w h => by
    rw [← ho]
    exact object_ok b { f with next := 0 } F (k := 0) ⟨hok.may, hok.nb, hok.ol, hok.sd, hok.each, hok.kids, Nat.zero_le _, (fun e => by have e : 1 ≤ 0 := e; omega), hok.kn, hok.tk, hok.ne⟩ w h
  have hob := object_ok b f F hok w h
  rw [ho] at hob
  have HW := Px.hid (wrap_n hok hn1)
  have HFA := Px.hid h
  have HOB := Px.hid hob
  have HV := Px.hid hV
  have hb : b < w.heap.size := h.lt b h.own
  have HNX := Px.hid hnx
  clear h hok hn1 ho hob hV hnx
  go_enter Try.func28, Try.ntmps28
  go_wp2_with fail
  refine HOB.out.mono ?_
  rintro e w1 ⟨rfl, hS1⟩
  have HS := Px.hid hS1
  have HFA1 := Px.hid (HFA.out.same hS1)
  have hb1 : b < w1.heap.size := by have := hS1.size; omega
  have c7 : w1.cell? ⟨b, 7, none⟩ = some (.int .i64 5) := by have := HFA1.out.c7.1; rw [HNX.out] at this; exact this
  have f7 : w1.frozen? ⟨b, 7, none⟩ = false := HFA1.out.c7.2.1
  have c4 : w1.cell? ⟨b, 4, none⟩ = some (.int .i64 (f.n : Nat)) := HFA1.out.c7.2.2
  have hw4 := HW.out
  clear hS1
  have hx : After w (w1.setCell ⟨b, 7, none⟩ (.int .i64 (0 : Nat))) b { f with next := 0 } F := (After.ofFr (HS.out.fr F) (After.refl HFA1.out)).setNext 0
  have HFX := Px.hid (show FeedAt (w1.setCell ⟨b, 7, none⟩ (.int .i64 0)) b { f with next := 0 } F by
    obtain ⟨vo, vs, tv, tb, ps, h, hF⟩ := HFA1.out
    exact ⟨vo, vs, tv, tb, ps, h.set 7 (.int .i64 0) { f with next := 0 } rfl rfl rfl rfl, hF⟩)
  have HXX := Px.hid hx
  clear hx
  go_wp2_with fail
  refine (HV.out _ HFX.out).mono ?_
  rintro e w2 ⟨rfl, hS2⟩
  have HA := Px.hid (HXX.out.then fun F1 h => ⟨F1, h.same hS2, hS2.fr F1, Fresh.refl _ _⟩)
  have k7 := HA.out.c7.1
  have f7' := HA.out.c7.2
  clear hS2
  go_wp2
  go_end0
  exact ⟨rfl, HA.out.setNext 2⟩
set_option maxRecDepth 100000 in
set_option maxHeartbeats 4000000 in
theorem st_t5_no (b : Nat) (c : UInt8) (z : Nat) (hz : z = c.toNat) (b1 : z ≠ 32) (b2 : z ≠ 9) (b3 : z ≠ 10) (b4 : z ≠ 13) (b5 : z ≠ 125) (b6 : z ≠ 44) (f : J6.Feed) (F : Nat → Prop) (w : World) (h : FeedAt w b f F) (hok : J6.OkK 0 f) (hn1 : 1 ≤ f.n) (ho : J6.object f = true) (hnx : f.next = 5) :
    Calls Try.prog 28 #[.pointer (some ⟨b, 0, none⟩), .int .u8 (z : Nat)] w fun r w' => r = .returned (.tuple #[]) ∧ After w w' b (J6.wrong f (f.n - 1 : Nat) 9) F := by
  have e1 : ((z : Int) == 32) = false := by simp; omega
  have e2 : ((z : Int) == 9) = false := by simp; omega
  have e3 : ((z : Int) == 10) = false := by simp; omega
  have e4 : ((z : Int) == 13) = false := by simp; omega
  have e5 : ((z : Int) == 125) = false := by simp; omega
  have e6 : ((z : Int) == 44) = false := by simp; omega
  have hV := wrong_here b 9 f F hn1
  have hob := object_ok b f F hok w h
  rw [ho] at hob
  have HW := Px.hid (wrap_n hok hn1)
  have HFA := Px.hid h
  have HOB := Px.hid hob
  have HV := Px.hid hV
  have hb : b < w.heap.size := h.lt b h.own
  have HNX := Px.hid hnx
  clear h hok hn1 ho hob hV hnx hz b1 b2 b3 b4 b5 b6
  go_enter Try.func28, Try.ntmps28
  go_wp2_with fail
  refine HOB.out.mono ?_
  rintro e w1 ⟨rfl, hS1⟩
  have HS := Px.hid hS1
  have HFA1 := Px.hid (HFA.out.same hS1)
  have hb1 : b < w1.heap.size := by have := hS1.size; omega
  have c7 : w1.cell? ⟨b, 7, none⟩ = some (.int .i64 5) := by have := HFA1.out.c7.1; rw [HNX.out] at this; exact this
  have f7 : w1.frozen? ⟨b, 7, none⟩ = false := HFA1.out.c7.2.1
  have c4 : w1.cell? ⟨b, 4, none⟩ = some (.int .i64 (f.n : Nat)) := HFA1.out.c7.2.2
  have hw4 := HW.out
  clear hS1
  go_wp2_with fail
  refine (HV.out _ HFA1.out).mono ?_
  rintro e w2 ⟨rfl, hA⟩
  have HA := Px.hid (After.ofFr (HS.out.fr F) hA)
  clear hA
  go_wp2
  go_end0
  exact ⟨rfl, HA.out⟩
set_option maxRecDepth 100000 in
set_option maxHeartbeats 4000000 in
theorem st_t6_end (b : Nat) (f : J6.Feed) (F : Nat → Prop) (w : World) (h : FeedAt w b f F) (hok : J6.OkK 0 f) (hn1 : 1 ≤ f.n) (ho : J6.object f = true) (hnx : f.next = 6) :
    Calls Try.prog 28 #[.pointer (some ⟨b, 0, none⟩), .int .u8 125] w fun r w' => r = .returned (.tuple #[]) ∧ After w w' b (J6.wrong f (f.n - 1 : Nat) 9) F := by
  have hV := wrong_here b 9 f F hn1
  have hob := object_ok b f F hok w h
  rw [ho] at hob
  have HW := Px.hid (wrap_n hok hn1)
  have HFA := Px.hid h
  have HOB := Px.hid hob
  have HV := Px.hid hV
  have hb : b < w.heap.size := h.lt b h.own
  have HNX := Px.hid hnx
  clear h hok hn1 ho hob hV hnx
  go_enter Try.func28, Try.ntmps28
  go_wp2_with fail
  refine HOB.out.mono ?_
  rintro e w1 ⟨rfl, hS1⟩
  have HS := Px.hid hS1
  have HFA1 := Px.hid (HFA.out.same hS1)
  have hb1 : b < w1.heap.size := by have := hS1.size; omega
  have c7 : w1.cell? ⟨b, 7, none⟩ = some (.int .i64 6) := by have := HFA1.out.c7.1; rw [HNX.out] at this; exact this
  have f7 : w1.frozen? ⟨b, 7, none⟩ = false := HFA1.out.c7.2.1
  have c4 : w1.cell? ⟨b, 4, none⟩ = some (.int .i64 (f.n : Nat)) := HFA1.out.c7.2.2
  have hw4 := HW.out
  clear hS1
  go_wp2_with fail
  refine (HV.out _ HFA1.out).mono ?_
  rintro e w2 ⟨rfl, hA⟩
  have HA := Px.hid (After.ofFr (HS.out.fr F) hA)
  clear hA
  go_wp2
  go_end0
  exact ⟨rfl, HA.out⟩
set_option maxRecDepth 100000 in
set_option maxHeartbeats 4000000 in
theorem st_t6_no (b : Nat) (c : UInt8) (z : Nat) (hz : z = c.toNat) (b1 : z ≠ 32) (b2 : z ≠ 9) (b3 : z ≠ 10) (b4 : z ≠ 13) (b5 : z ≠ 125) (f : J6.Feed) (F : Nat → Prop) (w : World) (h : FeedAt w b f F) (hok : J6.OkK 0 f) (hn1 : 1 ≤ f.n) (ho : J6.object f = true) (hnx : f.next = 6) :
    Calls Try.prog 28 #[.pointer (some ⟨b, 0, none⟩), .int .u8 (z : Nat)] w fun r w' => r = .returned (.tuple #[]) ∧ After w w' b (J6.wrong f (f.n - 1 : Nat) 9) F := by
  have e1 : ((z : Int) == 32) = false := by simp; omega
  have e2 : ((z : Int) == 9) = false := by simp; omega
  have e3 : ((z : Int) == 10) = false := by simp; omega
  have e4 : ((z : Int) == 13) = false := by simp; omega
  have e5 : ((z : Int) == 125) = false := by simp; omega
  have hV := wrong_here b 9 f F hn1
  have hob := object_ok b f F hok w h
  rw [ho] at hob
  have HW := Px.hid (wrap_n hok hn1)
  have HFA := Px.hid h
  have HOB := Px.hid hob
  have HV := Px.hid hV
  have hb : b < w.heap.size := h.lt b h.own
  have HNX := Px.hid hnx
  clear h hok hn1 ho hob hV hnx hz b1 b2 b3 b4 b5
  go_enter Try.func28, Try.ntmps28
  go_wp2_with fail
  refine HOB.out.mono ?_
  rintro e w1 ⟨rfl, hS1⟩
  have HS := Px.hid hS1
  have HFA1 := Px.hid (HFA.out.same hS1)
  have hb1 : b < w1.heap.size := by have := hS1.size; omega
  have c7 : w1.cell? ⟨b, 7, none⟩ = some (.int .i64 6) := by have := HFA1.out.c7.1; rw [HNX.out] at this; exact this
  have f7 : w1.frozen? ⟨b, 7, none⟩ = false := HFA1.out.c7.2.1
  have c4 : w1.cell? ⟨b, 4, none⟩ = some (.int .i64 (f.n : Nat)) := HFA1.out.c7.2.2
  have hw4 := HW.out
  clear hS1
  go_wp2_with fail
  refine (HV.out _ HFA1.out).mono ?_
  rintro e w2 ⟨rfl, hA⟩
  have HA := Px.hid (After.ofFr (HS.out.fr F) hA)
  clear hA
  go_wp2
  go_end0
  exact ⟨rfl, HA.out⟩
end Go.Proofs.Ytahojodgmjmpnaa

/-! The walk over jsonfeed's structure: blanks; structure, whole. -/
namespace Go.Proofs.Ytahojodgmjmpnaa
open Go.RowKit Go.Px

theorem st_blank (b z : Nat) (hz : z = 32 ∨ z = 9 ∨ z = 10 ∨ z = 13) (f : J6.Feed) (F : Nat → Prop) (w : World) (h : FeedAt w b f F) :
    Calls Try.prog 28 #[.pointer (some ⟨b, 0, none⟩), .int .u8 (z : Nat)] w fun r w' => r = .returned (.tuple #[]) ∧ After w w' b f F := by
  have HFA := Px.hid h
  clear h
  rcases hz with rfl | rfl | rfl | rfl <;>
    (go_enter Try.func28, Try.ntmps28
     go_wp2
     refine bodyPost_ret (results_none rfl _ _ _) rfl ?_
     exact ⟨rfl, After.refl HFA.out⟩)
theorem st_unfold (f : J6.Feed) (c : UInt8) (hb : R6.blank c.toNat = false) : J6.structure_ f c =
    if c == (if J6.object f then 125 else 93) && (f.next == 1 || f.next == 3 || f.next == 5) then J6.over { f with stack := f.stack.tail }
    else if f.next == 0 || f.next == 1 then J6.value f c
    else if (f.next == 2 || f.next == 3) && c == 34 then nameOn f (J6.one f ⟨4, 0, []⟩)
    else if f.next == 4 && c == 58 then { f with next := 0 }
    else if f.next == 5 && c == 44 then { f with next := if J6.object f then 2 else 0 }
    else J6.wrong f (f.n - 1 : Nat) 9 := by
  unfold J6.structure_
  rw [if_neg (by simp [hb])]
  simp only
  generalize J6.one f ⟨4, 0, []⟩ = r
  obtain ⟨r1, r2⟩ := r
  cases r1 <;> rfl
theorem st_no_blank (c : UInt8) (hb : R6.blank c.toNat = false) : c.toNat ≠ 32 ∧ c.toNat ≠ 9 ∧ c.toNat ≠ 10 ∧ c.toNat ≠ 13 := by
  unfold R6.blank at hb
  simpa [and_assoc] using hb
section
variable (b : Nat) (c : UInt8) (f : J6.Feed) (F : Nat → Prop) (w : World) (h : FeedAt w b f F) (hok : J6.OkK 0 f) (hn1 : 1 ≤ f.n) (hnow : f.now = .none) (hb : R6.blank c.toNat = false)
include h hok hn1 hnow hb
-- JOIN (printed by gen_yk.py)
theorem structure_t (ho : J6.object f = true) : Calls Try.prog 28 #[.pointer (some ⟨b, 0, none⟩), .int .u8 c.toNat] w fun r w' => r = .returned (.tuple #[]) ∧ After w w' b (J6.structure_ f c) F := by
  rw [st_unfold f c hb, ho]
  obtain ⟨b1, b2, b3, b4⟩ := st_no_blank c hb
  have ne : ∀ k : UInt8, c ≠ k → c.toNat ≠ k.toNat := fun k hk e => hk (UInt8.toNat_inj.1 e)
  have hnx := hok.nx
  rcases (show f.next = 0 ∨ f.next = 1 ∨ f.next = 2 ∨ f.next = 3 ∨ f.next = 4 ∨ f.next = 5 ∨ f.next = 6 by omega) with hx | hx | hx | hx | hx | hx | hx
  · by_cases hE : c = 125
    · subst hE
      rw [if_neg (by first | (simp [hx]; done) | (rw [hx]; decide))]
      rw [if_pos (by first | (simp [hx]; done) | (rw [hx]; decide))]
      exact st_t0_end b f F w h hok hn1 hnow ho hx
    · rw [if_neg (by simp [hE])]
      rw [if_pos (by first | (simp [hx]; done) | (rw [hx]; decide))]
      exact st_t0_on b c c.toNat rfl b1 b2 b3 b4 (ne 125 hE) f F w h hok hn1 hnow ho hx
  · by_cases hE : c = 125
    · subst hE
      rw [if_pos (by first | (simp [hx]; done) | (rw [hx]; decide))]
      exact st_t1_end b f F w h hok hn1 ho hx
    · rw [if_neg (by simp [hE])]
      rw [if_pos (by first | (simp [hx]; done) | (rw [hx]; decide))]
      exact st_t1_on b c c.toNat rfl b1 b2 b3 b4 (ne 125 hE) f F w h hok hn1 hnow ho hx
  · by_cases hE : c = 125
    · subst hE
      rw [if_neg (by first | (simp [hx]; done) | (rw [hx]; decide))]
      rw [if_neg (by first | (simp [hx]; done) | (rw [hx]; decide))]
      rw [if_neg (by first | (simp [hx]; done) | (rw [hx]; decide))]
      rw [if_neg (by first | (simp [hx]; done) | (rw [hx]; decide))]
      rw [if_neg (by first | (simp [hx]; done) | (rw [hx]; decide))]
      exact st_t2_end b f F w h hok hn1 ho hx
    · by_cases hF : c = 34
      · subst hF
        rw [if_neg (by first | (simp [hx]; done) | (rw [hx]; decide))]
        rw [if_neg (by first | (simp [hx]; done) | (rw [hx]; decide))]
        rw [if_pos (by first | (simp [hx]; done) | (rw [hx]; decide))]
        exact st_t2_name b f F w h hok hn1 hnow ho hx
      · rw [if_neg (by simp [hE])]
        rw [if_neg (by first | (simp [hx]; done) | (rw [hx]; decide))]
        rw [if_neg (by simp [hF])]
        rw [if_neg (by first | (simp [hx]; done) | (rw [hx]; decide))]
        rw [if_neg (by first | (simp [hx]; done) | (rw [hx]; decide))]
        exact st_t2_no b c c.toNat rfl b1 b2 b3 b4 (ne 125 hE) (ne 34 hF) f F w h hok hn1 ho hx
  · by_cases hE : c = 125
    · subst hE
      rw [if_pos (by first | (simp [hx]; done) | (rw [hx]; decide))]
      exact st_t3_end b f F w h hok hn1 ho hx
    · by_cases hF : c = 34
      · subst hF
        rw [if_neg (by first | (simp [hx]; done) | (rw [hx]; decide))]
        rw [if_neg (by first | (simp [hx]; done) | (rw [hx]; decide))]
        rw [if_pos (by first | (simp [hx]; done) | (rw [hx]; decide))]
        exact st_t3_name b f F w h hok hn1 hnow ho hx
      · rw [if_neg (by simp [hE])]
        rw [if_neg (by first | (simp [hx]; done) | (rw [hx]; decide))]
        rw [if_neg (by simp [hF])]
        rw [if_neg (by first | (simp [hx]; done) | (rw [hx]; decide))]
        rw [if_neg (by first | (simp [hx]; done) | (rw [hx]; decide))]
        exact st_t3_no b c c.toNat rfl b1 b2 b3 b4 (ne 125 hE) (ne 34 hF) f F w h hok hn1 ho hx
  · by_cases hE : c = 125
    · subst hE
      rw [if_neg (by first | (simp [hx]; done) | (rw [hx]; decide))]
      rw [if_neg (by first | (simp [hx]; done) | (rw [hx]; decide))]
      rw [if_neg (by first | (simp [hx]; done) | (rw [hx]; decide))]
      rw [if_neg (by first | (simp [hx]; done) | (rw [hx]; decide))]
      rw [if_neg (by first | (simp [hx]; done) | (rw [hx]; decide))]
      exact st_t4_end b f F w h hok hn1 ho hx
    · by_cases hF : c = 58
      · subst hF
        rw [if_neg (by first | (simp [hx]; done) | (rw [hx]; decide))]
        rw [if_neg (by first | (simp [hx]; done) | (rw [hx]; decide))]
        rw [if_neg (by first | (simp [hx]; done) | (rw [hx]; decide))]
        rw [if_pos (by first | (simp [hx]; done) | (rw [hx]; decide))]
        exact st_t4_colon b f F w h hok hn1 ho hx
      · rw [if_neg (by simp [hE])]
        rw [if_neg (by first | (simp [hx]; done) | (rw [hx]; decide))]
        rw [if_neg (by first | (simp [hx]; done) | (rw [hx]; decide))]
        rw [if_neg (by simp [hF])]
        rw [if_neg (by first | (simp [hx]; done) | (rw [hx]; decide))]
        exact st_t4_no b c c.toNat rfl b1 b2 b3 b4 (ne 125 hE) (ne 58 hF) f F w h hok hn1 ho hx
  · by_cases hE : c = 125
    · subst hE
      rw [if_pos (by first | (simp [hx]; done) | (rw [hx]; decide))]
      exact st_t5_end b f F w h hok hn1 ho hx
    · by_cases hF : c = 44
      · subst hF
        rw [if_neg (by first | (simp [hx]; done) | (rw [hx]; decide))]
        rw [if_neg (by first | (simp [hx]; done) | (rw [hx]; decide))]
        rw [if_neg (by first | (simp [hx]; done) | (rw [hx]; decide))]
        rw [if_neg (by first | (simp [hx]; done) | (rw [hx]; decide))]
        rw [if_pos (by first | (simp [hx]; done) | (rw [hx]; decide))]
        exact st_t5_comma b f F w h hok hn1 ho hx
      · rw [if_neg (by simp [hE])]
        rw [if_neg (by first | (simp [hx]; done) | (rw [hx]; decide))]
        rw [if_neg (by first | (simp [hx]; done) | (rw [hx]; decide))]
        rw [if_neg (by first | (simp [hx]; done) | (rw [hx]; decide))]
        rw [if_neg (by simp [hF])]
        exact st_t5_no b c c.toNat rfl b1 b2 b3 b4 (ne 125 hE) (ne 44 hF) f F w h hok hn1 ho hx
  · by_cases hE : c = 125
    · subst hE
      rw [if_neg (by first | (simp [hx]; done) | (rw [hx]; decide))]
      rw [if_neg (by first | (simp [hx]; done) | (rw [hx]; decide))]
      rw [if_neg (by first | (simp [hx]; done) | (rw [hx]; decide))]
      rw [if_neg (by first | (simp [hx]; done) | (rw [hx]; decide))]
      rw [if_neg (by first | (simp [hx]; done) | (rw [hx]; decide))]
      exact st_t6_end b f F w h hok hn1 ho hx
    · rw [if_neg (by simp [hE])]
      rw [if_neg (by first | (simp [hx]; done) | (rw [hx]; decide))]
      rw [if_neg (by first | (simp [hx]; done) | (rw [hx]; decide))]
      rw [if_neg (by first | (simp [hx]; done) | (rw [hx]; decide))]
      rw [if_neg (by first | (simp [hx]; done) | (rw [hx]; decide))]
      exact st_t6_no b c c.toNat rfl b1 b2 b3 b4 (ne 125 hE) f F w h hok hn1 ho hx
theorem structure_f (ho : J6.object f = false) : Calls Try.prog 28 #[.pointer (some ⟨b, 0, none⟩), .int .u8 c.toNat] w fun r w' => r = .returned (.tuple #[]) ∧ After w w' b (J6.structure_ f c) F := by
  rw [st_unfold f c hb, ho]
  obtain ⟨b1, b2, b3, b4⟩ := st_no_blank c hb
  have ne : ∀ k : UInt8, c ≠ k → c.toNat ≠ k.toNat := fun k hk e => hk (UInt8.toNat_inj.1 e)
  have hnx := hok.nx
  rcases (show f.next = 0 ∨ f.next = 1 ∨ f.next = 2 ∨ f.next = 3 ∨ f.next = 4 ∨ f.next = 5 ∨ f.next = 6 by omega) with hx | hx | hx | hx | hx | hx | hx
  · by_cases hE : c = 93
    · subst hE
      rw [if_neg (by first | (simp [hx]; done) | (rw [hx]; decide))]
      rw [if_pos (by first | (simp [hx]; done) | (rw [hx]; decide))]
      exact st_f0_end b f F w h hok hn1 hnow ho hx
    · rw [if_neg (by simp [hE])]
      rw [if_pos (by first | (simp [hx]; done) | (rw [hx]; decide))]
      exact st_f0_on b c c.toNat rfl b1 b2 b3 b4 (ne 93 hE) f F w h hok hn1 hnow ho hx
  · by_cases hE : c = 93
    · subst hE
      rw [if_pos (by first | (simp [hx]; done) | (rw [hx]; decide))]
      exact st_f1_end b f F w h hok hn1 ho hx
    · rw [if_neg (by simp [hE])]
      rw [if_pos (by first | (simp [hx]; done) | (rw [hx]; decide))]
      exact st_f1_on b c c.toNat rfl b1 b2 b3 b4 (ne 93 hE) f F w h hok hn1 hnow ho hx
  · by_cases hE : c = 93
    · subst hE
      rw [if_neg (by first | (simp [hx]; done) | (rw [hx]; decide))]
      rw [if_neg (by first | (simp [hx]; done) | (rw [hx]; decide))]
      rw [if_neg (by first | (simp [hx]; done) | (rw [hx]; decide))]
      rw [if_neg (by first | (simp [hx]; done) | (rw [hx]; decide))]
      rw [if_neg (by first | (simp [hx]; done) | (rw [hx]; decide))]
      exact st_f2_end b f F w h hok hn1 ho hx
    · by_cases hF : c = 34
      · subst hF
        rw [if_neg (by first | (simp [hx]; done) | (rw [hx]; decide))]
        rw [if_neg (by first | (simp [hx]; done) | (rw [hx]; decide))]
        rw [if_pos (by first | (simp [hx]; done) | (rw [hx]; decide))]
        exact st_f2_name b f F w h hok hn1 hnow ho hx
      · rw [if_neg (by simp [hE])]
        rw [if_neg (by first | (simp [hx]; done) | (rw [hx]; decide))]
        rw [if_neg (by simp [hF])]
        rw [if_neg (by first | (simp [hx]; done) | (rw [hx]; decide))]
        rw [if_neg (by first | (simp [hx]; done) | (rw [hx]; decide))]
        exact st_f2_no b c c.toNat rfl b1 b2 b3 b4 (ne 93 hE) (ne 34 hF) f F w h hok hn1 ho hx
  · by_cases hE : c = 93
    · subst hE
      rw [if_pos (by first | (simp [hx]; done) | (rw [hx]; decide))]
      exact st_f3_end b f F w h hok hn1 ho hx
    · by_cases hF : c = 34
      · subst hF
        rw [if_neg (by first | (simp [hx]; done) | (rw [hx]; decide))]
        rw [if_neg (by first | (simp [hx]; done) | (rw [hx]; decide))]
        rw [if_pos (by first | (simp [hx]; done) | (rw [hx]; decide))]
        exact st_f3_name b f F w h hok hn1 hnow ho hx
      · rw [if_neg (by simp [hE])]
        rw [if_neg (by first | (simp [hx]; done) | (rw [hx]; decide))]
        rw [if_neg (by simp [hF])]
        rw [if_neg (by first | (simp [hx]; done) | (rw [hx]; decide))]
        rw [if_neg (by first | (simp [hx]; done) | (rw [hx]; decide))]
        exact st_f3_no b c c.toNat rfl b1 b2 b3 b4 (ne 93 hE) (ne 34 hF) f F w h hok hn1 ho hx
  · by_cases hE : c = 93
    · subst hE
      rw [if_neg (by first | (simp [hx]; done) | (rw [hx]; decide))]
      rw [if_neg (by first | (simp [hx]; done) | (rw [hx]; decide))]
      rw [if_neg (by first | (simp [hx]; done) | (rw [hx]; decide))]
      rw [if_neg (by first | (simp [hx]; done) | (rw [hx]; decide))]
      rw [if_neg (by first | (simp [hx]; done) | (rw [hx]; decide))]
      exact st_f4_end b f F w h hok hn1 ho hx
    · by_cases hF : c = 58
      · subst hF
        rw [if_neg (by first | (simp [hx]; done) | (rw [hx]; decide))]
        rw [if_neg (by first | (simp [hx]; done) | (rw [hx]; decide))]
        rw [if_neg (by first | (simp [hx]; done) | (rw [hx]; decide))]
        rw [if_pos (by first | (simp [hx]; done) | (rw [hx]; decide))]
        exact st_f4_colon b f F w h hok hn1 ho hx
      · rw [if_neg (by simp [hE])]
        rw [if_neg (by first | (simp [hx]; done) | (rw [hx]; decide))]
        rw [if_neg (by first | (simp [hx]; done) | (rw [hx]; decide))]
        rw [if_neg (by simp [hF])]
        rw [if_neg (by first | (simp [hx]; done) | (rw [hx]; decide))]
        exact st_f4_no b c c.toNat rfl b1 b2 b3 b4 (ne 93 hE) (ne 58 hF) f F w h hok hn1 ho hx
  · by_cases hE : c = 93
    · subst hE
      rw [if_pos (by first | (simp [hx]; done) | (rw [hx]; decide))]
      exact st_f5_end b f F w h hok hn1 ho hx
    · by_cases hF : c = 44
      · subst hF
        rw [if_neg (by first | (simp [hx]; done) | (rw [hx]; decide))]
        rw [if_neg (by first | (simp [hx]; done) | (rw [hx]; decide))]
        rw [if_neg (by first | (simp [hx]; done) | (rw [hx]; decide))]
        rw [if_neg (by first | (simp [hx]; done) | (rw [hx]; decide))]
        rw [if_pos (by first | (simp [hx]; done) | (rw [hx]; decide))]
        exact st_f5_comma b f F w h hok hn1 ho hx
      · rw [if_neg (by simp [hE])]
        rw [if_neg (by first | (simp [hx]; done) | (rw [hx]; decide))]
        rw [if_neg (by first | (simp [hx]; done) | (rw [hx]; decide))]
        rw [if_neg (by first | (simp [hx]; done) | (rw [hx]; decide))]
        rw [if_neg (by simp [hF])]
        exact st_f5_no b c c.toNat rfl b1 b2 b3 b4 (ne 93 hE) (ne 44 hF) f F w h hok hn1 ho hx
  · by_cases hE : c = 93
    · subst hE
      rw [if_neg (by first | (simp [hx]; done) | (rw [hx]; decide))]
      rw [if_neg (by first | (simp [hx]; done) | (rw [hx]; decide))]
      rw [if_neg (by first | (simp [hx]; done) | (rw [hx]; decide))]
      rw [if_neg (by first | (simp [hx]; done) | (rw [hx]; decide))]
      rw [if_neg (by first | (simp [hx]; done) | (rw [hx]; decide))]
      exact st_f6_end b f F w h hok hn1 ho hx
    · rw [if_neg (by simp [hE])]
      rw [if_neg (by first | (simp [hx]; done) | (rw [hx]; decide))]
      rw [if_neg (by first | (simp [hx]; done) | (rw [hx]; decide))]
      rw [if_neg (by first | (simp [hx]; done) | (rw [hx]; decide))]
      rw [if_neg (by first | (simp [hx]; done) | (rw [hx]; decide))]
      exact st_f6_no b c c.toNat rfl b1 b2 b3 b4 (ne 93 hE) f F w h hok hn1 ho hx
end
/-- structure, whole. -/
theorem structure_any (b : Nat) (c : UInt8) (f : J6.Feed) (F : Nat → Prop) (w : World) (h : FeedAt w b f F) (hok : J6.OkK 0 f) (hn1 : 1 ≤ f.n) (hnow : f.now = .none) :
    Calls Try.prog 28 #[.pointer (some ⟨b, 0, none⟩), .int .u8 c.toNat] w fun r w' => r = .returned (.tuple #[]) ∧ After w w' b (J6.structure_ f c) F := by
  cases hb : R6.blank c.toNat with
  | true =>
    have e : J6.structure_ f c = f := by unfold J6.structure_; rw [if_pos hb]
    rw [e]
    refine st_blank b c.toNat ?_ f F w h
    unfold R6.blank at hb
    simpa [or_assoc] using hb
  | false =>
    cases ho : J6.object f with
    | true => exact structure_t b c f F w h hok hn1 hnow hb ho
    | false => exact structure_f b c f F w h hok hn1 hnow hb ho
end Go.Proofs.Ytahojodgmjmpnaa
