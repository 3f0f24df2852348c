/-
  Several texts in one: The walk over jsonfeed's structure outside an object, case by case (printed by gen_yi.py). The walk over jsonfeed's finish (printed by gen_ym.py).
-/
import Derived.Test.YtahojodgmjmpnaaYhJ
import Derived.Test.YtahojodgmjmpnaaYlJ
/-! The walk over jsonfeed's structure outside an object, case by case (printed by gen_yi.py). -/
namespace Go.Proofs.Ytahojodgmjmpnaa
open Go.RowKit Go.Px
/-- A name begins. -/
def nameOn (f : J6.Feed) : Bool × J6.Feed → J6.Feed
  | (false, g) => g
  | (true, g) => match g.stack with
    | [] => g
    | x :: rest => { g with stack := { x with at_ := f.n - 1 } :: rest, now := .str J6.txt0, next := 2 }
theorem nameOn_true (f g : J6.Feed) (x : J6.Fm) (rest : List J6.Fm) (h : g.stack = x :: rest) : nameOn f (true, g) = { g with stack := { x with at_ := f.n - 1 } :: rest, now := .str J6.txt0, next := 2 } := by
  unfold nameOn
  simp only
  rw [h]
/-- The world behind 'object', and what is kept there. -/
theorem FeedAt.c7 {w : World} {b : Nat} {f : J6.Feed} {F : Nat → Prop} (h : FeedAt w b f F) : w.cell? ⟨b, 7, none⟩ = some (.int .i64 (f.next : Nat)) ∧ w.frozen? ⟨b, 7, none⟩ = false ∧ w.cell? ⟨b, 4, none⟩ = some (.int .i64 (f.n : Nat)) := by
  obtain ⟨vo, vs, tv, tb, ps, h, rfl⟩ := h
  exact ⟨cellOf h.blk 7 rfl, h.free 7, cellOf h.blk 4 rfl⟩
theorem After.refl {w : World} {b : Nat} {f : J6.Feed} {F : Nat → Prop} (h : FeedAt w b f F) : After w w b f F := ⟨F, h, Fr.refl _ _, Fresh.refl _ _⟩
theorem object_ok (b : Nat) (f : J6.Feed) (F : Nat → Prop) {k : Nat} (hok : J6.OkK k f) : ∀ w : World, FeedAt w b f F →
    Calls Try.prog 40 #[.pointer (some ⟨b, 0, none⟩)] w fun r w' => r = .returned (.bool (J6.object f)) ∧ Same w w' := fun w h => by
  have hm := J6.may_parts6 hok.may
  have h3 := hok.sd
  exact object_any b f F w h (by omega) (fun x hx => (hok.each x hx).1)
theorem over_ok (b : Nat) (f : J6.Feed) (F : Nat → Prop) (hsl : f.stack.length ≤ 32) : ∀ w : World, FeedAt w b f F →
    Calls Try.prog 39 #[.pointer (some ⟨b, 0, none⟩)] w fun r w' => r = .returned (.tuple #[]) ∧ After w w' b (J6.over f) F := fun w h => by
  refine (over_any b f F w h (by omega)).mono ?_
  rintro r w' ⟨rfl, h1, h2⟩
  exact ⟨rfl, F, h1, h2, Fresh.refl _ _⟩
set_option maxRecDepth 100000 in
set_option maxHeartbeats 4000000 in
theorem st_f0_end (b : Nat) (f : J6.Feed) (F : Nat → Prop) (w : World) (h : FeedAt w b f F) (hok : J6.OkK 0 f) (hn1 : 1 ≤ f.n) (hnow : f.now = .none) (ho : J6.object f = false) (hnx : f.next = 0) :
    Calls Try.prog 28 #[.pointer (some ⟨b, 0, none⟩), .int .u8 93] w fun r w' => r = .returned (.tuple #[]) ∧ After w w' b (J6.value f 93) F := by
  have hV : ∀ w : World, FeedAt w b f F → Calls Try.prog 41 #[.pointer (some ⟨b, 0, none⟩), .int .u8 93] w fun r w' => r = .returned (.tuple #[]) ∧ After w w' b (J6.value f 93) F := fun w h => by
    have := value_any b 93 f F w h hok hn1 hnow
    exact this
  have hob := object_ok b f F hok w h
  rw [ho] at hob
  have HW := Px.hid (wrap_n hok hn1)
  have HFA := Px.hid h
  have HOB := Px.hid hob
  have HV := Px.hid hV
  have hb : b < w.heap.size := h.lt b h.own
  have HNX := Px.hid hnx
  clear h hok hn1 hnow ho hob hV hnx
  go_enter Try.func28, Try.ntmps28
  go_wp2_with fail
  refine HOB.out.mono ?_
  rintro e w1 ⟨rfl, hS1⟩
  have HS := Px.hid hS1
  have HFA1 := Px.hid (HFA.out.same hS1)
  have hb1 : b < w1.heap.size := by have := hS1.size; omega
  have c7 : w1.cell? ⟨b, 7, none⟩ = some (.int .i64 0) := by have := HFA1.out.c7.1; rw [HNX.out] at this; exact this
  have f7 : w1.frozen? ⟨b, 7, none⟩ = false := HFA1.out.c7.2.1
  have c4 : w1.cell? ⟨b, 4, none⟩ = some (.int .i64 (f.n : Nat)) := HFA1.out.c7.2.2
  have hw4 := HW.out
  clear hS1
  go_wp2_with fail
  refine (HV.out _ HFA1.out).mono ?_
  rintro e w2 ⟨rfl, hA⟩
  have HA := Px.hid (After.ofFr (HS.out.fr F) hA)
  clear hA
  go_wp2
  go_end0
  exact ⟨rfl, HA.out⟩
set_option maxRecDepth 100000 in
set_option maxHeartbeats 4000000 in
theorem st_f0_on (b : Nat) (c : UInt8) (z : Nat) (hz : z = c.toNat) (b1 : z ≠ 32) (b2 : z ≠ 9) (b3 : z ≠ 10) (b4 : z ≠ 13) (b5 : z ≠ 93) (f : J6.Feed) (F : Nat → Prop) (w : World) (h : FeedAt w b f F) (hok : J6.OkK 0 f) (hn1 : 1 ≤ f.n) (hnow : f.now = .none) (ho : J6.object f = false) (hnx : f.next = 0) :
    Calls Try.prog 28 #[.pointer (some ⟨b, 0, none⟩), .int .u8 (z : Nat)] w fun r w' => r = .returned (.tuple #[]) ∧ After w w' b (J6.value f c) F := by
  have e1 : ((z : Int) == 32) = false := by simp; omega
  have e2 : ((z : Int) == 9) = false := by simp; omega
  have e3 : ((z : Int) == 10) = false := by simp; omega
  have e4 : ((z : Int) == 13) = false := by simp; omega
  have e5 : ((z : Int) == 93) = false := by simp; omega
  have hV : ∀ w : World, FeedAt w b f F → Calls Try.prog 41 #[.pointer (some ⟨b, 0, none⟩), .int .u8 (z : Nat)] w fun r w' => r = .returned (.tuple #[]) ∧ After w w' b (J6.value f c) F := fun w h => by
    rw [hz]; have := value_any b c f F w h hok hn1 hnow
    exact this
  have hob := object_ok b f F hok w h
  rw [ho] at hob
  have HW := Px.hid (wrap_n hok hn1)
  have HFA := Px.hid h
  have HOB := Px.hid hob
  have HV := Px.hid hV
  have hb : b < w.heap.size := h.lt b h.own
  have HNX := Px.hid hnx
  clear h hok hn1 hnow ho hob hV hnx hz b1 b2 b3 b4 b5
  go_enter Try.func28, Try.ntmps28
  go_wp2_with fail
  refine HOB.out.mono ?_
  rintro e w1 ⟨rfl, hS1⟩
  have HS := Px.hid hS1
  have HFA1 := Px.hid (HFA.out.same hS1)
  have hb1 : b < w1.heap.size := by have := hS1.size; omega
  have c7 : w1.cell? ⟨b, 7, none⟩ = some (.int .i64 0) := by have := HFA1.out.c7.1; rw [HNX.out] at this; exact this
  have f7 : w1.frozen? ⟨b, 7, none⟩ = false := HFA1.out.c7.2.1
  have c4 : w1.cell? ⟨b, 4, none⟩ = some (.int .i64 (f.n : Nat)) := HFA1.out.c7.2.2
  have hw4 := HW.out
  clear hS1
  go_wp2_with fail
  refine (HV.out _ HFA1.out).mono ?_
  rintro e w2 ⟨rfl, hA⟩
  have HA := Px.hid (After.ofFr (HS.out.fr F) hA)
  clear hA
  go_wp2
  go_end0
  exact ⟨rfl, HA.out⟩
set_option maxRecDepth 100000 in
set_option maxHeartbeats 4000000 in
theorem st_f1_end (b : Nat) (f : J6.Feed) (F : Nat → Prop) (w : World) (h : FeedAt w b f F) (hok : J6.OkK 0 f) (hn1 : 1 ≤ f.n) (ho : J6.object f = false) (hnx : f.next = 1) :
    Calls Try.prog 28 #[.pointer (some ⟨b, 0, none⟩), .int .u8 93] w fun r w' => r = .returned (.tuple #[]) ∧ After w w' b (J6.over { f with stack := f.stack.tail }) F := by
  have hm := J6.may_parts6 hok.may
  have hsd := hok.sd
  have hsl : f.stack.length ≤ 32 := by omega
  have hne := hok.st (by omega) (by omega)
  have hV := fun F1 => over_ok b { f with stack := f.stack.tail } F1 (by show f.stack.tail.length ≤ 32; simp; omega)
  have HNE := Px.hid (And.intro hne hsl)
  clear hm hsd hsl hne
  have hob := object_ok b f F hok w h
  rw [ho] at hob
  have HW := Px.hid (wrap_n hok hn1)
  have HFA := Px.hid h
  have HOB := Px.hid hob
  have HV := Px.hid hV
  have hb : b < w.heap.size := h.lt b h.own
  have HNX := Px.hid hnx
  clear h hok hn1 ho hob hV hnx
  go_enter Try.func28, Try.ntmps28
  go_wp2_with fail
  refine HOB.out.mono ?_
  rintro e w1 ⟨rfl, hS1⟩
  have HS := Px.hid hS1
  have HFA1 := Px.hid (HFA.out.same hS1)
  have hb1 : b < w1.heap.size := by have := hS1.size; omega
  have c7 : w1.cell? ⟨b, 7, none⟩ = some (.int .i64 1) := by have := HFA1.out.c7.1; rw [HNX.out] at this; exact this
  have f7 : w1.frozen? ⟨b, 7, none⟩ = false := HFA1.out.c7.2.1
  have c4 : w1.cell? ⟨b, 4, none⟩ = some (.int .i64 (f.n : Nat)) := HFA1.out.c7.2.2
  have hw4 := HW.out
  clear hS1
  obtain ⟨vo, vs, tv, tb, ps, h1, hF⟩ := HFA1.out
  obtain ⟨x, rest, hst⟩ : ∃ x rest, f.stack = x :: rest := by
    cases hs : f.stack with
    | nil => exact absurd hs HNE.out.1
    | cons x r => exact ⟨x, r, rfl⟩
  obtain ⟨vn, ps2, hps, hm, g, cap', hsv, hc1, hc2, k0, k1, k2, kf⟩ := h1.top hst
  subst hps
  subst hsv
  have hlt1 : b < w1.heap.size := h1.lt
  have c6 : w1.cell? ⟨b, 6, none⟩ = some (.slice (some ⟨g, 0, none⟩) (ps2.length + 1) cap') := cellOf h1.blk 6 rfl
  have f6 := h1.free 6
  have hpl : ps2.length ≤ 32 := by have h2 := congrArg List.length hm; rw [List.length_map] at h2; have h3 := HNE.out.2; rw [hst] at h3; simp at h3; omega
  have htl : f.stack.tail = ps2.map Prod.fst := by rw [hst, hm]; rfl
  have H1 := Px.hid (And.intro h1 (And.intro hF htl))
  unfold maxLen at hc2
  clear h1 hF hst hm k0 k1 k2 kf htl
  go_upto_region 6 with fail
  go_region
  have hP : After w1 ((w1.setCell ⟨b, 6, none⟩ (.slice (some ⟨g, 0, none⟩) ps2.length cap')).drew) b { f with stack := f.stack.tail } F := by
    rw [H1.out.2.2, H1.out.2.1]
    exact ⟨_, ⟨_, _, _, _, _, H1.out.1.pop.drew, rfl⟩, ((Fr.refl _ _).setCell (p := ⟨b, 6, none⟩) (.inl (.inl rfl)) _).drew, Fresh.foot (fun _ e => .inl (blocks_pop e))⟩
  obtain ⟨F2, hF2, hfr2, hfn2⟩ := hP
  have HP := Px.hid (And.intro hF2 (And.intro hfr2 hfn2))
  obtain ⟨WP, hWP⟩ : ∃ WP, WP = (w1.setCell ⟨b, 6, none⟩ (.slice (some ⟨g, 0, none⟩) ps2.length cap')).drew := ⟨_, rfl⟩
  rw [← hWP] at HP ⊢
  clear hWP hF2 hfr2 hfn2 c6 f6
  go_wp2_with fail
  refine (HV.out F2 WP HP.out.1).mono ?_
  rintro e w2 ⟨rfl, hA⟩
  obtain ⟨F3, a1, a2, a3⟩ := hA
  have HA := Px.hid (After.ofFr (HS.out.fr F) (show After w1 w2 b (J6.over { f with stack := f.stack.tail }) F from ⟨F3, a1, HP.out.2.1.step HP.out.2.2 a2, Fresh.trans HP.out.2.2 HP.out.2.1.size a3⟩))
  clear a1 a2 a3
  go_wp2
  go_end0
  exact ⟨rfl, HA.out⟩
set_option maxRecDepth 100000 in
set_option maxHeartbeats 4000000 in
theorem st_f1_on (b : Nat) (c : UInt8) (z : Nat) (hz : z = c.toNat) (b1 : z ≠ 32) (b2 : z ≠ 9) (b3 : z ≠ 10) (b4 : z ≠ 13) (b5 : z ≠ 93) (f : J6.Feed) (F : Nat → Prop) (w : World) (h : FeedAt w b f F) (hok : J6.OkK 0 f) (hn1 : 1 ≤ f.n) (hnow : f.now = .none) (ho : J6.object f = false) (hnx : f.next = 1) :
    Calls Try.prog 28 #[.pointer (some ⟨b, 0, none⟩), .int .u8 (z : Nat)] w fun r w' => r = .returned (.tuple #[]) ∧ After w w' b (J6.value f c) F := by
  have e1 : ((z : Int) == 32) = false := by simp; omega
  have e2 : ((z : Int) == 9) = false := by simp; omega
  have e3 : ((z : Int) == 10) = false := by simp; omega
  have e4 : ((z : Int) == 13) = false := by simp; omega
  have e5 : ((z : Int) == 93) = false := by simp; omega
  have hV : ∀ w : World, FeedAt w b f F → Calls Try.prog 41 #[.pointer (some ⟨b, 0, none⟩), .int .u8 (z : Nat)] w fun r w' => r = .returned (.tuple #[]) ∧ After w w' b (J6.value f c) F := fun w h => by
    rw [hz]; have := value_any b c f F w h hok hn1 hnow
    exact this
  have hob := object_ok b f F hok w h
  rw [ho] at hob
  have HW := Px.hid (wrap_n hok hn1)
  have HFA := Px.hid h
  have HOB := Px.hid hob
  have HV := Px.hid hV
  have hb : b < w.heap.size := h.lt b h.own
  have HNX := Px.hid hnx
  clear h hok hn1 hnow ho hob hV hnx hz b1 b2 b3 b4 b5
  go_enter Try.func28, Try.ntmps28
  go_wp2_with fail
  refine HOB.out.mono ?_
  rintro e w1 ⟨rfl, hS1⟩
  have HS := Px.hid hS1
  have HFA1 := Px.hid (HFA.out.same hS1)
  have hb1 : b < w1.heap.size := by have := hS1.size; omega
  have c7 : w1.cell? ⟨b, 7, none⟩ = some (.int .i64 1) := by have := HFA1.out.c7.1; rw [HNX.out] at this; exact this
  have f7 : w1.frozen? ⟨b, 7, none⟩ = false := HFA1.out.c7.2.1
  have c4 : w1.cell? ⟨b, 4, none⟩ = some (.int .i64 (f.n : Nat)) := HFA1.out.c7.2.2
  have hw4 := HW.out
  clear hS1
  go_wp2_with fail
  refine (HV.out _ HFA1.out).mono ?_
  rintro e w2 ⟨rfl, hA⟩
  have HA := Px.hid (After.ofFr (HS.out.fr F) hA)
  clear hA
  go_wp2
  go_end0
  exact ⟨rfl, HA.out⟩
set_option maxRecDepth 100000 in
set_option maxHeartbeats 4000000 in
theorem st_f2_end (b : Nat) (f : J6.Feed) (F : Nat → Prop) (w : World) (h : FeedAt w b f F) (hok : J6.OkK 0 f) (hn1 : 1 ≤ f.n) (ho : J6.object f = false) (hnx : f.next = 2) :
    Calls Try.prog 28 #[.pointer (some ⟨b, 0, none⟩), .int .u8 93] w fun r w' => r = .returned (.tuple #[]) ∧ After w w' b (J6.wrong f (f.n - 1 : Nat) 9) F := by
  have hV := wrong_here b 9 f F hn1
  have hob := object_ok b f F hok w h
  rw [ho] at hob
  have HW := Px.hid (wrap_n hok hn1)
  have HFA := Px.hid h
  have HOB := Px.hid hob
  have HV := Px.hid hV
  have hb : b < w.heap.size := h.lt b h.own
  have HNX := Px.hid hnx
  clear h hok hn1 ho hob hV hnx
  go_enter Try.func28, Try.ntmps28
  go_wp2_with fail
  refine HOB.out.mono ?_
  rintro e w1 ⟨rfl, hS1⟩
  have HS := Px.hid hS1
  have HFA1 := Px.hid (HFA.out.same hS1)
  have hb1 : b < w1.heap.size := by have := hS1.size; omega
  have c7 : w1.cell? ⟨b, 7, none⟩ = some (.int .i64 2) := by have := HFA1.out.c7.1; rw [HNX.out] at this; exact this
  have f7 : w1.frozen? ⟨b, 7, none⟩ = false := HFA1.out.c7.2.1
  have c4 : w1.cell? ⟨b, 4, none⟩ = some (.int .i64 (f.n : Nat)) := HFA1.out.c7.2.2
  have hw4 := HW.out
  clear hS1
  go_wp2_with fail
  refine (HV.out _ HFA1.out).mono ?_
  rintro e w2 ⟨rfl, hA⟩
  have HA := Px.hid (After.ofFr (HS.out.fr F) hA)
  clear hA
  go_wp2
  go_end0
  exact ⟨rfl, HA.out⟩
set_option maxRecDepth 100000 in
set_option maxHeartbeats 4000000 in
theorem st_f2_name (b : Nat) (f : J6.Feed) (F : Nat → Prop) (w : World) (h : FeedAt w b f F) (hok : J6.OkK 0 f) (hn1 : 1 ≤ f.n) (hnow : f.now = .none) (ho : J6.object f = false) (hnx : f.next = 2) :
    Calls Try.prog 28 #[.pointer (some ⟨b, 0, none⟩), .int .u8 34] w fun r w' => r = .returned (.tuple #[]) ∧ After w w' b (nameOn f (J6.one f ⟨4, 0, []⟩)) F := by
  have hV := one_ok b f ⟨4, 0, []⟩ F hok hn1
  have hkeep := hok.one ⟨4, 0, []⟩ rfl
  have hgn := hkeep.2.2.1
  have hgs := hkeep.2.2.2.2.2.1
  have hgk := hkeep.2.2.2.2.1
  have hm := J6.may_parts6 hok.may
  have hsd := hok.sd
  have hsl : f.stack.length ≤ 32 := by omega
  have hne := hok.st (by omega) (by omega)
  have hw1 := wrap_n hok hn1
  obtain ⟨⟨r1, g⟩, hres⟩ : ∃ r, J6.one f ⟨4, 0, []⟩ = r := ⟨_, rfl⟩
  simp only [hres] at hV hgn hgs hgk
  rw [hres]
  rw [hnow] at hgn
  have HK := Px.hid (And.intro hgn (And.intro hgs (And.intro hsl (And.intro hne (And.intro hgk hn1)))))
  clear hkeep hgn hgs hm hsd hsl hne hres hgk
  have hob := object_ok b f F hok w h
  rw [ho] at hob
  have HW := Px.hid (wrap_n hok hn1)
  have HFA := Px.hid h
  have HOB := Px.hid hob
  have HV := Px.hid hV
  have hb : b < w.heap.size := h.lt b h.own
  have HNX := Px.hid hnx
  clear h hok hn1 hnow ho hob hV hnx
  go_enter Try.func28, Try.ntmps28
  go_wp2_with fail
  refine HOB.out.mono ?_
  rintro e w1 ⟨rfl, hS1⟩
  have HS := Px.hid hS1
  have HFA1 := Px.hid (HFA.out.same hS1)
  have hb1 : b < w1.heap.size := by have := hS1.size; omega
  have c7 : w1.cell? ⟨b, 7, none⟩ = some (.int .i64 2) := by have := HFA1.out.c7.1; rw [HNX.out] at this; exact this
  have f7 : w1.frozen? ⟨b, 7, none⟩ = false := HFA1.out.c7.2.1
  have c4 : w1.cell? ⟨b, 4, none⟩ = some (.int .i64 (f.n : Nat)) := HFA1.out.c7.2.2
  have hw4 := HW.out
  clear hS1
  go_wp2_with fail
  refine (HV.out _ HFA1.out).mono ?_
  rintro e w2 ⟨rfl, hA⟩
  have HA := Px.hid (After.ofFr (HS.out.fr F) hA)
  clear hA
  cases r1 with
  | false =>
    go_wp2
    go_end0
    exact ⟨rfl, HA.out⟩
  | true =>
    obtain ⟨F2, hF2, hfr2, hfn2⟩ := HA.out
    obtain ⟨vo, vs, tv, tb, ps, h1, hF2e⟩ := hF2
    obtain ⟨x, rest, hst⟩ : ∃ x rest, g.stack = x :: rest := by
      cases hs : g.stack with
      | nil => exact absurd (HK.out.2.1.symm.trans hs) HK.out.2.2.2.1
      | cons x r => exact ⟨x, r, rfl⟩
    obtain ⟨vn, ps2, hps, hm, sg, cap', hsv, hc1, hc2, k0, k1, k2, kf⟩ := h1.top hst
    subst hps
    subst hsv
    have hlt1 : b < w2.heap.size := h1.lt
    have c6 : w2.cell? ⟨b, 6, none⟩ = some (.slice (some ⟨sg, 0, none⟩) (ps2.length + 1) cap') := cellOf h1.blk 6 rfl
    have c4' : w2.cell? ⟨b, 4, none⟩ = some (.int .i64 (f.n : Nat)) := by rw [← HK.out.2.2.2.2.1]; exact cellOf h1.blk 4 rfl
    have kf1 := kf (ps2.length * 3 + 1)
    have hpl : ps2.length ≤ 32 := by have h2 := congrArg List.length hm; rw [List.length_map] at h2; have h3 := HK.out.2.2.1; rw [← HK.out.2.1, hst] at h3; simp at h3; omega
    have HM := Px.hid (And.intro hst hm)
    have H1 := Px.hid (And.intro h1 (And.intro hF2e (And.intro hfr2 hfn2)))
    unfold maxLen at hc2
    clear h1 hF2e hst hm k0 k2 kf hfr2 hfn2
    go_upto_region 12 with fail
    go_region
    have hn1' : ((f.n - 1 : Nat) : Int) = (f.n : Int) - 1 := by have := HK.out.2.2.2.2.2; omega
    have hT : FeedRep (w2.setCell ⟨sg, ps2.length * 3 + 1, none⟩ (.int .i64 ((f.n : Int) - 1))) b { g with stack := { x with at_ := f.n - 1 } :: ps2.map Prod.fst } vo (.slice (some ⟨sg, 0, none⟩) (ps2.length + 1) cap') tv tb (({ x with at_ := f.n - 1 }, vn) :: ps2) :=
      H1.out.1.setTop (x' := { x with at_ := f.n - 1 }) 1 (.int .i64 ((f.n : Int) - 1)) (by rw [← hn1']; rfl) rfl
    have hbl : ∀ k, some k ∈ blocks vo (.slice (some ⟨sg, 0, none⟩) (ps2.length + 1) cap') tb (({ x with at_ := f.n - 1 }, vn) :: ps2) → some k ∈ blocks vo (.slice (some ⟨sg, 0, none⟩) (ps2.length + 1) cap') tb ((x, vn) :: ps2) := fun k e => by simpa [blocks, nmBlocks] using e
    have hP : After w2 ((w2.setCell ⟨sg, ps2.length * 3 + 1, none⟩ (.int .i64 ((f.n : Int) - 1))).drew) b { g with stack := { x with at_ := f.n - 1 } :: rest } F2 := by
      rw [H1.out.2.1, ← HM.out.2]
      exact ⟨_, ⟨_, _, _, _, _, hT.drew, rfl⟩, ((Fr.refl _ _).setCell (p := ⟨sg, ps2.length * 3 + 1, none⟩) (.inl (.inr (mem_blocks.2 (.inr (.inl rfl))))) _).drew, Fresh.foot (fun k e => .inl (hbl k e))⟩
    clear hT hbl hn1'
    have hP2 : After w ((w2.setCell ⟨sg, ps2.length * 3 + 1, none⟩ (.int .i64 ((f.n : Int) - 1))).drew) b { g with stack := { x with at_ := f.n - 1 } :: rest } F := by
      obtain ⟨F3, a1, a2, a3⟩ := hP
      exact ⟨F3, a1, H1.out.2.2.1.step H1.out.2.2.2 a2, Fresh.trans H1.out.2.2.2 H1.out.2.2.1.size a3⟩
    clear hP
    have HP := Px.hid hP2
    obtain ⟨WP, hWP⟩ : ∃ WP, WP = (w2.setCell ⟨sg, ps2.length * 3 + 1, none⟩ (.int .i64 ((f.n : Int) - 1))).drew := ⟨_, rfl⟩
    rw [← hWP] at HP ⊢
    clear hWP hP2 c6 c4' kf1 k1 hc1 hc2 hpl hw1
    have c8 : WP.cell? ⟨b, 8, none⟩ = some .nilIface := by obtain ⟨F', h1, _, _⟩ := HP.out; exact (h1.c8 HK.out.1).1
    have f8 : WP.frozen? ⟨b, 8, none⟩ = false := by obtain ⟨F', h1, _, _⟩ := HP.out; exact (h1.c8 HK.out.1).2
    have k7 := HP.out.c7.1
    have f7' := HP.out.c7.2
    have hbl2 : b < WP.heap.size := by obtain ⟨F', h1, _, _⟩ := HP.out; exact h1.lt b h1.own
    go_wp2
    go_end0
    rw [nameOn_true f g x rest HM.out.1]
    refine ⟨rfl, ?_⟩
    have ht0 := tok_text (WP.alloc (.cells #[.int .i64 0, .slice none 0 0, .int .i32 0, .int .i64 0, .int .i32 0, .int .u8 0, .int .u8 0] 89 (0, 0))) WP.heap.size (heap_alloc_new WP _)
    have hq : After w ((WP.alloc (.cells #[.int .i64 0, .slice none 0 0, .int .i32 0, .int .i64 0, .int .i32 0, .int .u8 0, .int .u8 0] 89 (0, 0))).setCell ⟨b, 8, none⟩ (.iface 87 (.pointer (some ⟨WP.heap.size, 0, none⟩)))) b { g with stack := { x with at_ := f.n - 1 } :: rest, now := .str J6.txt0 } F :=
      HP.out.then fun F1 h => After.tok (g := { g with stack := { x with at_ := f.n - 1 } :: rest }) h.lt h.own ((Fr.refl F1 WP).alloc _) (After.refl (h.same ((Fr.refl _ WP).alloc _))) HK.out.1 ht0 (fun k hk => by simp at hk; omega)
    have hq2 := hq.setNext 2
    rw [World.setCell_alloc_past _ _ _ _ hbl2, World.setCell_alloc_past _ _ _ _ (by simpa [World.setCell] using hbl2)] at hq2
    exact hq2
set_option maxRecDepth 100000 in
set_option maxHeartbeats 4000000 in
theorem st_f2_no (b : Nat) (c : UInt8) (z : Nat) (hz : z = c.toNat) (b1 : z ≠ 32) (b2 : z ≠ 9) (b3 : z ≠ 10) (b4 : z ≠ 13) (b5 : z ≠ 93) (b6 : z ≠ 34) (f : J6.Feed) (F : Nat → Prop) (w : World) (h : FeedAt w b f F) (hok : J6.OkK 0 f) (hn1 : 1 ≤ f.n) (ho : J6.object f = false) (hnx : f.next = 2) :
    Calls Try.prog 28 #[.pointer (some ⟨b, 0, none⟩), .int .u8 (z : Nat)] w fun r w' => r = .returned (.tuple #[]) ∧ After w w' b (J6.wrong f (f.n - 1 : Nat) 9) F := by
  have e1 : ((z : Int) == 32) = false := by simp; omega
  have e2 : ((z : Int) == 9) = false := by simp; omega
  have e3 : ((z : Int) == 10) = false := by simp; omega
  have e4 : ((z : Int) == 13) = false := by simp; omega
  have e5 : ((z : Int) == 93) = false := by simp; omega
  have e6 : ((z : Int) == 34) = false := by simp; omega
  have hV := wrong_here b 9 f F hn1
  have hob := object_ok b f F hok w h
  rw [ho] at hob
  have HW := Px.hid (wrap_n hok hn1)
  have HFA := Px.hid h
  have HOB := Px.hid hob
  have HV := Px.hid hV
  have hb : b < w.heap.size := h.lt b h.own
  have HNX := Px.hid hnx
  clear h hok hn1 ho hob hV hnx hz b1 b2 b3 b4 b5 b6
  go_enter Try.func28, Try.ntmps28
  go_wp2_with fail
  refine HOB.out.mono ?_
  rintro e w1 ⟨rfl, hS1⟩
  have HS := Px.hid hS1
  have HFA1 := Px.hid (HFA.out.same hS1)
  have hb1 : b < w1.heap.size := by have := hS1.size; omega
  have c7 : w1.cell? ⟨b, 7, none⟩ = some (.int .i64 2) := by have := HFA1.out.c7.1; rw [HNX.out] at this; exact this
  have f7 : w1.frozen? ⟨b, 7, none⟩ = false := HFA1.out.c7.2.1
  have c4 : w1.cell? ⟨b, 4, none⟩ = some (.int .i64 (f.n : Nat)) := HFA1.out.c7.2.2
  have hw4 := HW.out
  clear hS1
  go_wp2_with fail
  refine (HV.out _ HFA1.out).mono ?_
  rintro e w2 ⟨rfl, hA⟩
  have HA := Px.hid (After.ofFr (HS.out.fr F) hA)
  clear hA
  go_wp2
  go_end0
  exact ⟨rfl, HA.out⟩
set_option maxRecDepth 100000 in
set_option maxHeartbeats 4000000 in
theorem st_f3_end (b : Nat) (f : J6.Feed) (F : Nat → Prop) (w : World) (h : FeedAt w b f F) (hok : J6.OkK 0 f) (hn1 : 1 ≤ f.n) (ho : J6.object f = false) (hnx : f.next = 3) :
    Calls Try.prog 28 #[.pointer (some ⟨b, 0, none⟩), .int .u8 93] w fun r w' => r = .returned (.tuple #[]) ∧ After w w' b (J6.over { f with stack := f.stack.tail }) F := by
  have hm := J6.may_parts6 hok.may
  have hsd := hok.sd
  have hsl : f.stack.length ≤ 32 := by omega
  have hne := hok.st (by omega) (by omega)
  have hV := fun F1 => over_ok b { f with stack := f.stack.tail } F1 (by show f.stack.tail.length ≤ 32; simp; omega)
  have HNE := Px.hid (And.intro hne hsl)
  clear hm hsd hsl hne
  have hob := object_ok b f F hok w h
  rw [ho] at hob
  have HW := Px.hid (wrap_n hok hn1)
  have HFA := Px.hid h
  have HOB := Px.hid hob
  have HV := Px.hid hV
  have hb : b < w.heap.size := h.lt b h.own
  have HNX := Px.hid hnx
  clear h hok hn1 ho hob hV hnx
  go_enter Try.func28, Try.ntmps28
  go_wp2_with fail
  refine HOB.out.mono ?_
  rintro e w1 ⟨rfl, hS1⟩
  have HS := Px.hid hS1
  have HFA1 := Px.hid (HFA.out.same hS1)
  have hb1 : b < w1.heap.size := by have := hS1.size; omega
  have c7 : w1.cell? ⟨b, 7, none⟩ = some (.int .i64 3) := by have := HFA1.out.c7.1; rw [HNX.out] at this; exact this
  have f7 : w1.frozen? ⟨b, 7, none⟩ = false := HFA1.out.c7.2.1
  have c4 : w1.cell? ⟨b, 4, none⟩ = some (.int .i64 (f.n : Nat)) := HFA1.out.c7.2.2
  have hw4 := HW.out
  clear hS1
  obtain ⟨vo, vs, tv, tb, ps, h1, hF⟩ := HFA1.out
  obtain ⟨x, rest, hst⟩ : ∃ x rest, f.stack = x :: rest := by
    cases hs : f.stack with
    | nil => exact absurd hs HNE.out.1
    | cons x r => exact ⟨x, r, rfl⟩
  obtain ⟨vn, ps2, hps, hm, g, cap', hsv, hc1, hc2, k0, k1, k2, kf⟩ := h1.top hst
  subst hps
  subst hsv
  have hlt1 : b < w1.heap.size := h1.lt
  have c6 : w1.cell? ⟨b, 6, none⟩ = some (.slice (some ⟨g, 0, none⟩) (ps2.length + 1) cap') := cellOf h1.blk 6 rfl
  have f6 := h1.free 6
  have hpl : ps2.length ≤ 32 := by have h2 := congrArg List.length hm; rw [List.length_map] at h2; have h3 := HNE.out.2; rw [hst] at h3; simp at h3; omega
  have htl : f.stack.tail = ps2.map Prod.fst := by rw [hst, hm]; rfl
  have H1 := Px.hid (And.intro h1 (And.intro hF htl))
  unfold maxLen at hc2
  clear h1 hF hst hm k0 k1 k2 kf htl
  go_upto_region 6 with fail
  go_region
  have hP : After w1 ((w1.setCell ⟨b, 6, none⟩ (.slice (some ⟨g, 0, none⟩) ps2.length cap')).drew) b { f with stack := f.stack.tail } F := by
    rw [H1.out.2.2, H1.out.2.1]
    exact ⟨_, ⟨_, _, _, _, _, H1.out.1.pop.drew, rfl⟩, ((Fr.refl _ _).setCell (p := ⟨b, 6, none⟩) (.inl (.inl rfl)) _).drew, Fresh.foot (fun _ e => .inl (blocks_pop e))⟩
  obtain ⟨F2, hF2, hfr2, hfn2⟩ := hP
  have HP := Px.hid (And.intro hF2 (And.intro hfr2 hfn2))
  obtain ⟨WP, hWP⟩ : ∃ WP, WP = (w1.setCell ⟨b, 6, none⟩ (.slice (some ⟨g, 0, none⟩) ps2.length cap')).drew := ⟨_, rfl⟩
  rw [← hWP] at HP ⊢
  clear hWP hF2 hfr2 hfn2 c6 f6
  go_wp2_with fail
  refine (HV.out F2 WP HP.out.1).mono ?_
  rintro e w2 ⟨rfl, hA⟩
  obtain ⟨F3, a1, a2, a3⟩ := hA
  have HA := Px.hid (After.ofFr (HS.out.fr F) (show After w1 w2 b (J6.over { f with stack := f.stack.tail }) F from ⟨F3, a1, HP.out.2.1.step HP.out.2.2 a2, Fresh.trans HP.out.2.2 HP.out.2.1.size a3⟩))
  clear a1 a2 a3
  go_wp2
  go_end0
  exact ⟨rfl, HA.out⟩
set_option maxRecDepth 100000 in
set_option maxHeartbeats 4000000 in
theorem st_f3_name (b : Nat) (f : J6.Feed) (F : Nat → Prop) (w : World) (h : FeedAt w b f F) (hok : J6.OkK 0 f) (hn1 : 1 ≤ f.n) (hnow : f.now = .none) (ho : J6.object f = false) (hnx : f.next = 3) :
    Calls Try.prog 28 #[.pointer (some ⟨b, 0, none⟩), .int .u8 34] w fun r w' => r = .returned (.tuple #[]) ∧ After w w' b (nameOn f (J6.one f ⟨4, 0, []⟩)) F := by
  have hV := one_ok b f ⟨4, 0, []⟩ F hok hn1
  have hkeep := hok.one ⟨4, 0, []⟩ rfl
  have hgn := hkeep.2.2.1
  have hgs := hkeep.2.2.2.2.2.1
  have hgk := hkeep.2.2.2.2.1
  have hm := J6.may_parts6 hok.may
  have hsd := hok.sd
  have hsl : f.stack.length ≤ 32 := by omega
  have hne := hok.st (by omega) (by omega)
  have hw1 := wrap_n hok hn1
  obtain ⟨⟨r1, g⟩, hres⟩ : ∃ r, J6.one f ⟨4, 0, []⟩ = r := ⟨_, rfl⟩
  simp only [hres] at hV hgn hgs hgk
  rw [hres]
  rw [hnow] at hgn
  have HK := Px.hid (And.intro hgn (And.intro hgs (And.intro hsl (And.intro hne (And.intro hgk hn1)))))
  clear hkeep hgn hgs hm hsd hsl hne hres hgk
  have hob := object_ok b f F hok w h
  rw [ho] at hob
  have HW := Px.hid (wrap_n hok hn1)
  have HFA := Px.hid h
  have HOB := Px.hid hob
  have HV := Px.hid hV
  have hb : b < w.heap.size := h.lt b h.own
  have HNX := Px.hid hnx
  clear h hok hn1 hnow ho hob hV hnx
  go_enter Try.func28, Try.ntmps28
  go_wp2_with fail
  refine HOB.out.mono ?_
  rintro e w1 ⟨rfl, hS1⟩
  have HS := Px.hid hS1
  have HFA1 := Px.hid (HFA.out.same hS1)
  have hb1 : b < w1.heap.size := by have := hS1.size; omega
  have c7 : w1.cell? ⟨b, 7, none⟩ = some (.int .i64 3) := by have := HFA1.out.c7.1; rw [HNX.out] at this; exact this
  have f7 : w1.frozen? ⟨b, 7, none⟩ = false := HFA1.out.c7.2.1
  have c4 : w1.cell? ⟨b, 4, none⟩ = some (.int .i64 (f.n : Nat)) := HFA1.out.c7.2.2
  have hw4 := HW.out
  clear hS1
  go_wp2_with fail
  refine (HV.out _ HFA1.out).mono ?_
  rintro e w2 ⟨rfl, hA⟩
  have HA := Px.hid (After.ofFr (HS.out.fr F) hA)
  clear hA
  cases r1 with
  | false =>
    go_wp2
    go_end0
    exact ⟨rfl, HA.out⟩
  | true =>
    obtain ⟨F2, hF2, hfr2, hfn2⟩ := HA.out
    obtain ⟨vo, vs, tv, tb, ps, h1, hF2e⟩ := hF2
    obtain ⟨x, rest, hst⟩ : ∃ x rest, g.stack = x :: rest := by
      cases hs : g.stack with
      | nil => exact absurd (HK.out.2.1.symm.trans hs) HK.out.2.2.2.1
      | cons x r => exact ⟨x, r, rfl⟩
    obtain ⟨vn, ps2, hps, hm, sg, cap', hsv, hc1, hc2, k0, k1, k2, kf⟩ := h1.top hst
    subst hps
    subst hsv
    have hlt1 : b < w2.heap.size := h1.lt
    have c6 : w2.cell? ⟨b, 6, none⟩ = some (.slice (some ⟨sg, 0, none⟩) (ps2.length + 1) cap') := cellOf h1.blk 6 rfl
    have c4' : w2.cell? ⟨b, 4, none⟩ = some (.int .i64 (f.n : Nat)) := by rw [← HK.out.2.2.2.2.1]; exact cellOf h1.blk 4 rfl
    have kf1 := kf (ps2.length * 3 + 1)
    have hpl : ps2.length ≤ 32 := by have h2 := congrArg List.length hm; rw [List.length_map] at h2; have h3 := HK.out.2.2.1; rw [← HK.out.2.1, hst] at h3; simp at h3; omega
    have HM := Px.hid (And.intro hst hm)
    have H1 := Px.hid (And.intro h1 (And.intro hF2e (And.intro hfr2 hfn2)))
    unfold maxLen at hc2
    clear h1 hF2e hst hm k0 k2 kf hfr2 hfn2
    go_upto_region 12 with fail
    go_region
    have hn1' : ((f.n - 1 : Nat) : Int) = (f.n : Int) - 1 := by have := HK.out.2.2.2.2.2; omega
    have hT : FeedRep (w2.setCell ⟨sg, ps2.length * 3 + 1, none⟩ (.int .i64 ((f.n : Int) - 1))) b { g with stack := { x with at_ := f.n - 1 } :: ps2.map Prod.fst } vo (.slice (some ⟨sg, 0, none⟩) (ps2.length + 1) cap') tv tb (({ x with at_ := f.n - 1 }, vn) :: ps2) :=
      H1.out.1.setTop (x' := { x with at_ := f.n - 1 }) 1 (.int .i64 ((f.n : Int) - 1)) (by rw [← hn1']; rfl) rfl
    have hbl : ∀ k, some k ∈ blocks vo (.slice (some ⟨sg, 0, none⟩) (ps2.length + 1) cap') tb (({ x with at_ := f.n - 1 }, vn) :: ps2) → some k ∈ blocks vo (.slice (some ⟨sg, 0, none⟩) (ps2.length + 1) cap') tb ((x, vn) :: ps2) := fun k e => by simpa [blocks, nmBlocks] using e
    have hP : After w2 ((w2.setCell ⟨sg, ps2.length * 3 + 1, none⟩ (.int .i64 ((f.n : Int) - 1))).drew) b { g with stack := { x with at_ := f.n - 1 } :: rest } F2 := by
      rw [H1.out.2.1, ← HM.out.2]
      exact ⟨_, ⟨_, _, _, _, _, hT.drew, rfl⟩, ((Fr.refl _ _).setCell (p := ⟨sg, ps2.length * 3 + 1, none⟩) (.inl (.inr (mem_blocks.2 (.inr (.inl rfl))))) _).drew, Fresh.foot (fun k e => .inl (hbl k e))⟩
    clear hT hbl hn1'
    have hP2 : After w ((w2.setCell ⟨sg, ps2.length * 3 + 1, none⟩ (.int .i64 ((f.n : Int) - 1))).drew) b { g with stack := { x with at_ := f.n - 1 } :: rest } F := by
      obtain ⟨F3, a1, a2, a3⟩ := hP
      exact ⟨F3, a1, H1.out.2.2.1.step H1.out.2.2.2 a2, Fresh.trans H1.out.2.2.2 H1.out.2.2.1.size a3⟩
    clear hP
    have HP := Px.hid hP2
    obtain ⟨WP, hWP⟩ : ∃ WP, WP = (w2.setCell ⟨sg, ps2.length * 3 + 1, none⟩ (.int .i64 ((f.n : Int) - 1))).drew := ⟨_, rfl⟩
    rw [← hWP] at HP ⊢
    clear hWP hP2 c6 c4' kf1 k1 hc1 hc2 hpl hw1
    have c8 : WP.cell? ⟨b, 8, none⟩ = some .nilIface := by obtain ⟨F', h1, _, _⟩ := HP.out; exact (h1.c8 HK.out.1).1
    have f8 : WP.frozen? ⟨b, 8, none⟩ = false := by obtain ⟨F', h1, _, _⟩ := HP.out; exact (h1.c8 HK.out.1).2
    have k7 := HP.out.c7.1
    have f7' := HP.out.c7.2
    have hbl2 : b < WP.heap.size := by obtain ⟨F', h1, _, _⟩ := HP.out; exact h1.lt b h1.own
    go_wp2
    go_end0
    rw [nameOn_true f g x rest HM.out.1]
    refine ⟨rfl, ?_⟩
    have ht0 := tok_text (WP.alloc (.cells #[.int .i64 0, .slice none 0 0, .int .i32 0, .int .i64 0, .int .i32 0, .int .u8 0, .int .u8 0] 89 (0, 0))) WP.heap.size (heap_alloc_new WP _)
    have hq : After w ((WP.alloc (.cells #[.int .i64 0, .slice none 0 0, .int .i32 0, .int .i64 0, .int .i32 0, .int .u8 0, .int .u8 0] 89 (0, 0))).setCell ⟨b, 8, none⟩ (.iface 87 (.pointer (some ⟨WP.heap.size, 0, none⟩)))) b { g with stack := { x with at_ := f.n - 1 } :: rest, now := .str J6.txt0 } F :=
      HP.out.then fun F1 h => After.tok (g := { g with stack := { x with at_ := f.n - 1 } :: rest }) h.lt h.own ((Fr.refl F1 WP).alloc _) (After.refl (h.same ((Fr.refl _ WP).alloc _))) HK.out.1 ht0 (fun k hk => by simp at hk; omega)
    have hq2 := hq.setNext 2
    rw [World.setCell_alloc_past _ _ _ _ hbl2, World.setCell_alloc_past _ _ _ _ (by simpa [World.setCell] using hbl2)] at hq2
    exact hq2
set_option maxRecDepth 100000 in
set_option maxHeartbeats 4000000 in
theorem st_f3_no (b : Nat) (c : UInt8) (z : Nat) (hz : z = c.toNat) (b1 : z ≠ 32) (b2 : z ≠ 9) (b3 : z ≠ 10) (b4 : z ≠ 13) (b5 : z ≠ 93) (b6 : z ≠ 34) (f : J6.Feed) (F : Nat → Prop) (w : World) (h : FeedAt w b f F) (hok : J6.OkK 0 f) (hn1 : 1 ≤ f.n) (ho : J6.object f = false) (hnx : f.next = 3) :
    Calls Try.prog 28 #[.pointer (some ⟨b, 0, none⟩), .int .u8 (z : Nat)] w fun r w' => r = .returned (.tuple #[]) ∧ After w w' b (J6.wrong f (f.n - 1 : Nat) 9) F := by
  have e1 : ((z : Int) == 32) = false := by simp; omega
  have e2 : ((z : Int) == 9) = false := by simp; omega
  have e3 : ((z : Int) == 10) = false := by simp; omega
  have e4 : ((z : Int) == 13) = false := by simp; omega
  have e5 : ((z : Int) == 93) = false := by simp; omega
  have e6 : ((z : Int) == 34) = false := by simp; omega
  have hV := wrong_here b 9 f F hn1
  have hob := object_ok b f F hok w h
  rw [ho] at hob
  have HW := Px.hid (wrap_n hok hn1)
  have HFA := Px.hid h
  have HOB := Px.hid hob
  have HV := Px.hid hV
  have hb : b < w.heap.size := h.lt b h.own
  have HNX := Px.hid hnx
  clear h hok hn1 ho hob hV hnx hz b1 b2 b3 b4 b5 b6
  go_enter Try.func28, Try.ntmps28
  go_wp2_with fail
  refine HOB.out.mono ?_
  rintro e w1 ⟨rfl, hS1⟩
  have HS := Px.hid hS1
  have HFA1 := Px.hid (HFA.out.same hS1)
  have hb1 : b < w1.heap.size := by have := hS1.size; omega
  have c7 : w1.cell? ⟨b, 7, none⟩ = some (.int .i64 3) := by have := HFA1.out.c7.1; rw [HNX.out] at this; exact this
  have f7 : w1.frozen? ⟨b, 7, none⟩ = false := HFA1.out.c7.2.1
  have c4 : w1.cell? ⟨b, 4, none⟩ = some (.int .i64 (f.n : Nat)) := HFA1.out.c7.2.2
  have hw4 := HW.out
  clear hS1
  go_wp2_with fail
  refine (HV.out _ HFA1.out).mono ?_
  rintro e w2 ⟨rfl, hA⟩
  have HA := Px.hid (After.ofFr (HS.out.fr F) hA)
  clear hA
  go_wp2
  go_end0
  exact ⟨rfl, HA.out⟩
set_option maxRecDepth 100000 in
set_option maxHeartbeats 4000000 in
theorem st_f4_end (b : Nat) (f : J6.Feed) (F : Nat → Prop) (w : World) (h : FeedAt w b f F) (hok : J6.OkK 0 f) (hn1 : 1 ≤ f.n) (ho : J6.object f = false) (hnx : f.next = 4) :
    Calls Try.prog 28 #[.pointer (some ⟨b, 0, none⟩), .int .u8 93] w fun r w' => r = .returned (.tuple #[]) ∧ After w w' b (J6.wrong f (f.n - 1 : Nat) 9) F := by
  have hV := wrong_here b 9 f F hn1
  have hob := object_ok b f F hok w h
  rw [ho] at hob
  have HW := Px.hid (wrap_n hok hn1)
  have HFA := Px.hid h
  have HOB := Px.hid hob
  have HV := Px.hid hV
  have hb : b < w.heap.size := h.lt b h.own
  have HNX := Px.hid hnx
  clear h hok hn1 ho hob hV hnx
  go_enter Try.func28, Try.ntmps28
  go_wp2_with fail
  refine HOB.out.mono ?_
  rintro e w1 ⟨rfl, hS1⟩
  have HS := Px.hid hS1
  have HFA1 := Px.hid (HFA.out.same hS1)
  have hb1 : b < w1.heap.size := by have := hS1.size; omega
  have c7 : w1.cell? ⟨b, 7, none⟩ = some (.int .i64 4) := by have := HFA1.out.c7.1; rw [HNX.out] at this; exact this
  have f7 : w1.frozen? ⟨b, 7, none⟩ = false := HFA1.out.c7.2.1
  have c4 : w1.cell? ⟨b, 4, none⟩ = some (.int .i64 (f.n : Nat)) := HFA1.out.c7.2.2
  have hw4 := HW.out
  clear hS1
  go_wp2_with fail
  refine (HV.out _ HFA1.out).mono ?_
  rintro e w2 ⟨rfl, hA⟩
  have HA := Px.hid (After.ofFr (HS.out.fr F) hA)
  clear hA
  go_wp2
  go_end0
  exact ⟨rfl, HA.out⟩
set_option maxRecDepth 100000 in
set_option maxHeartbeats 4000000 in
theorem st_f4_colon (b : Nat) (f : J6.Feed) (F : Nat → Prop) (w : World) (h : FeedAt w b f F) (hok : J6.OkK 0 f) (hn1 : 1 ≤ f.n) (ho : J6.object f = false) (hnx : f.next = 4) :
    Calls Try.prog 28 #[.pointer (some ⟨b, 0, none⟩), .int .u8 58] w fun r w' => r = .returned (.tuple #[]) ∧ After w w' b { f with next := 0 } F := by
  have hV := trivial
  have hob := object_ok b f F hok w h
  rw [ho] at hob
  have HW := Px.hid (wrap_n hok hn1)
  have HFA := Px.hid h
  have HOB := Px.hid hob
  have HV := Px.hid hV
  have hb : b < w.heap.size := h.lt b h.own
  have HNX := Px.hid hnx
  clear h hok hn1 ho hob hV hnx
  go_enter Try.func28, Try.ntmps28
  go_wp2_with fail
  refine HOB.out.mono ?_
  rintro e w1 ⟨rfl, hS1⟩
  have HS := Px.hid hS1
  have HFA1 := Px.hid (HFA.out.same hS1)
  have hb1 : b < w1.heap.size := by have := hS1.size; omega
  have c7 : w1.cell? ⟨b, 7, none⟩ = some (.int .i64 4) := by have := HFA1.out.c7.1; rw [HNX.out] at this; exact this
  have f7 : w1.frozen? ⟨b, 7, none⟩ = false := HFA1.out.c7.2.1
  have c4 : w1.cell? ⟨b, 4, none⟩ = some (.int .i64 (f.n : Nat)) := HFA1.out.c7.2.2
  have hw4 := HW.out
  clear hS1
  go_wp2
  go_end0
  exact ⟨rfl, (After.ofFr (HS.out.fr F) (After.refl HFA1.out)).setNext 0⟩
set_option maxRecDepth 100000 in
set_option maxHeartbeats 4000000 in
theorem st_f4_no (b : Nat) (c : UInt8) (z : Nat) (hz : z = c.toNat) (b1 : z ≠ 32) (b2 : z ≠ 9) (b3 : z ≠ 10) (b4 : z ≠ 13) (b5 : z ≠ 93) (b6 : z ≠ 58) (f : J6.Feed) (F : Nat → Prop) (w : World) (h : FeedAt w b f F) (hok : J6.OkK 0 f) (hn1 : 1 ≤ f.n) (ho : J6.object f = false) (hnx : f.next = 4) :
    Calls Try.prog 28 #[.pointer (some ⟨b, 0, none⟩), .int .u8 (z : Nat)] w fun r w' => r = .returned (.tuple #[]) ∧ After w w' b (J6.wrong f (f.n - 1 : Nat) 9) F := by
  have e1 : ((z : Int) == 32) = false := by simp; omega
  have e2 : ((z : Int) == 9) = false := by simp; omega
  have e3 : ((z : Int) == 10) = false := by simp; omega
  have e4 : ((z : Int) == 13) = false := by simp; omega
  have e5 : ((z : Int) == 93) = false := by simp; omega
  have e6 : ((z : Int) == 58) = false := by simp; omega
  have hV := wrong_here b 9 f F hn1
  have hob := object_ok b f F hok w h
  rw [ho] at hob
  have HW := Px.hid (wrap_n hok hn1)
  have HFA := Px.hid h
  have HOB := Px.hid hob
  have HV := Px.hid hV
  have hb : b < w.heap.size := h.lt b h.own
  have HNX := Px.hid hnx
  clear h hok hn1 ho hob hV hnx hz b1 b2 b3 b4 b5 b6
  go_enter Try.func28, Try.ntmps28
  go_wp2_with fail
  refine HOB.out.mono ?_
  rintro e w1 ⟨rfl, hS1⟩
  have HS := Px.hid hS1
  have HFA1 := Px.hid (HFA.out.same hS1)
  have hb1 : b < w1.heap.size := by have := hS1.size; omega
  have c7 : w1.cell? ⟨b, 7, none⟩ = some (.int .i64 4) := by have := HFA1.out.c7.1; rw [HNX.out] at this; exact this
  have f7 : w1.frozen? ⟨b, 7, none⟩ = false := HFA1.out.c7.2.1
  have c4 : w1.cell? ⟨b, 4, none⟩ = some (.int .i64 (f.n : Nat)) := HFA1.out.c7.2.2
  have hw4 := HW.out
  clear hS1
  go_wp2_with fail
  refine (HV.out _ HFA1.out).mono ?_
  rintro e w2 ⟨rfl, hA⟩
  have HA := Px.hid (After.ofFr (HS.out.fr F) hA)
  clear hA
  go_wp2
  go_end0
  exact ⟨rfl, HA.out⟩
set_option maxRecDepth 100000 in
set_option maxHeartbeats 4000000 in
theorem st_f5_end (b : Nat) (f : J6.Feed) (F : Nat → Prop) (w : World) (h : FeedAt w b f F) (hok : J6.OkK 0 f) (hn1 : 1 ≤ f.n) (ho : J6.object f = false) (hnx : f.next = 5) :
    Calls Try.prog 28 #[.pointer (some ⟨b, 0, none⟩), .int .u8 93] w fun r w' => r = .returned (.tuple #[]) ∧ After w w' b (J6.over { f with stack := f.stack.tail }) F := by
  have hm := J6.may_parts6 hok.may
  have hsd := hok.sd
  have hsl : f.stack.length ≤ 32 := by omega
  have hne := hok.st (by omega) (by omega)
  have hV := fun F1 => over_ok b { f with stack := f.stack.tail } F1 (by show f.stack.tail.length ≤ 32; simp; omega)
  have HNE := Px.hid (And.intro hne hsl)
  clear hm hsd hsl hne
  have hob := object_ok b f F hok w h
  rw [ho] at hob
  have HW := Px.hid (wrap_n hok hn1)
  have HFA := Px.hid h
  have HOB := Px.hid hob
  have HV := Px.hid hV
  have hb : b < w.heap.size := h.lt b h.own
  have HNX := Px.hid hnx
  clear h hok hn1 ho hob hV hnx
  go_enter Try.func28, Try.ntmps28
  go_wp2_with fail
  refine HOB.out.mono ?_
  rintro e w1 ⟨rfl, hS1⟩
  have HS := Px.hid hS1
  have HFA1 := Px.hid (HFA.out.same hS1)
  have hb1 : b < w1.heap.size := by have := hS1.size; omega
  have c7 : w1.cell? ⟨b, 7, none⟩ = some (.int .i64 5) := by have := HFA1.out.c7.1; rw [HNX.out] at this; exact this
  have f7 : w1.frozen? ⟨b, 7, none⟩ = false := HFA1.out.c7.2.1
  have c4 : w1.cell? ⟨b, 4, none⟩ = some (.int .i64 (f.n : Nat)) := HFA1.out.c7.2.2
  have hw4 := HW.out
  clear hS1
  obtain ⟨vo, vs, tv, tb, ps, h1, hF⟩ := HFA1.out
  obtain ⟨x, rest, hst⟩ : ∃ x rest, f.stack = x :: rest := by
    cases hs : f.stack with
    | nil => exact absurd hs HNE.out.1
    | cons x r => exact ⟨x, r, rfl⟩
  obtain ⟨vn, ps2, hps, hm, g, cap', hsv, hc1, hc2, k0, k1, k2, kf⟩ := h1.top hst
  subst hps
  subst hsv
  have hlt1 : b < w1.heap.size := h1.lt
  have c6 : w1.cell? ⟨b, 6, none⟩ = some (.slice (some ⟨g, 0, none⟩) (ps2.length + 1) cap') := cellOf h1.blk 6 rfl
  have f6 := h1.free 6
  have hpl : ps2.length ≤ 32 := by have h2 := congrArg List.length hm; rw [List.length_map] at h2; have h3 := HNE.out.2; rw [hst] at h3; simp at h3; omega
  have htl : f.stack.tail = ps2.map Prod.fst := by rw [hst, hm]; rfl
  have H1 := Px.hid (And.intro h1 (And.intro hF htl))
  unfold maxLen at hc2
  clear h1 hF hst hm k0 k1 k2 kf htl
  go_upto_region 6 with fail
  go_region
  have hP : After w1 ((w1.setCell ⟨b, 6, none⟩ (.slice (some ⟨g, 0, none⟩) ps2.length cap')).drew) b { f with stack := f.stack.tail } F := by
    rw [H1.out.2.2, H1.out.2.1]
    exact ⟨_, ⟨_, _, _, _, _, H1.out.1.pop.drew, rfl⟩, ((Fr.refl _ _).setCell (p := ⟨b, 6, none⟩) (.inl (.inl rfl)) _).drew, Fresh.foot (fun _ e => .inl (blocks_pop e))⟩
  obtain ⟨F2, hF2, hfr2, hfn2⟩ := hP
  have HP := Px.hid (And.intro hF2 (And.intro hfr2 hfn2))
  obtain ⟨WP, hWP⟩ : ∃ WP, WP = (w1.setCell ⟨b, 6, none⟩ (.slice (some ⟨g, 0, none⟩) ps2.length cap')).drew := ⟨_, rfl⟩
  rw [← hWP] at HP ⊢
  clear hWP hF2 hfr2 hfn2 c6 f6
  go_wp2_with fail
  refine (HV.out F2 WP HP.out.1).mono ?_
  rintro e w2 ⟨rfl, hA⟩
  obtain ⟨F3, a1, a2, a3⟩ := hA
  have HA := Px.hid (After.ofFr (HS.out.fr F) (show After w1 w2 b (J6.over { f with stack := f.stack.tail }) F from ⟨F3, a1, HP.out.2.1.step HP.out.2.2 a2, Fresh.trans HP.out.2.2 HP.out.2.1.size a3⟩))
  clear a1 a2 a3
  go_wp2
  go_end0
  exact ⟨rfl, HA.out⟩
set_option maxRecDepth 100000 in
set_option maxHeartbeats 4000000 in
theorem st_f5_comma (b : Nat) (f : J6.Feed) (F : Nat → Prop) (w : World) (h : FeedAt w b f F) (hok : J6.OkK 0 f) (hn1 : 1 ≤ f.n) (ho : J6.object f = false) (hnx : f.next = 5) :
    Calls Try.prog 28 #[.pointer (some ⟨b, 0, none⟩), .int .u8 44] w fun r w' => r = .returned (.tuple #[]) ∧ After w w' b { f with next := 0 } F := by
  have hV : ∀ w : World, FeedAt w b { f with next := 0 } F → Calls Try.prog 40 #[.pointer (some ⟨b, 0, none⟩)] w fun r w' => r = .returned (.bool false) ∧ Same w w' := fun w h => by
    rw [← ho]
    exact object_ok b { f with next := 0 } F (k := 0) ⟨hok.may, hok.nb, hok.ol, hok.sd, hok.each, hok.kids, Nat.zero_le _, (fun e => by have e : 1 ≤ 0 := e; omega), hok.kn, hok.tk, hok.ne⟩ w h
  have hob := object_ok b f F hok w h
  rw [ho] at hob
  have HW := Px.hid (wrap_n hok hn1)
  have HFA := Px.hid h
  have HOB := Px.hid hob
  have HV := Px.hid hV
  have hb : b < w.heap.size := h.lt b h.own
  have HNX := Px.hid hnx
  clear h hok hn1 ho hob hV hnx
  go_enter Try.func28, Try.ntmps28
  go_wp2_with fail
  refine HOB.out.mono ?_
  rintro e w1 ⟨rfl, hS1⟩
  have HS := Px.hid hS1
  have HFA1 := Px.hid (HFA.out.same hS1)
  have hb1 : b < w1.heap.size := by have := hS1.size; omega
  have c7 : w1.cell? ⟨b, 7, none⟩ = some (.int .i64 5) := by have := HFA1.out.c7.1; rw [HNX.out] at this; exact this
  have f7 : w1.frozen? ⟨b, 7, none⟩ = false := HFA1.out.c7.2.1
  have c4 : w1.cell? ⟨b, 4, none⟩ = some (.int .i64 (f.n : Nat)) := HFA1.out.c7.2.2
  have hw4 := HW.out
  clear hS1
  have hx : After w (w1.setCell ⟨b, 7, none⟩ (.int .i64 (0 : Nat))) b { f with next := 0 } F := (After.ofFr (HS.out.fr F) (After.refl HFA1.out)).setNext 0
  have HFX := Px.hid (show FeedAt (w1.setCell ⟨b, 7, none⟩ (.int .i64 0)) b { f with next := 0 } F by
    obtain ⟨vo, vs, tv, tb, ps, h, hF⟩ := HFA1.out
    exact ⟨vo, vs, tv, tb, ps, h.set 7 (.int .i64 0) { f with next := 0 } rfl rfl rfl rfl, hF⟩)
  have HXX := Px.hid hx
  clear hx
  go_wp2_with fail
  refine (HV.out _ HFX.out).mono ?_
  rintro e w2 ⟨rfl, hS2⟩
  have HA := Px.hid (HXX.out.then fun F1 h => ⟨F1, h.same hS2, hS2.fr F1, Fresh.refl _ _⟩)
  have k7 := HA.out.c7.1
  have f7' := HA.out.c7.2
  clear hS2
  go_wp2
  go_end0
  exact ⟨rfl, HA.out⟩
set_option maxRecDepth 100000 in
set_option maxHeartbeats 4000000 in
theorem st_f5_no (b : Nat) (c : UInt8) (z : Nat) (hz : z = c.toNat) (b1 : z ≠ 32) (b2 : z ≠ 9) (b3 : z ≠ 10) (b4 : z ≠ 13) (b5 : z ≠ 93) (b6 : z ≠ 44) (f : J6.Feed) (F : Nat → Prop) (w : World) (h : FeedAt w b f F) (hok : J6.OkK 0 f) (hn1 : 1 ≤ f.n) (ho : J6.object f = false) (hnx : f.next = 5) :
    Calls Try.prog 28 #[.pointer (some ⟨b, 0, none⟩), .int .u8 (z : Nat)] w fun r w' => r = .returned (.tuple #[]) ∧ After w w' b (J6.wrong f (f.n - 1 : Nat) 9) F := by
  have e1 : ((z : Int) == 32) = false := by simp; omega
  have e2 : ((z : Int) == 9) = false := by simp; omega
  have e3 : ((z : Int) == 10) = false := by simp; omega
  have e4 : ((z : Int) == 13) = false := by simp; omega
  have e5 : ((z : Int) == 93) = false := by simp; omega
  have e6 : ((z : Int) == 44) = false := by simp; omega
  have hV := wrong_here b 9 f F hn1
  have hob := object_ok b f F hok w h
  rw [ho] at hob
  have HW := Px.hid (wrap_n hok hn1)
  have HFA := Px.hid h
  have HOB := Px.hid hob
  have HV := Px.hid hV
  have hb : b < w.heap.size := h.lt b h.own
  have HNX := Px.hid hnx
  clear h hok hn1 ho hob hV hnx hz b1 b2 b3 b4 b5 b6
  go_enter Try.func28, Try.ntmps28
  go_wp2_with fail
  refine HOB.out.mono ?_
  rintro e w1 ⟨rfl, hS1⟩
  have HS := Px.hid hS1
  have HFA1 := Px.hid (HFA.out.same hS1)
  have hb1 : b < w1.heap.size := by have := hS1.size; omega
  have c7 : w1.cell? ⟨b, 7, none⟩ = some (.int .i64 5) := by have := HFA1.out.c7.1; rw [HNX.out] at this; exact this
  have f7 : w1.frozen? ⟨b, 7, none⟩ = false := HFA1.out.c7.2.1
  have c4 : w1.cell? ⟨b, 4, none⟩ = some (.int .i64 (f.n : Nat)) := HFA1.out.c7.2.2
  have hw4 := HW.out
  clear hS1
  go_wp2_with fail
  refine (HV.out _ HFA1.out).mono ?_
  rintro e w2 ⟨rfl, hA⟩
  have HA := Px.hid (After.ofFr (HS.out.fr F) hA)
  clear hA
  go_wp2
  go_end0
  exact ⟨rfl, HA.out⟩
set_option maxRecDepth 100000 in
set_option maxHeartbeats 4000000 in
theorem st_f6_end (b : Nat) (f : J6.Feed) (F : Nat → Prop) (w : World) (h : FeedAt w b f F) (hok : J6.OkK 0 f) (hn1 : 1 ≤ f.n) (ho : J6.object f = false) (hnx : f.next = 6) :
    Calls Try.prog 28 #[.pointer (some ⟨b, 0, none⟩), .int .u8 93] w fun r w' => r = .returned (.tuple #[]) ∧ After w w' b (J6.wrong f (f.n - 1 : Nat) 9) F := by
  have hV := wrong_here b 9 f F hn1
  have hob := object_ok b f F hok w h
  rw [ho] at hob
  have HW := Px.hid (wrap_n hok hn1)
  have HFA := Px.hid h
  have HOB := Px.hid hob
  have HV := Px.hid hV
  have hb : b < w.heap.size := h.lt b h.own
  have HNX := Px.hid hnx
  clear h hok hn1 ho hob hV hnx
  go_enter Try.func28, Try.ntmps28
  go_wp2_with fail
  refine HOB.out.mono ?_
  rintro e w1 ⟨rfl, hS1⟩
  have HS := Px.hid hS1
  have HFA1 := Px.hid (HFA.out.same hS1)
  have hb1 : b < w1.heap.size := by have := hS1.size; omega
  have c7 : w1.cell? ⟨b, 7, none⟩ = some (.int .i64 6) := by have := HFA1.out.c7.1; rw [HNX.out] at this; exact this
  have f7 : w1.frozen? ⟨b, 7, none⟩ = false := HFA1.out.c7.2.1
  have c4 : w1.cell? ⟨b, 4, none⟩ = some (.int .i64 (f.n : Nat)) := HFA1.out.c7.2.2
  have hw4 := HW.out
  clear hS1
  go_wp2_with fail
  refine (HV.out _ HFA1.out).mono ?_
  rintro e w2 ⟨rfl, hA⟩
  have HA := Px.hid (After.ofFr (HS.out.fr F) hA)
  clear hA
  go_wp2
  go_end0
  exact ⟨rfl, HA.out⟩
set_option maxRecDepth 100000 in
set_option maxHeartbeats 4000000 in
theorem st_f6_no (b : Nat) (c : UInt8) (z : Nat) (hz : z = c.toNat) (b1 : z ≠ 32) (b2 : z ≠ 9) (b3 : z ≠ 10) (b4 : z ≠ 13) (b5 : z ≠ 93) (f : J6.Feed) (F : Nat → Prop) (w : World) (h : FeedAt w b f F) (hok : J6.OkK 0 f) (hn1 : 1 ≤ f.n) (ho : J6.object f = false) (hnx : f.next = 6) :
    Calls Try.prog 28 #[.pointer (some ⟨b, 0, none⟩), .int .u8 (z : Nat)] w fun r w' => r = .returned (.tuple #[]) ∧ After w w' b (J6.wrong f (f.n - 1 : Nat) 9) F := by
  have e1 : ((z : Int) == 32) = false := by simp; omega
  have e2 : ((z : Int) == 9) = false := by simp; omega
  have e3 : ((z : Int) == 10) = false := by simp; omega
  have e4 : ((z : Int) == 13) = false := by simp; omega
  have e5 : ((z : Int) == 93) = false := by simp; omega
  have hV := wrong_here b 9 f F hn1
  have hob := object_ok b f F hok w h
  rw [ho] at hob
  have HW := Px.hid (wrap_n hok hn1)
  have HFA := Px.hid h
  have HOB := Px.hid hob
  have HV := Px.hid hV
  have hb : b < w.heap.size := h.lt b h.own
  have HNX := Px.hid hnx
  clear h hok hn1 ho hob hV hnx hz b1 b2 b3 b4 b5
  go_enter Try.func28, Try.ntmps28
  go_wp2_with fail
  refine HOB.out.mono ?_
  rintro e w1 ⟨rfl, hS1⟩
  have HS := Px.hid hS1
  have HFA1 := Px.hid (HFA.out.same hS1)
  have hb1 : b < w1.heap.size := by have := hS1.size; omega
  have c7 : w1.cell? ⟨b, 7, none⟩ = some (.int .i64 6) := by have := HFA1.out.c7.1; rw [HNX.out] at this; exact this
  have f7 : w1.frozen? ⟨b, 7, none⟩ = false := HFA1.out.c7.2.1
  have c4 : w1.cell? ⟨b, 4, none⟩ = some (.int .i64 (f.n : Nat)) := HFA1.out.c7.2.2
  have hw4 := HW.out
  clear hS1
  go_wp2_with fail
  refine (HV.out _ HFA1.out).mono ?_
  rintro e w2 ⟨rfl, hA⟩
  have HA := Px.hid (After.ofFr (HS.out.fr F) hA)
  clear hA
  go_wp2
  go_end0
  exact ⟨rfl, HA.out⟩
end Go.Proofs.Ytahojodgmjmpnaa

/-! The walk over jsonfeed's finish (printed by gen_ym.py). -/
namespace Go.Proofs.Ytahojodgmjmpnaa
open Go.RowKit Go.Px
@[go_sem] theorem ta_num_word (v : Value) (w : World) : (Instr.typeAssert (.iface 107 v) 44 58 true).run Try.prog w = .ok (.tuple #[.pointer none, .bool false]) w := by kernel_rfl
@[go_sem] theorem ta_text_word (v : Value) (w : World) : (Instr.typeAssert (.iface 107 v) 44 87 true).run Try.prog w = .ok (.tuple #[.pointer none, .bool false]) w := by kernel_rfl
@[go_sem] theorem ta_num_text (v : Value) (w : World) : (Instr.typeAssert (.iface 87 v) 44 58 true).run Try.prog w = .ok (.tuple #[.pointer none, .bool false]) w := by kernel_rfl
@[go_sem] theorem ta_text_text (v : Value) (w : World) : (Instr.typeAssert (.iface 87 v) 44 87 true).run Try.prog w = .ok (.tuple #[v, .bool true]) w := by kernel_rfl
@[go_sem] theorem ta_num_num (v : Value) (w : World) : (Instr.typeAssert (.iface 58 v) 44 58 true).run Try.prog w = .ok (.tuple #[v, .bool true]) w := by kernel_rfl
theorem After.bind {w w1 : World} {b : Nat} {f f' : J6.Feed} {F : Nat → Prop} {n : Nat} {args : Array Value} {V : Value} (hA : After w w1 b f F)
    (k : ∀ F1, FeedAt w1 b f F1 → Calls Try.prog n args w1 fun r w' => r = .returned V ∧ After w1 w' b f' F1) : Calls Try.prog n args w1 fun r w' => r = .returned V ∧ After w w' b f' F := by
  obtain ⟨F1, h1, h2, h3⟩ := hA
  refine (k F1 h1).mono ?_
  rintro r w' ⟨rfl, F2, k1, k2, k3⟩
  exact ⟨rfl, F2, k1, h2.step h3 k2, Fresh.trans h3 h2.size k3⟩
theorem Try.infoStr : (Try.prog.info? 9).map (fun i => (i.zero, i.size, i.bytes)) = some (some (.string ByteArray.empty), 1, 16) := by kernel_rfl
/-- The last value of a list that is not empty. -/
theorem last_of {l : List Val} (h : l ≠ []) : ∃ m a, l.length = m + 1 ∧ l[m]? = some a := by
  obtain ⟨m, hm⟩ : ∃ m, l.length = m + 1 := ⟨l.length - 1, by have := List.length_pos_iff.2 h; omega⟩
  exact ⟨m, l[m], hm, List.getElem?_eq_getElem (by omega)⟩
set_option maxRecDepth 100000 in
set_option maxHeartbeats 4000000 in
theorem finish_word (b : Nat) (f : J6.Feed) (r : Bytes) (F : Nat → Prop) (w : World) (h : FeedAt w b f F) (hol : f.out.length ≤ 4096) (hsl : f.stack.length ≤ 32) (hout : f.out ≠ []) (hnow : f.now = .word r) :
    Calls Try.prog 27 #[.pointer (some ⟨b, 0, none⟩)] w fun r w' => r = .returned (.tuple #[]) ∧ After w w' b (J6.over { f with now := .none }) F := by
  obtain ⟨m, a, hm, ha⟩ := last_of hout
  obtain ⟨vo, vs, tv, tb, ps, h, hF⟩ := h
  obtain ⟨go, co, hvo, o1, o2, q0, q1, q2, qf⟩ := h.val ha
  have hb : b < w.heap.size := h.lt
  have c5 : w.cell? ⟨b, 5, none⟩ = some vo := cellOf h.blk 5 rfl
  rw [hvo, hm] at c5
  rw [hm] at hol o1
  have c8 : w.cell? ⟨b, 8, none⟩ = some tv := cellOf h.blk 8 rfl
  have f8 := h.free 8
  obtain ⟨k, htv, _, _⟩ : TokIs w tv tb (.word r) := by rw [← hnow]; exact h.parts.tok
  rw [htv] at c8
  have hd := h.drop
  have HV := Px.hid (fun F1 => over_ok b { f with now := .none } F1 hsl)
  have hkeep : ∀ nq, After w ((w.drewN nq).setCell ⟨b, 8, none⟩ .nilIface) b { f with now := .none } F := fun nq => by
    have hd := (h.drewN nq).drop
    rw [hF]
    refine ⟨_, ⟨_, _, _, _, _, hd, rfl⟩, (((Fr.refl _ w).drewN nq)).setCell (p := ⟨b, 8, none⟩) (.inl (.inl rfl)) _, Fresh.foot fun j e => .inl ?_⟩
    rcases mem_blocks.1 e with x | x | x | x
    · exact mem_blocks.2 (.inl x)
    · exact mem_blocks.2 (.inr (.inl x))
    · cases x
    · exact mem_blocks.2 (.inr (.inr (.inr x)))
  have HK := Px.hid hkeep
  unfold maxLen at o2
  clear hd hkeep h hF hvo ha hout hnow htv qf q0 q1 q2 hsl hm
  go_enter Try.func27, Try.ntmps27
  go_wp2_with fail
  go_quiet (fail)
  go_wp2_with fail
  refine (After.bind (HK.out nq) (fun F1 h1 => HV.out F1 _ h1)).mono ?_
  rintro e w2 ⟨rfl, hA⟩
  have HA := Px.hid hA
  clear hA
  go_wp2
  go_end0
  exact ⟨rfl, HA.out⟩
set_option maxRecDepth 100000 in
set_option maxHeartbeats 4000000 in
theorem finish_num (b : Nat) (f : J6.Feed) (q : Nat) (t : Bytes) (F : Nat → Prop) (w : World) (h : FeedAt w b f F) (hol : f.out.length ≤ 4096) (hsl : f.stack.length ≤ 32) (hout : f.out ≠ []) (hnow : f.now = .num q t) :
    Calls Try.prog 27 #[.pointer (some ⟨b, 0, none⟩)] w fun r w' => r = .returned (.tuple #[]) ∧ After w w' b (J6.over { f with now := .none, out := R6.setText f.out (f.out.length - 1) t }) F := by
  obtain ⟨m, a, hm, ha⟩ := last_of hout
  obtain ⟨vo, vs, tv, tb, ps, h, hF⟩ := h
  obtain ⟨go, co, hvo, o1, o2, q0, q1, q2, qf⟩ := h.val ha
  have hb : b < w.heap.size := h.lt
  have c5 : w.cell? ⟨b, 5, none⟩ = some vo := cellOf h.blk 5 rfl
  rw [hvo, hm] at c5
  rw [hm] at hol o1
  have c8 : w.cell? ⟨b, 8, none⟩ = some tv := cellOf h.blk 8 rfl
  have f8 := h.free 8
  have HV := Px.hid (fun F1 => over_ok b { f with now := .none, out := R6.setText f.out (f.out.length - 1) t } F1 hsl)
  clear hsl
  obtain ⟨k, vt, htv, htb, hna⟩ : TokIs w tv tb (.num q t) := by rw [← hnow]; exact h.parts.tok
  rw [htv] at c8
  have hkb : k ≠ b := fun e => h.nb (mem_blocks.2 (.inr (.inr (.inl (by rw [htb, e]; simp)))))
  have hvb : vt.ownBlock ≠ some b := fun e => h.nb (mem_blocks.2 (.inr (.inr (.inl (by rw [htb, ← e]; simp)))))
  have HK := Px.hid (fun nq : Nat => (h.drewN nq).drop)
  have HN := Px.hid (fun nq : Nat => (show ((w.drewN nq).setCell ⟨b, 8, none⟩ .nilIface).heap[k]? = w.heap[k]? from heap_setCell_other (w.drewN nq) ⟨b, 8, none⟩ k _ (fun e => hkb e)).trans hna.blk)
  have HT := Px.hid (fun nq : Nat => (hna.text.drewN nq).setCell (p := ⟨b, 8, none⟩) hvb .nilIface)
  have HF := Px.hid (And.intro hF (And.intro hvo (And.intro ha (And.intro hm hnow))))
  unfold maxLen at o2
  clear h hF hvo ha hout hnow htv htb hna hkb hvb qf q0 q1 q2 hm
  go_enter Try.func27, Try.ntmps27
  go_wp2_with fail
  go_quiet (fail)
  go_upto_region 6 with fail
  have hD := HK.out nq
  have hN := HN.out nq
  have hT := HT.out nq
  have hFr : Fr (foot b (blocks vo vs tb ps)) w ((w.drewN nq).setCell ⟨b, 8, none⟩ .nilIface) := ((Fr.refl _ w).drewN nq).setCell (p := ⟨b, 8, none⟩) (.inl (.inl rfl)) _
  obtain ⟨W1, hW1⟩ : ∃ W1, W1 = (w.drewN nq).setCell ⟨b, 8, none⟩ .nilIface := ⟨_, rfl⟩
  rw [← hW1] at hD hN hT hFr ⊢
  obtain ⟨go', co', hvo', _, _, q0, q1, q2, qf⟩ := hD.val (j := m) (a := a) HF.out.2.2.1
  have hgo : go' = go := by have := HF.out.2.1.symm.trans hvo'; simp only [Value.slice.injEq, Option.some.injEq, Addr.mk.injEq] at this; exact this.1.1.symm
  subst hgo
  have n1 : W1.cell? ⟨k, 1, none⟩ = some vt := cellOf hN 1 rfl
  have hcv : (convert 60 9 vt).run Try.prog W1 = .ok (S t) W1 := Owns.str hT (by kernel_rfl) (by kernel_rfl) (by kernel_rfl)
  have qf2 := qf (m * 3 + 2)
  have hb1 : b < W1.heap.size := hD.lt
  have hs : FeedRep (W1.setCell ⟨go', m * 3 + 2, none⟩ (S t)) b { f with now := .none, out := R6.setText f.out (f.out.length - 1) t } vo vs .nilIface [] ps := by
    have hD2 := hD
    rw [HF.out.2.1] at hD2 ⊢
    have e : R6.setText f.out (f.out.length - 1) t = f.out.set m { a with text := t } := by
      unfold R6.setText
      rw [HF.out.2.2.2.1, Nat.add_sub_cancel]
      exact modify_set f.out m a _ HF.out.2.2.1
    rw [e]
    exact hD2.setVal (j := m) (a := a) (a' := { a with text := t }) HF.out.2.2.1 2 (by decide) _ rfl
  have hbl : ∀ j, some j ∈ blocks vo vs [] ps → some j ∈ blocks vo vs tb ps := fun j e => by
    rcases mem_blocks.1 e with x | x | x | x
    · exact mem_blocks.2 (.inl x)
    · exact mem_blocks.2 (.inr (.inl x))
    · cases x
    · exact mem_blocks.2 (.inr (.inr (.inr x)))
  have hFr2 : Fr (foot b (blocks vo vs tb ps)) w (W1.setCell ⟨go', m * 3 + 2, none⟩ (S t)) := hFr.setCell (p := ⟨go', m * 3 + 2, none⟩) (.inl (.inr (mem_blocks.2 (.inl (by rw [HF.out.2.1]; rfl))))) _
  have hA0 : After w (W1.setCell ⟨go', m * 3 + 2, none⟩ (S t)) b { f with now := .none, out := R6.setText f.out (f.out.length - 1) t } F := by
    rw [HF.out.1]
    exact ⟨_, ⟨_, _, _, _, _, hs, rfl⟩, hFr2, Fresh.foot (fun j e => .inl (hbl j e))⟩
  have HS := Px.hid hs
  have HFR := Px.hid (And.intro hFr2 hbl)
  have HA0 := Px.hid hA0
  clear hW1 hN hT hFr hvo' qf hbl hFr2 hA0 hs hD c5 c8 f8
  go_wp2_with fail
  refine (After.bind HA0.out (fun F1 h1 => HV.out F1 _ h1)).mono ?_
  rintro e w2 ⟨rfl, hA⟩
  have HA := Px.hid hA
  clear hA
  go_wp2
  go_end0
  exact ⟨rfl, HA.out⟩
set_option maxRecDepth 100000 in
set_option maxHeartbeats 4000000 in
theorem finish_plain (b : Nat) (f : J6.Feed) (t : J6.Txt) (F : Nat → Prop) (w : World) (h : FeedAt w b f F) (hol : f.out.length ≤ 4096) (hsl : f.stack.length ≤ 32) (hout : f.out ≠ []) (hnow : f.now = .str t) (hnx : f.next ≠ 2) :
    Calls Try.prog 27 #[.pointer (some ⟨b, 0, none⟩)] w fun r w' => r = .returned (.tuple #[]) ∧ After w w' b (J6.over { f with now := .none, out := R6.setText f.out (f.out.length - 1) t.out }) F := by
  obtain ⟨m, a, hm, ha⟩ := last_of hout
  obtain ⟨vo, vs, tv, tb, ps, h, hF⟩ := h
  obtain ⟨go, co, hvo, o1, o2, q0, q1, q2, qf⟩ := h.val ha
  have hb : b < w.heap.size := h.lt
  have c5 : w.cell? ⟨b, 5, none⟩ = some vo := cellOf h.blk 5 rfl
  rw [hvo, hm] at c5
  rw [hm] at hol o1
  have c8 : w.cell? ⟨b, 8, none⟩ = some tv := cellOf h.blk 8 rfl
  have f8 := h.free 8
  have HV := Px.hid (fun F1 => over_ok b { f with now := .none, out := R6.setText f.out (f.out.length - 1) t.out } F1 hsl)
  have hx2 : ((f.next : Int) == 2) = false := by simp; omega
  clear hsl hnx
  obtain ⟨k, vt, htv, htb, hna⟩ : TokIs w tv tb (.str t) := by rw [← hnow]; exact h.parts.tok
  rw [htv] at c8
  have hkb : k ≠ b := fun e => h.nb (mem_blocks.2 (.inr (.inr (.inl (by rw [htb, e]; simp)))))
  have hvb : vt.ownBlock ≠ some b := fun e => h.nb (mem_blocks.2 (.inr (.inr (.inl (by rw [htb, ← e]; simp)))))
  have HK := Px.hid (fun nq : Nat => (h.drewN nq).drop)
  have HN := Px.hid (fun nq : Nat => (show ((w.drewN nq).setCell ⟨b, 8, none⟩ .nilIface).heap[k]? = w.heap[k]? from heap_setCell_other (w.drewN nq) ⟨b, 8, none⟩ k _ (fun e => hkb e)).trans hna.blk)
  have HT := Px.hid (fun nq : Nat => (hna.text.drewN nq).setCell (p := ⟨b, 8, none⟩) hvb .nilIface)
  have HF := Px.hid (And.intro hF (And.intro hvo (And.intro ha (And.intro hm hnow))))
  unfold maxLen at o2
  clear h hF hvo ha hout hnow htv htb hna hkb hvb qf q0 q1 q2 hm
  go_enter Try.func27, Try.ntmps27
  go_wp2_with fail
  go_quiet (fail)
  go_upto_region 9 with fail
  have hD := HK.out nq
  have hN := HN.out nq
  have hT := HT.out nq
  have hFr : Fr (foot b (blocks vo vs tb ps)) w ((w.drewN nq).setCell ⟨b, 8, none⟩ .nilIface) := ((Fr.refl _ w).drewN nq).setCell (p := ⟨b, 8, none⟩) (.inl (.inl rfl)) _
  obtain ⟨W1, hW1⟩ : ∃ W1, W1 = (w.drewN nq).setCell ⟨b, 8, none⟩ .nilIface := ⟨_, rfl⟩
  rw [← hW1] at hD hN hT hFr ⊢
  obtain ⟨go', co', hvo', _, _, q0, q1, q2, qf⟩ := hD.val (j := m) (a := a) HF.out.2.2.1
  have hgo : go' = go := by have := HF.out.2.1.symm.trans hvo'; simp only [Value.slice.injEq, Option.some.injEq, Addr.mk.injEq] at this; exact this.1.1.symm
  subst hgo
  have n1 : W1.cell? ⟨k, 1, none⟩ = some vt := cellOf hN 1 rfl
  have hcv : (convert 60 9 vt).run Try.prog W1 = .ok (S t.out) W1 := Owns.str hT (by kernel_rfl) (by kernel_rfl) (by kernel_rfl)
  have qf2 := qf (m * 3 + 2)
  have hb1 : b < W1.heap.size := hD.lt
  have hs : FeedRep (W1.setCell ⟨go', m * 3 + 2, none⟩ (S t.out)) b { f with now := .none, out := R6.setText f.out (f.out.length - 1) t.out } vo vs .nilIface [] ps := by
    have hD2 := hD
    rw [HF.out.2.1] at hD2 ⊢
    have e : R6.setText f.out (f.out.length - 1) t.out = f.out.set m { a with text := t.out } := by
      unfold R6.setText
      rw [HF.out.2.2.2.1, Nat.add_sub_cancel]
      exact modify_set f.out m a _ HF.out.2.2.1
    rw [e]
    exact hD2.setVal (j := m) (a := a) (a' := { a with text := t.out }) HF.out.2.2.1 2 (by decide) _ rfl
  have hbl : ∀ j, some j ∈ blocks vo vs [] ps → some j ∈ blocks vo vs tb ps := fun j e => by
    rcases mem_blocks.1 e with x | x | x | x
    · exact mem_blocks.2 (.inl x)
    · exact mem_blocks.2 (.inr (.inl x))
    · cases x
    · exact mem_blocks.2 (.inr (.inr (.inr x)))
  have hFr2 : Fr (foot b (blocks vo vs tb ps)) w (W1.setCell ⟨go', m * 3 + 2, none⟩ (S t.out)) := hFr.setCell (p := ⟨go', m * 3 + 2, none⟩) (.inl (.inr (mem_blocks.2 (.inl (by rw [HF.out.2.1]; rfl))))) _
  have hA0 : After w (W1.setCell ⟨go', m * 3 + 2, none⟩ (S t.out)) b { f with now := .none, out := R6.setText f.out (f.out.length - 1) t.out } F := by
    rw [HF.out.1]
    exact ⟨_, ⟨_, _, _, _, _, hs, rfl⟩, hFr2, Fresh.foot (fun j e => .inl (hbl j e))⟩
  have HS := Px.hid hs
  have HFR := Px.hid (And.intro hFr2 hbl)
  have HA0 := Px.hid hA0
  clear hW1 hN hT hFr hvo' qf hbl hFr2 hA0 hs hD c5 c8 f8
  obtain ⟨W2, hW2⟩ : ∃ W2, W2 = W1.setCell ⟨go', m * 3 + 2, none⟩ (S t.out) := ⟨_, rfl⟩
  have k7 : W2.cell? ⟨b, 7, none⟩ = some (.int .i64 (f.next : Nat)) := by rw [hW2]; exact cellOf HS.out.blk 7 rfl
  go_upto_region 10 with fail
  rw [← hW2] at HA0 ⊢
  clear hW2 n1 hcv qf2 q0 q1 q2 HS
  go_wp2_with fail
  refine (After.bind HA0.out (fun F1 h1 => HV.out F1 _ h1)).mono ?_
  rintro e w2 ⟨rfl, hA⟩
  have HA := Px.hid hA
  clear hA
  go_wp2
  go_end0
  exact ⟨rfl, HA.out⟩
set_option maxRecDepth 100000 in
set_option maxHeartbeats 4000000 in
theorem finish_again (b : Nat) (f : J6.Feed) (t : J6.Txt) (x : J6.Fm) (rest : List J6.Fm) (F : Nat → Prop) (w : World) (h : FeedAt w b f F) (hol : f.out.length ≤ 4096) (hsl : f.stack.length ≤ 32) (hout : f.out ≠ []) (hnow : f.now = .str t) (hnx : f.next = 2) (hst : f.stack = x :: rest) (hnl : x.names.length ≤ 262144) (hct : x.names.contains t.out = true) :
    Calls Try.prog 27 #[.pointer (some ⟨b, 0, none⟩)] w fun r w' => r = .returned (.tuple #[]) ∧ After w w' b (J6.wrong { f with now := .none, out := R6.setText f.out (f.out.length - 1) t.out } x.at_ 9) F := by
  obtain ⟨m, a, hm, ha⟩ := last_of hout
  obtain ⟨vo, vs, tv, tb, ps, h, hF⟩ := h
  obtain ⟨go, co, hvo, o1, o2, q0, q1, q2, qf⟩ := h.val ha
  have hb : b < w.heap.size := h.lt
  have c5 : w.cell? ⟨b, 5, none⟩ = some vo := cellOf h.blk 5 rfl
  rw [hvo, hm] at c5
  rw [hm] at hol o1
  have c8 : w.cell? ⟨b, 8, none⟩ = some tv := cellOf h.blk 8 rfl
  have f8 := h.free 8
  have HX := Px.hid (And.intro hnx (And.intro hst (And.intro hct hnl)))
  clear hnx hst hct
  obtain ⟨k, vt, htv, htb, hna⟩ : TokIs w tv tb (.str t) := by rw [← hnow]; exact h.parts.tok
  rw [htv] at c8
  have hkb : k ≠ b := fun e => h.nb (mem_blocks.2 (.inr (.inr (.inl (by rw [htb, e]; simp)))))
  have hvb : vt.ownBlock ≠ some b := fun e => h.nb (mem_blocks.2 (.inr (.inr (.inl (by rw [htb, ← e]; simp)))))
  have HK := Px.hid (fun nq : Nat => (h.drewN nq).drop)
  have HN := Px.hid (fun nq : Nat => (show ((w.drewN nq).setCell ⟨b, 8, none⟩ .nilIface).heap[k]? = w.heap[k]? from heap_setCell_other (w.drewN nq) ⟨b, 8, none⟩ k _ (fun e => hkb e)).trans hna.blk)
  have HT := Px.hid (fun nq : Nat => (hna.text.drewN nq).setCell (p := ⟨b, 8, none⟩) hvb .nilIface)
  have HF := Px.hid (And.intro hF (And.intro hvo (And.intro ha (And.intro hm hnow))))
  unfold maxLen at o2
  clear h hF hvo ha hout hnow htv htb hna hkb hvb qf q0 q1 q2 hm
  go_enter Try.func27, Try.ntmps27
  go_wp2_with fail
  go_quiet (fail)
  go_upto_region 9 with fail
  have hD := HK.out nq
  have hN := HN.out nq
  have hT := HT.out nq
  have hFr : Fr (foot b (blocks vo vs tb ps)) w ((w.drewN nq).setCell ⟨b, 8, none⟩ .nilIface) := ((Fr.refl _ w).drewN nq).setCell (p := ⟨b, 8, none⟩) (.inl (.inl rfl)) _
  obtain ⟨W1, hW1⟩ : ∃ W1, W1 = (w.drewN nq).setCell ⟨b, 8, none⟩ .nilIface := ⟨_, rfl⟩
  rw [← hW1] at hD hN hT hFr ⊢
  obtain ⟨go', co', hvo', _, _, q0, q1, q2, qf⟩ := hD.val (j := m) (a := a) HF.out.2.2.1
  have hgo : go' = go := by have := HF.out.2.1.symm.trans hvo'; simp only [Value.slice.injEq, Option.some.injEq, Addr.mk.injEq] at this; exact this.1.1.symm
  subst hgo
  have n1 : W1.cell? ⟨k, 1, none⟩ = some vt := cellOf hN 1 rfl
  have hcv : (convert 60 9 vt).run Try.prog W1 = .ok (S t.out) W1 := Owns.str hT (by kernel_rfl) (by kernel_rfl) (by kernel_rfl)
  have qf2 := qf (m * 3 + 2)
  have hb1 : b < W1.heap.size := hD.lt
  have hs : FeedRep (W1.setCell ⟨go', m * 3 + 2, none⟩ (S t.out)) b { f with now := .none, out := R6.setText f.out (f.out.length - 1) t.out } vo vs .nilIface [] ps := by
    have hD2 := hD
    rw [HF.out.2.1] at hD2 ⊢
    have e : R6.setText f.out (f.out.length - 1) t.out = f.out.set m { a with text := t.out } := by
      unfold R6.setText
      rw [HF.out.2.2.2.1, Nat.add_sub_cancel]
      exact modify_set f.out m a _ HF.out.2.2.1
    rw [e]
    exact hD2.setVal (j := m) (a := a) (a' := { a with text := t.out }) HF.out.2.2.1 2 (by decide) _ rfl
  have hbl : ∀ j, some j ∈ blocks vo vs [] ps → some j ∈ blocks vo vs tb ps := fun j e => by
    rcases mem_blocks.1 e with x | x | x | x
    · exact mem_blocks.2 (.inl x)
    · exact mem_blocks.2 (.inr (.inl x))
    · cases x
    · exact mem_blocks.2 (.inr (.inr (.inr x)))
  have hFr2 : Fr (foot b (blocks vo vs tb ps)) w (W1.setCell ⟨go', m * 3 + 2, none⟩ (S t.out)) := hFr.setCell (p := ⟨go', m * 3 + 2, none⟩) (.inl (.inr (mem_blocks.2 (.inl (by rw [HF.out.2.1]; rfl))))) _
  have hA0 : After w (W1.setCell ⟨go', m * 3 + 2, none⟩ (S t.out)) b { f with now := .none, out := R6.setText f.out (f.out.length - 1) t.out } F := by
    rw [HF.out.1]
    exact ⟨_, ⟨_, _, _, _, _, hs, rfl⟩, hFr2, Fresh.foot (fun j e => .inl (hbl j e))⟩
  have HS := Px.hid hs
  have HFR := Px.hid (And.intro hFr2 hbl)
  have HA0 := Px.hid hA0
  clear hW1 hN hT hFr hvo' qf hbl hFr2 hA0 hs hD c5 c8 f8
  obtain ⟨W2, hW2⟩ : ∃ W2, W2 = W1.setCell ⟨go', m * 3 + 2, none⟩ (S t.out) := ⟨_, rfl⟩
  have HS2 := Px.hid (show FeedRep W2 b { f with now := .none, out := R6.setText f.out (f.out.length - 1) t.out } vo vs .nilIface [] ps by rw [hW2]; exact HS.out)
  have HFR2 := Px.hid (show Fr (foot b (blocks vo vs tb ps)) w W2 by rw [hW2]; exact HFR.out.1)
  have k7 : W2.cell? ⟨b, 7, none⟩ = some (.int .i64 2) := by have := cellOf HS2.out.blk 7 (v := .int .i64 (f.next : Nat)) rfl; rw [HX.out.1] at this; exact this
  have hx2 : ((2 : Int) == 2) = true := rfl
  go_upto_region 10 with fail
  rw [← hW2] at HA0 ⊢
  clear hW2 n1 hcv qf2 q0 q1 q2 HS hb1
  have hbW : b < W2.heap.size := HS2.out.lt
  obtain ⟨vn, ps2, hps, hmm, g, cap', hsv, hc1, hc2, k0, k1, k2, kf⟩ := HS2.out.top (x := x) (rest := rest) HX.out.2.1
  have hlen : (R6.setText f.out (f.out.length - 1) t.out)[m]? = some { a with text := t.out } := by
    unfold R6.setText
    rw [HF.out.2.2.2.1, Nat.add_sub_cancel, modify_set f.out m a _ HF.out.2.2.1]
    simp [HF.out.2.2.2.1]
  obtain ⟨go2, co2, hvo2, _, _, _, _, u2, _⟩ := HS2.out.val (j := m) (a := { a with text := t.out }) hlen
  have hgo2 : go2 = go' := by have := HF.out.2.1.symm.trans hvo2; simp only [Value.slice.injEq, Option.some.injEq, Addr.mk.injEq] at this; exact this.1.1.symm
  subst hgo2
  have c6 : W2.cell? ⟨b, 6, none⟩ = some (.slice (some ⟨g, 0, none⟩) (ps2.length + 1) cap') := by rw [← hsv]; exact cellOf HS2.out.blk 6 rfl
  have hpl : ps2.length ≤ 32 := by have h2 := congrArg List.length hmm; rw [List.length_map] at h2; have h3 := hsl; rw [HX.out.2.1] at h3; simp at h3; omega
  have hon : Owns W2 9 1 cStr vn x.names := HS2.out.parts.names (x, vn) (by rw [hps]; exact List.mem_cons_self ..)
  have HP := Px.hid (And.intro hps (And.intro hmm (And.intro hsv (And.intro hon kf))))
  unfold maxLen at hc2
  clear hps hmm hsv hvo2 hlen hon kf k0
  go_wp2_with fail
  go_quiet (fail)
  go_upto_region 12 with fail
  have HS3 := Px.hid (HS2.out.drewN nq)
  have HA3 := Px.hid (show After w (W2.drewN nq) b { f with now := .none, out := R6.setText f.out (f.out.length - 1) t.out } F by
    obtain ⟨F1, a1, a2, a3⟩ := HA0.out
    refine ⟨F1, ?_, a2.drewN nq, a3⟩
    obtain ⟨v1, v2, v3, v4, v5, v6, v7⟩ := a1
    exact ⟨v1, v2, v3, v4, v5, v6.drewN nq, v7⟩)
  have hon3 : Owns (W2.drewN nq) 9 1 cStr vn x.names := HP.out.2.2.2.1.drewN nq
  obtain ⟨W3, hW3⟩ : ∃ W3, W3 = W2.drewN nq := ⟨_, rfl⟩
  have HFR3 := Px.hid (show Fr (foot b (blocks vo vs tb ps)) w W3 by rw [hW3]; exact HFR2.out.drewN nq)
  rw [← hW3] at HS3 HA3 hon3 ⊢
  have hbW3 : b < W3.heap.size := HS3.out.lt
  have k1 : W3.cell? ⟨g, ps2.length * 3 + 1, none⟩ = some (.int .i64 (x.at_ : Nat)) := by rw [hW3]; exact k1
  have k2 : W3.cell? ⟨g, ps2.length * 3 + 2, none⟩ = some vn := by rw [hW3]; exact k2
  have u2 : W3.cell? ⟨go2, m * 3 + 2, none⟩ = some (S t.out) := by rw [hW3]; exact u2
  have kf3 : W3.frozen? ⟨g, ps2.length * 3 + 2, none⟩ = false := by rw [hW3]; exact HP.out.2.2.2.2 _
  have HON := Px.hid (And.intro hon3 hnl)
  clear hW3 hon3 hbW c6 k7 HA0 HS2
  have HCT := Px.hid (fun n : Nat => (show Calls Try.prog 38 #[vn, S t.out] (W3.drewN n) fun e w' => e = .returned (.bool true) ∧ w' = W3.drewN n from
    (contains_any vn x.names t.out (by have := HON.out.2; omega) (W3.drewN n) (HON.out.1.drewN n)).mono (fun _ _ h => ⟨by rw [h.1, HX.out.2.2.1], h.2.symm⟩)))
  go_quiet ((go_at_call 38; exact Calls.quiet_of_same (HCT.out _)))
  have HA4 := Px.hid (show After w (W3.drewN nq) b { f with now := .none, out := R6.setText f.out (f.out.length - 1) t.out } F by
    obtain ⟨F1, a1, a2, a3⟩ := HA3.out
    refine ⟨F1, ?_, a2.drewN nq, a3⟩
    obtain ⟨v1, v2, v3, v4, v5, v6, v7⟩ := a1
    exact ⟨v1, v2, v3, v4, v5, v6.drewN nq, v7⟩)
  go_wp2_with fail
  refine (After.bind HA4.out (fun F1 h1 => (wrong_any b x.at_ 9 { f with now := .none, out := R6.setText f.out (f.out.length - 1) t.out } F1 _ h1).mono (fun r w' h => ⟨h.1, F1, h.2.1, h.2.2, Fresh.refl _ _⟩))).mono ?_
  rintro e w2 ⟨rfl, hA⟩
  have HA := Px.hid hA
  clear hA
  go_wp2
  refine bodyPost_ret (results_none rfl _ _ _) rfl ?_
  exact ⟨rfl, HA.out⟩
set_option maxRecDepth 100000 in
set_option maxHeartbeats 4000000 in
theorem finish_name (b : Nat) (f : J6.Feed) (t : J6.Txt) (x : J6.Fm) (rest : List J6.Fm) (F : Nat → Prop) (w : World) (h : FeedAt w b f F) (hol : f.out.length ≤ 4096) (hsl : f.stack.length ≤ 32) (hout : f.out ≠ []) (hnow : f.now = .str t) (hnx : f.next = 2) (hst : f.stack = x :: rest) (hnl : x.names.length ≤ 262144) (hct : x.names.contains t.out = false) :
    Calls Try.prog 27 #[.pointer (some ⟨b, 0, none⟩)] w fun r w' => r = .returned (.tuple #[]) ∧ After w w' b { f with now := .none, out := R6.setText f.out (f.out.length - 1) t.out, stack := { x with names := x.names ++ [t.out] } :: rest, next := 4 } F := by
  obtain ⟨m, a, hm, ha⟩ := last_of hout
  obtain ⟨vo, vs, tv, tb, ps, h, hF⟩ := h
  obtain ⟨go, co, hvo, o1, o2, q0, q1, q2, qf⟩ := h.val ha
  have hb : b < w.heap.size := h.lt
  have c5 : w.cell? ⟨b, 5, none⟩ = some vo := cellOf h.blk 5 rfl
  rw [hvo, hm] at c5
  rw [hm] at hol o1
  have c8 : w.cell? ⟨b, 8, none⟩ = some tv := cellOf h.blk 8 rfl
  have f8 := h.free 8
  have HX := Px.hid (And.intro hnx (And.intro hst (And.intro hct hnl)))
  clear hnx hst hct
  obtain ⟨k, vt, htv, htb, hna⟩ : TokIs w tv tb (.str t) := by rw [← hnow]; exact h.parts.tok
  rw [htv] at c8
  have hkb : k ≠ b := fun e => h.nb (mem_blocks.2 (.inr (.inr (.inl (by rw [htb, e]; simp)))))
  have hvb : vt.ownBlock ≠ some b := fun e => h.nb (mem_blocks.2 (.inr (.inr (.inl (by rw [htb, ← e]; simp)))))
  have HK := Px.hid (fun nq : Nat => (h.drewN nq).drop)
  have HN := Px.hid (fun nq : Nat => (show ((w.drewN nq).setCell ⟨b, 8, none⟩ .nilIface).heap[k]? = w.heap[k]? from heap_setCell_other (w.drewN nq) ⟨b, 8, none⟩ k _ (fun e => hkb e)).trans hna.blk)
  have HT := Px.hid (fun nq : Nat => (hna.text.drewN nq).setCell (p := ⟨b, 8, none⟩) hvb .nilIface)
  have HF := Px.hid (And.intro hF (And.intro hvo (And.intro ha (And.intro hm hnow))))
  unfold maxLen at o2
  clear h hF hvo ha hout hnow htv htb hna hkb hvb qf q0 q1 q2 hm
  go_enter Try.func27, Try.ntmps27
  go_wp2_with fail
  go_quiet (fail)
  go_upto_region 9 with fail
  have hD := HK.out nq
  have hN := HN.out nq
  have hT := HT.out nq
  have hFr : Fr (foot b (blocks vo vs tb ps)) w ((w.drewN nq).setCell ⟨b, 8, none⟩ .nilIface) := ((Fr.refl _ w).drewN nq).setCell (p := ⟨b, 8, none⟩) (.inl (.inl rfl)) _
  obtain ⟨W1, hW1⟩ : ∃ W1, W1 = (w.drewN nq).setCell ⟨b, 8, none⟩ .nilIface := ⟨_, rfl⟩
  rw [← hW1] at hD hN hT hFr ⊢
  obtain ⟨go', co', hvo', _, _, q0, q1, q2, qf⟩ := hD.val (j := m) (a := a) HF.out.2.2.1
  have hgo : go' = go := by have := HF.out.2.1.symm.trans hvo'; simp only [Value.slice.injEq, Option.some.injEq, Addr.mk.injEq] at this; exact this.1.1.symm
  subst hgo
  have n1 : W1.cell? ⟨k, 1, none⟩ = some vt := cellOf hN 1 rfl
  have hcv : (convert 60 9 vt).run Try.prog W1 = .ok (S t.out) W1 := Owns.str hT (by kernel_rfl) (by kernel_rfl) (by kernel_rfl)
  have qf2 := qf (m * 3 + 2)
  have hb1 : b < W1.heap.size := hD.lt
  have hs : FeedRep (W1.setCell ⟨go', m * 3 + 2, none⟩ (S t.out)) b { f with now := .none, out := R6.setText f.out (f.out.length - 1) t.out } vo vs .nilIface [] ps := by
    have hD2 := hD
    rw [HF.out.2.1] at hD2 ⊢
    have e : R6.setText f.out (f.out.length - 1) t.out = f.out.set m { a with text := t.out } := by
      unfold R6.setText
      rw [HF.out.2.2.2.1, Nat.add_sub_cancel]
      exact modify_set f.out m a _ HF.out.2.2.1
    rw [e]
    exact hD2.setVal (j := m) (a := a) (a' := { a with text := t.out }) HF.out.2.2.1 2 (by decide) _ rfl
  have hbl : ∀ j, some j ∈ blocks vo vs [] ps → some j ∈ blocks vo vs tb ps := fun j e => by
    rcases mem_blocks.1 e with x | x | x | x
    · exact mem_blocks.2 (.inl x)
    · exact mem_blocks.2 (.inr (.inl x))
    · cases x
    · exact mem_blocks.2 (.inr (.inr (.inr x)))
  have hFr2 : Fr (foot b (blocks vo vs tb ps)) w (W1.setCell ⟨go', m * 3 + 2, none⟩ (S t.out)) := hFr.setCell (p := ⟨go', m * 3 + 2, none⟩) (.inl (.inr (mem_blocks.2 (.inl (by rw [HF.out.2.1]; rfl))))) _
  have hA0 : After w (W1.setCell ⟨go', m * 3 + 2, none⟩ (S t.out)) b { f with now := .none, out := R6.setText f.out (f.out.length - 1) t.out } F := by
    rw [HF.out.1]
    exact ⟨_, ⟨_, _, _, _, _, hs, rfl⟩, hFr2, Fresh.foot (fun j e => .inl (hbl j e))⟩
  have HS := Px.hid hs
  have HFR := Px.hid (And.intro hFr2 hbl)
  have HA0 := Px.hid hA0
  clear hW1 hN hT hFr hvo' qf hbl hFr2 hA0 hs hD c5 c8 f8
  obtain ⟨W2, hW2⟩ : ∃ W2, W2 = W1.setCell ⟨go', m * 3 + 2, none⟩ (S t.out) := ⟨_, rfl⟩
  have HS2 := Px.hid (show FeedRep W2 b { f with now := .none, out := R6.setText f.out (f.out.length - 1) t.out } vo vs .nilIface [] ps by rw [hW2]; exact HS.out)
  have HFR2 := Px.hid (show Fr (foot b (blocks vo vs tb ps)) w W2 by rw [hW2]; exact HFR.out.1)
  have k7 : W2.cell? ⟨b, 7, none⟩ = some (.int .i64 2) := by have := cellOf HS2.out.blk 7 (v := .int .i64 (f.next : Nat)) rfl; rw [HX.out.1] at this; exact this
  have hx2 : ((2 : Int) == 2) = true := rfl
  go_upto_region 10 with fail
  rw [← hW2] at HA0 ⊢
  clear hW2 n1 hcv qf2 q0 q1 q2 HS hb1
  have hbW : b < W2.heap.size := HS2.out.lt
  obtain ⟨vn, ps2, hps, hmm, g, cap', hsv, hc1, hc2, k0, k1, k2, kf⟩ := HS2.out.top (x := x) (rest := rest) HX.out.2.1
  have hlen : (R6.setText f.out (f.out.length - 1) t.out)[m]? = some { a with text := t.out } := by
    unfold R6.setText
    rw [HF.out.2.2.2.1, Nat.add_sub_cancel, modify_set f.out m a _ HF.out.2.2.1]
    simp [HF.out.2.2.2.1]
  obtain ⟨go2, co2, hvo2, _, _, _, _, u2, _⟩ := HS2.out.val (j := m) (a := { a with text := t.out }) hlen
  have hgo2 : go2 = go' := by have := HF.out.2.1.symm.trans hvo2; simp only [Value.slice.injEq, Option.some.injEq, Addr.mk.injEq] at this; exact this.1.1.symm
  subst hgo2
  have c6 : W2.cell? ⟨b, 6, none⟩ = some (.slice (some ⟨g, 0, none⟩) (ps2.length + 1) cap') := by rw [← hsv]; exact cellOf HS2.out.blk 6 rfl
  have hpl : ps2.length ≤ 32 := by have h2 := congrArg List.length hmm; rw [List.length_map] at h2; have h3 := hsl; rw [HX.out.2.1] at h3; simp at h3; omega
  have hon : Owns W2 9 1 cStr vn x.names := HS2.out.parts.names (x, vn) (by rw [hps]; exact List.mem_cons_self ..)
  have HP := Px.hid (And.intro hps (And.intro hmm (And.intro hsv (And.intro hon kf))))
  unfold maxLen at hc2
  clear hps hmm hsv hvo2 hlen hon kf k0
  go_wp2_with fail
  go_quiet (fail)
  go_upto_region 12 with fail
  have HS3 := Px.hid (HS2.out.drewN nq)
  have HA3 := Px.hid (show After w (W2.drewN nq) b { f with now := .none, out := R6.setText f.out (f.out.length - 1) t.out } F by
    obtain ⟨F1, a1, a2, a3⟩ := HA0.out
    refine ⟨F1, ?_, a2.drewN nq, a3⟩
    obtain ⟨v1, v2, v3, v4, v5, v6, v7⟩ := a1
    exact ⟨v1, v2, v3, v4, v5, v6.drewN nq, v7⟩)
  have hon3 : Owns (W2.drewN nq) 9 1 cStr vn x.names := HP.out.2.2.2.1.drewN nq
  obtain ⟨W3, hW3⟩ : ∃ W3, W3 = W2.drewN nq := ⟨_, rfl⟩
  have HFR3 := Px.hid (show Fr (foot b (blocks vo vs tb ps)) w W3 by rw [hW3]; exact HFR2.out.drewN nq)
  rw [← hW3] at HS3 HA3 hon3 ⊢
  have hbW3 : b < W3.heap.size := HS3.out.lt
  have k1 : W3.cell? ⟨g, ps2.length * 3 + 1, none⟩ = some (.int .i64 (x.at_ : Nat)) := by rw [hW3]; exact k1
  have k2 : W3.cell? ⟨g, ps2.length * 3 + 2, none⟩ = some vn := by rw [hW3]; exact k2
  have u2 : W3.cell? ⟨go2, m * 3 + 2, none⟩ = some (S t.out) := by rw [hW3]; exact u2
  have kf3 : W3.frozen? ⟨g, ps2.length * 3 + 2, none⟩ = false := by rw [hW3]; exact HP.out.2.2.2.2 _
  have HON := Px.hid (And.intro hon3 hnl)
  clear hW3 hon3 hbW c6 k7 HA0 HS2
  have HCT := Px.hid (fun n : Nat => (show Calls Try.prog 38 #[vn, S t.out] (W3.drewN n) fun e w' => e = .returned (.bool false) ∧ w' = W3.drewN n from
    (contains_any vn x.names t.out (by have := HON.out.2; omega) (W3.drewN n) (HON.out.1.drewN n)).mono (fun _ _ h => ⟨by rw [h.1, HX.out.2.2.1], h.2.symm⟩)))
  go_quiet ((go_at_call 38; exact Calls.quiet_of_same (HCT.out _)))
  go_upto_region 14 with fail
  have hA4 : After w (W3.drewN nq) b { f with now := .none, out := R6.setText f.out (f.out.length - 1) t.out } (foot b (blocks vo vs tb ps)) := by
    rw [← HF.out.1]
    obtain ⟨F1, a1, a2, a3⟩ := HA3.out
    refine ⟨F1, ?_, a2.drewN nq, a3⟩
    obtain ⟨v1, v2, v3, v4, v5, v6, v7⟩ := a1
    exact ⟨v1, v2, v3, v4, v5, v6.drewN nq, v7⟩
  have HS4 := Px.hid (HS3.out.drewN nq)
  have hon4 : Owns (W3.drewN nq) 9 1 cStr vn x.names := HON.out.1.drewN nq
  obtain ⟨W4, hW4⟩ : ∃ W4, W4 = W3.drewN nq := ⟨_, rfl⟩
  have HFR4 := Px.hid (show Fr F w W4 by rw [hW4, HF.out.1]; exact HFR3.out.drewN nq)
  rw [← hW4] at hA4 HS4 hon4 ⊢
  have k2' : W4.cell? ⟨g, ps2.length * 3 + 2, none⟩ = some vn := by rw [hW4]; exact k2
  have u2' : W4.cell? ⟨go2, m * 3 + 2, none⟩ = some (S t.out) := by rw [hW4]; exact u2
  have kf4 : W4.frozen? ⟨g, ps2.length * 3 + 2, none⟩ = false := by rw [hW4]; exact kf3
  have HS5 := Px.hid (show FeedRep W4 b { f with now := .none, out := R6.setText f.out (f.out.length - 1) t.out } vo (.slice (some ⟨g, 0, none⟩) (ps2.length + 1) cap') .nilIface [] ((x, vn) :: ps2) by
    have := HS4.out
    rw [HP.out.2.2.1, HP.out.1] at this
    exact this)
  have hgv : vn.ownBlock ≠ some g := fun e => (HS5.out.parts.split.2.2.1 g rfl).2 (mem_nm.2 ⟨_, List.mem_cons_self .., e⟩)
  have hgl : g < W4.heap.size := HS5.out.parts.stack.lt rfl
  have hgo4 : go2 < W4.heap.size := HS5.out.parts.out.lt (by rw [HF.out.2.1]; rfl)
  have HGV := Px.hid (And.intro hgv hgl)
  have HOW := Px.hid (show W4.ownsRow 0 9 1 vn x.names.length (x.names.flatMap cStr) from hon4)
  have HA4 := Px.hid hA4
  obtain ⟨na, nc, hvn, _⟩ := hon4.len
  have HVN := Px.hid hvn
  obtain ⟨i0, hi0, hz0, hz1, hz2⟩ := info_parts Try.infoStr
  have hN := HX.out.2.2.2
  clear hW4 k1 k2 u2 kf3 hA4 HS4 hon4 HON HA3 HS3 hgv hbW3 HCT hvn
  go_cut [] (fun wx => After W4 wx b { f with now := .none, out := R6.setText f.out (f.out.length - 1) t.out, stack := { x with names := x.names ++ [t.out] } :: ps2.map Prod.fst } (foot b (blocks vo vs [] ps)))
  case first =>
    go_region_law
      ((refine step_append_lies _ (by rfl) _ _ _ (by rfl) 0 9 i0 _ 1 16 Try.underlying22 hi0 hz0 hz1 hz2 rfl (by omega) vn x.names.length (x.names.flatMap cStr) (by rfl) ((HOW.out.alloc _).drew)
            ⟨W4.heap.size, 0, none⟩ 1 1 (cStr t.out) (by rfl) (by rfl) (World.news_of_block (cs := #[S t.out]) (t := 9) (fr := (0, 0)) (heap_alloc_new W4 _)) (by simp [cStr, Value.oneCell'])
            (by omega) (by unfold maxLen; omega) (by omega) (by simp) (W4.heap.size + 1) (by simp) ?_; intro gg cap w1 hown1 hgrow hat hlt; have k5 := grown_cell hgrow k2' HGV.out.1; have e5 := grown_free hgrow k2' kf4 HGV.out.1))
    all_goals (go_wp2_with fail; go_meet; rw [HP.out.2.2.1, HP.out.1]; exact HS5.out.putName hown1 (grown_alloc hgrow) (hat.imp id (fun e => by omega)))
  case rest =>
    have hA5 : After w wc b { f with now := .none, out := R6.setText f.out (f.out.length - 1) t.out, stack := { x with names := x.names ++ [t.out] } :: rest } F := by
      rw [← HP.out.2.1]
      have hsub : ∀ j, foot b (blocks vo vs [] ps) j → F j := fun j hj => by
        rw [HF.out.1]
        exact hj.imp id (HFR.out.2 j)
      obtain ⟨F5, c1, c2, c3⟩ := hcut
      exact ⟨F5, c1, HFR4.out.trans c2 (fun j _ hj => hsub j hj), fun j hj => by
        rcases c3 j hj with y | y
        · exact .inl (hsub j y)
        · have := HFR4.out.size; exact .inr (by omega)⟩
    have c7 := hA5.c7.1
    have f7 := hA5.c7.2
    have HA5 := Px.hid hA5
    clear hA5 hcut k2' u2' kf4
    go_wp2
    refine bodyPost_ret (results_none rfl _ _ _) rfl ?_
    exact ⟨rfl, HA5.out.setNext 4⟩
/-- finish, whole. -/
theorem finish_any (b : Nat) (f : J6.Feed) (F : Nat → Prop) (w : World) (h : FeedAt w b f F) (hok : J6.OkK 1 { f with now := .none }) (hn : f.now ≠ .none) (hout : f.out ≠ []) :
    Calls Try.prog 27 #[.pointer (some ⟨b, 0, none⟩)] w fun r w' => r = .returned (.tuple #[]) ∧ After w w' b (J6.finish f) F := by
  have hm := J6.may_parts6 hok.may
  have hol : f.out.length ≤ 4096 := by have := hok.ol; have e : ({ f with now := .none } : J6.Feed).out.length = f.out.length := rfl; omega
  have hsl : f.stack.length ≤ 32 := by have := hok.sd; have e : ({ f with now := .none } : J6.Feed).stack.length = f.stack.length := rfl; omega
  have hfn : f.n ≤ 262144 := by have := hok.nb; have e : ({ f with now := .none } : J6.Feed).n = f.n := rfl; omega
  cases hnow : f.now with
  | none => exact absurd hnow hn
  | word r =>
    have e : J6.finish f = J6.over { f with now := .none } := by unfold J6.finish; rw [hnow]
    rw [e]
    exact finish_word b f r F w h hol hsl hout hnow
  | num q t =>
    have e : J6.finish f = J6.over { f with now := .none, out := R6.setText f.out (f.out.length - 1) t } := by unfold J6.finish; rw [hnow]
    rw [e]
    exact finish_num b f q t F w h hol hsl hout hnow
  | str t =>
    by_cases hnx : f.next = 2
    · have hne : f.stack ≠ [] := hok.st (by show 1 ≤ f.next; omega) (by show f.next ≤ 5; omega)
      obtain ⟨x, rest, hst⟩ : ∃ x rest, f.stack = x :: rest := by
        cases hs : f.stack with
        | nil => exact absurd hs hne
        | cons x r => exact ⟨x, r, rfl⟩
      have hxl : x.names.length ≤ 262144 := by
        have := (hok.each x (by show x ∈ f.stack; rw [hst]; exact List.mem_cons_self ..)).2
        have e : ({ f with now := .none } : J6.Feed).n = f.n := rfl
        omega
      cases hct : x.names.contains t.out with
      | true =>
        have e : J6.finish f = J6.wrong { f with now := .none, out := R6.setText f.out (f.out.length - 1) t.out } x.at_ 9 := by
          unfold J6.finish
          rw [hnow]
          simp only
          rw [if_pos (by simpa using hnx), hst]
          simp only
          rw [if_pos hct, ← hst]
        rw [e]
        exact finish_again b f t x rest F w h hol hsl hout hnow hnx hst hxl hct
      | false =>
        have e : J6.finish f = { f with now := .none, out := R6.setText f.out (f.out.length - 1) t.out, stack := { x with names := x.names ++ [t.out] } :: rest, next := 4 } := by
          unfold J6.finish
          rw [hnow]
          simp only
          rw [if_pos (by simpa using hnx), hst]
          simp only
          rw [if_neg (by rw [hct]; simp)]
        rw [e]
        exact finish_name b f t x rest F w h hol hsl hout hnow hnx hst hxl hct
    · have e : J6.finish f = J6.over { f with now := .none, out := R6.setText f.out (f.out.length - 1) t.out } := by
        unfold J6.finish
        rw [hnow]
        simp only
        rw [if_neg (by simpa using hnx)]
      rw [e]
      exact finish_plain b f t F w h hol hsl hout hnow hnx
end Go.Proofs.Ytahojodgmjmpnaa
