/-
  The walks over utf8.AppendRune, and slices of bytes that grow.
-/
import Derived.Shelf.Utf8.AppendRunePlain
import Derived.Test.YtahojodgmjmpnaaWaJ
import Derived.Test.YtahojodgmjmpnaaAp
import Derived.Deep.RegionHeld3
import Derived.Deep.LoopGhost
import Derived.Deep.RegionLaw
import Derived.Deep.DeepCutAuto
namespace Go.Proofs.Ytahojodgmjmpnaa
open Go.RowKit Go.Px

theorem byte_cell (a : Nat) (h : a < 256) : Value.int .u8 ((UInt8.ofNat a).toNat : Nat) = .int .u8 ((a : Nat) : Int) := by
  rw [UInt8.toNat_ofNat', Nat.mod_eq_of_lt (by omega)]
theorem sign_cells (n : Nat) (h : n < 55296 ∨ (57343 < n ∧ n ≤ 1114111)) : Lib.runeCells (n : Int) = (R6.sign8 n).flatMap cByte := by
  unfold Lib.runeCells R6.sign8
  by_cases h1 : n < 128
  · rw [if_pos h1, Lib.encodeRuneZ_one (by omega) (by omega)]
    simp only [List.map_cons, List.map_nil, List.flatMap_cons, List.flatMap_nil, cByte, List.cons_append, List.nil_append]
    rw [byte_cell n (by omega)]
  · rw [if_neg h1]
    by_cases h2 : n < 2048
    · rw [if_pos h2, Lib.encodeRuneZ_two (by omega) (by omega)]
      simp only [List.map_cons, List.map_nil, List.flatMap_cons, List.flatMap_nil, cByte, List.cons_append, List.nil_append]
      rw [byte_cell (192 + n / 64) (by omega), byte_cell (128 + n % 64) (by omega)]
      rfl
    · rw [if_neg h2]
      by_cases h3 : n < 65536
      · rw [if_pos h3, Lib.encodeRuneZ_three (by omega)]
        simp only [List.map_cons, List.map_nil, List.flatMap_cons, List.flatMap_nil, cByte, List.cons_append, List.nil_append]
        rw [byte_cell (224 + n / 4096) (by omega), byte_cell (128 + n / 64 % 64) (by omega), byte_cell (128 + n % 64) (by omega)]
        rfl
      · rw [if_neg h3, Lib.encodeRuneZ_four (by omega) (by omega)]
        simp only [List.map_cons, List.map_nil, List.flatMap_cons, List.flatMap_nil, cByte, List.cons_append, List.nil_append]
        rw [byte_cell (240 + n / 262144) (by omega), byte_cell (128 + n / 4096 % 64) (by omega), byte_cell (128 + n / 64 % 64) (by omega), byte_cell (128 + n % 64) (by omega)]
        rfl

/-- A slice of bytes of the call's own that has grown. -/
def Grown (w : World) (v : Value) (l : Bytes) (v' : Value) (w' : World) : Prop :=
  Owns w' 5 1 cByte v' l ∧ Fr (fun k => v.ownBlock = some k) w w' ∧ ∀ g, v'.ownBlock = some g → v.ownBlock = some g ∨ w.heap.size ≤ g

theorem grown_alloc1 {w w1 : World} {o : Obj} {row : Option Nat} (hg : (w.alloc o).grownBy w1 row) : w.grownBy w1 row :=
  ⟨hg.os, hg.tape, hg.output, by have := hg.size; simp at this; omega, fun k hk hne => (hg.block k (by simp; omega) hne).trans (Below.heap_alloc w o k hk)⟩
theorem Grown.trans {w w1 w2 : World} {v v1 v2 : Value} {l l2 : Bytes} (h : Grown w v l v1 w1) (k : Grown w1 v1 l2 v2 w2) : Grown w v l2 v2 w2 :=
  ⟨k.1, Fr.step h.2.1 (fun b hb => h.2.2 b hb) k.2.1, fun g hg => by
    rcases k.2.2 g hg with e | e
    · exact h.2.2 g e
    · exact .inr (Nat.le_trans h.2.1.size e)⟩
/-- Behind an append of a row of bytes. -/
theorem grown_put {w w1 : World} {v : Value} {l L : Bytes} {gg cap m : Nat} {news : List Value} (hn : news = L.flatMap cByte) (hm : L.length = m)
    (hown1 : w1.ownsRow 0 5 1 (.slice (some ⟨gg, 0, none⟩) (l.length + m) cap) (l.length + m) (l.flatMap cByte ++ news)) (hg : w.grownBy w1 v.ownBlock) (hat : v.ownBlock = some gg ∨ w.heap.size ≤ gg) :
    Grown w v (l ++ L) (.slice (some ⟨gg, 0, none⟩) (l.length + m) cap) w1 := by
  subst hn
  subst hm
  refine ⟨?_, Fr.grown (Fr.refl _ w) hg (fun k e => .inl e), fun g hg => ?_⟩
  · unfold Owns
    rw [List.length_append, List.flatMap_append]
    exact hown1
  · simp only [Value.ownBlock, Option.some.injEq] at hg
    subst hg
    exact hat
theorem Try.infoU8 : (Try.prog.info? 5).map (fun i => (i.zero, i.size, i.bytes)) = some (some (.int .u8 0), 1, 1) := by kernel_rfl

set_option maxRecDepth 100000 in
set_option maxHeartbeats 4000000 in
theorem rune_two (r : Int) (h0 : 128 ≤ r) (h1 : r ≤ 2047) (v : Value) (l L : Bytes) (hl : l.length ≤ 140737488355000) (w : World) (h : Owns w 5 1 cByte v l) (hL : [.int .u8 (192 + r / 64), .int .u8 (128 + r % 64)] = L.flatMap cByte) (hm : L.length = 2) :
    Calls Try.prog 75 #[v, .int .i32 r] w fun e w' => ∃ v', e = .returned v' ∧ Grown w v (l ++ L) v' w' := by
  obtain ⟨va, vc, hv, _⟩ := h.len
  subst hv
  have H := Px.hid (And.intro h (And.intro hL hm))
  clear h hL hm
  obtain ⟨i0, hi0, hz0, hz1, hz2⟩ := info_parts Try.infoU8
  go_enter Try.func75, Try.ntmps75
  go_wp2_with (at_builtin; go_must (refine wpList_append_lies _ rfl _ _ _ rfl 0 5 i0 _ 1 1 Try.underlying60 hi0 hz0 hz1 hz2 rfl (by omega) (.slice va l.length vc) l.length (l.flatMap cByte) rfl (Owns.alloc H.out.1 _) ⟨w.heap.size, 0, none⟩ 2 2 [.int .u8 (192 + r / 64), .int .u8 (128 + r % 64)] rfl rfl (World.news_of_block (cs := #[.int .u8 (192 + r / 64), .int .u8 (128 + r % 64)]) (t := 5) (fr := (0, 0)) (heap_alloc_new w _)) (by simp [Value.oneCell']) (by omega) (by unfold maxLen; omega) (by omega) (by omega) (w.heap.size + 1) (by simp) ?_))
  intro gg cap w1 hown1 hgrow hat hlt
  have HW := Px.hid (grown_put H.out.2.1 H.out.2.2 hown1 (grown_alloc1 (w := w) hgrow) (hat.imp id (fun e => by omega)))
  clear hown1 hgrow hat
  go_wp2
  go_ret
  exact ⟨_, rfl, HW.out⟩

set_option maxRecDepth 100000 in
set_option maxHeartbeats 4000000 in
theorem rune_low (r : Int) (h0 : 2048 ≤ r) (h1 : r < 55296) (v : Value) (l L : Bytes) (hl : l.length ≤ 140737488355000) (w : World) (h : Owns w 5 1 cByte v l) (hL : [.int .u8 (224 + r / 4096), .int .u8 (128 + r / 64 % 64), .int .u8 (128 + r % 64)] = L.flatMap cByte) (hm : L.length = 3) :
    Calls Try.prog 75 #[v, .int .i32 r] w fun e w' => ∃ v', e = .returned v' ∧ Grown w v (l ++ L) v' w' := by
  obtain ⟨va, vc, hv, _⟩ := h.len
  subst hv
  have H := Px.hid (And.intro h (And.intro hL hm))
  clear h hL hm
  obtain ⟨i0, hi0, hz0, hz1, hz2⟩ := info_parts Try.infoU8
  go_enter Try.func75, Try.ntmps75
  go_wp2_with (at_builtin; go_must (refine wpList_append_lies _ rfl _ _ _ rfl 0 5 i0 _ 1 1 Try.underlying60 hi0 hz0 hz1 hz2 rfl (by omega) (.slice va l.length vc) l.length (l.flatMap cByte) rfl (Owns.alloc H.out.1 _) ⟨w.heap.size, 0, none⟩ 3 3 [.int .u8 (224 + r / 4096), .int .u8 (128 + r / 64 % 64), .int .u8 (128 + r % 64)] rfl rfl (World.news_of_block (cs := #[.int .u8 (224 + r / 4096), .int .u8 (128 + r / 64 % 64), .int .u8 (128 + r % 64)]) (t := 5) (fr := (0, 0)) (heap_alloc_new w _)) (by simp [Value.oneCell']) (by omega) (by unfold maxLen; omega) (by omega) (by omega) (w.heap.size + 1) (by simp) ?_))
  intro gg cap w1 hown1 hgrow hat hlt
  have HW := Px.hid (grown_put H.out.2.1 H.out.2.2 hown1 (grown_alloc1 (w := w) hgrow) (hat.imp id (fun e => by omega)))
  clear hown1 hgrow hat
  go_wp2
  go_ret
  exact ⟨_, rfl, HW.out⟩

set_option maxRecDepth 100000 in
set_option maxHeartbeats 4000000 in
theorem rune_high (r : Int) (h0 : 57343 < r) (h1 : r ≤ 65535) (v : Value) (l L : Bytes) (hl : l.length ≤ 140737488355000) (w : World) (h : Owns w 5 1 cByte v l) (hL : [.int .u8 (224 + r / 4096), .int .u8 (128 + r / 64 % 64), .int .u8 (128 + r % 64)] = L.flatMap cByte) (hm : L.length = 3) :
    Calls Try.prog 75 #[v, .int .i32 r] w fun e w' => ∃ v', e = .returned v' ∧ Grown w v (l ++ L) v' w' := by
  obtain ⟨va, vc, hv, _⟩ := h.len
  subst hv
  have H := Px.hid (And.intro h (And.intro hL hm))
  clear h hL hm
  obtain ⟨i0, hi0, hz0, hz1, hz2⟩ := info_parts Try.infoU8
  go_enter Try.func75, Try.ntmps75
  go_wp2_with (at_builtin; go_must (refine wpList_append_lies _ rfl _ _ _ rfl 0 5 i0 _ 1 1 Try.underlying60 hi0 hz0 hz1 hz2 rfl (by omega) (.slice va l.length vc) l.length (l.flatMap cByte) rfl (Owns.alloc H.out.1 _) ⟨w.heap.size, 0, none⟩ 3 3 [.int .u8 (224 + r / 4096), .int .u8 (128 + r / 64 % 64), .int .u8 (128 + r % 64)] rfl rfl (World.news_of_block (cs := #[.int .u8 (224 + r / 4096), .int .u8 (128 + r / 64 % 64), .int .u8 (128 + r % 64)]) (t := 5) (fr := (0, 0)) (heap_alloc_new w _)) (by simp [Value.oneCell']) (by omega) (by unfold maxLen; omega) (by omega) (by omega) (w.heap.size + 1) (by simp) ?_))
  intro gg cap w1 hown1 hgrow hat hlt
  have HW := Px.hid (grown_put H.out.2.1 H.out.2.2 hown1 (grown_alloc1 (w := w) hgrow) (hat.imp id (fun e => by omega)))
  clear hown1 hgrow hat
  go_wp2
  go_ret
  exact ⟨_, rfl, HW.out⟩

set_option maxRecDepth 100000 in
set_option maxHeartbeats 4000000 in
theorem rune_four (r : Int) (h0 : 65536 ≤ r) (h1 : r ≤ 1114111) (v : Value) (l L : Bytes) (hl : l.length ≤ 140737488355000) (w : World) (h : Owns w 5 1 cByte v l) (hL : [.int .u8 (240 + r / 262144), .int .u8 (128 + r / 4096 % 64), .int .u8 (128 + r / 64 % 64), .int .u8 (128 + r % 64)] = L.flatMap cByte) (hm : L.length = 4) :
    Calls Try.prog 75 #[v, .int .i32 r] w fun e w' => ∃ v', e = .returned v' ∧ Grown w v (l ++ L) v' w' := by
  obtain ⟨va, vc, hv, _⟩ := h.len
  subst hv
  have H := Px.hid (And.intro h (And.intro hL hm))
  clear h hL hm
  obtain ⟨i0, hi0, hz0, hz1, hz2⟩ := info_parts Try.infoU8
  go_enter Try.func75, Try.ntmps75
  go_wp2_with (at_builtin; go_must (refine wpList_append_lies _ rfl _ _ _ rfl 0 5 i0 _ 1 1 Try.underlying60 hi0 hz0 hz1 hz2 rfl (by omega) (.slice va l.length vc) l.length (l.flatMap cByte) rfl (Owns.alloc H.out.1 _) ⟨w.heap.size, 0, none⟩ 4 4 [.int .u8 (240 + r / 262144), .int .u8 (128 + r / 4096 % 64), .int .u8 (128 + r / 64 % 64), .int .u8 (128 + r % 64)] rfl rfl (World.news_of_block (cs := #[.int .u8 (240 + r / 262144), .int .u8 (128 + r / 4096 % 64), .int .u8 (128 + r / 64 % 64), .int .u8 (128 + r % 64)]) (t := 5) (fr := (0, 0)) (heap_alloc_new w _)) (by simp [Value.oneCell']) (by omega) (by unfold maxLen; omega) (by omega) (by omega) (w.heap.size + 1) (by simp) ?_))
  intro gg cap w1 hown1 hgrow hat hlt
  have HW := Px.hid (grown_put H.out.2.1 H.out.2.2 hown1 (grown_alloc1 (w := w) hgrow) (hat.imp id (fun e => by omega)))
  clear hown1 hgrow hat
  go_wp2
  go_ret
  exact ⟨_, rfl, HW.out⟩

set_option maxRecDepth 100000 in
set_option maxHeartbeats 4000000 in
theorem rune_one (r : Int) (h0 : 0 ≤ r) (h1 : r ≤ 127) (v : Value) (l L : Bytes) (hl : l.length ≤ 140737488355000) (w : World) (h : Owns w 5 1 cByte v l) (hL : [.int .u8 r] = L.flatMap cByte) (hm : L.length = 1) :
    Calls Try.prog 73 #[v, .int .i32 r] w fun e w' => ∃ v', e = .returned v' ∧ Grown w v (l ++ L) v' w' := by
  obtain ⟨va, vc, hv, _⟩ := h.len
  subst hv
  have H := Px.hid (And.intro h (And.intro hL hm))
  clear h hL hm
  obtain ⟨i0, hi0, hz0, hz1, hz2⟩ := info_parts Try.infoU8
  go_enter Try.func73, Try.ntmps73
  go_wp2_with (at_builtin; go_must (refine wpList_append_lies _ rfl _ _ _ rfl 0 5 i0 _ 1 1 Try.underlying60 hi0 hz0 hz1 hz2 rfl (by omega) (.slice va l.length vc) l.length (l.flatMap cByte) rfl (Owns.alloc H.out.1 _) ⟨w.heap.size, 0, none⟩ 1 1 [.int .u8 r] rfl rfl (World.news_of_block (cs := #[.int .u8 r]) (t := 5) (fr := (0, 0)) (heap_alloc_new w _)) (by simp [Value.oneCell']) (by omega) (by unfold maxLen; omega) (by omega) (by omega) (w.heap.size + 1) (by simp) ?_))
  intro gg cap w1 hown1 hgrow hat hlt
  have HW := Px.hid (grown_put H.out.2.1 H.out.2.2 hown1 (grown_alloc1 (w := w) hgrow) (hat.imp id (fun e => by omega)))
  clear hown1 hgrow hat
  go_wp2
  go_ret
  exact ⟨_, rfl, HW.out⟩

set_option maxRecDepth 100000 in
set_option maxHeartbeats 4000000 in
theorem rune_far (n : Nat) (hn : 128 ≤ n) (hn2 : n ≤ 1114111) (v : Value) (w : World) (Q : Ending → World → Prop) (h : Calls Try.prog 75 #[v, .int .i32 (n : Nat)] w Q) (hQ : ∀ e w', Q e w' → ∃ v', e = .returned v') :
    Calls Try.prog 73 #[v, .int .i32 (n : Nat)] w Q := by
  have h0 : (128 : Int) ≤ (n : Int) := by omega
  have h1 : (n : Int) ≤ 1114111 := by omega
  have H := Px.hid (And.intro h hQ)
  clear h hQ hn hn2
  go_enter Try.func73, Try.ntmps73
  go_wp2_with fail
  refine H.out.1.mono ?_
  intro e w' hq
  obtain ⟨v', rfl⟩ := H.out.2 e w' hq
  have HQ := Px.hid hq
  clear hq
  go_wp2
  exact HQ.out
theorem rune_any (v : Value) (l : Bytes) (n : Nat) (hl : l.length ≤ 140737488355000) (h : n < 55296 ∨ (57343 < n ∧ n ≤ 1114111)) (w : World) (hown : Owns w 5 1 cByte v l) :
    Calls Try.prog 73 #[v, .int .i32 (n : Nat)] w fun e w' => ∃ v', e = .returned v' ∧ Grown w v (l ++ R6.sign8 n) v' w' := by
  have hc := sign_cells n h
  unfold Lib.runeCells at hc
  have hx : ∀ e w', (∃ v', e = Ending.returned v' ∧ Grown w v (l ++ R6.sign8 n) v' w') → ∃ v', e = .returned v' := fun e w' ⟨v', h, _⟩ => ⟨v', h⟩
  by_cases h1 : n < 128
  · rw [Lib.encodeRuneZ_one (by omega) (by omega)] at hc
    exact rune_one n (by omega) (by omega) v l _ hl w hown hc (by unfold R6.sign8; rw [if_pos h1]; rfl)
  · by_cases h2 : n < 2048
    · rw [Lib.encodeRuneZ_two (by omega) (by omega)] at hc
      exact rune_far n (by omega) (by omega) v w _ (rune_two n (by omega) (by omega) v l _ hl w hown hc (by unfold R6.sign8; rw [if_neg h1, if_pos h2]; rfl)) hx
    · by_cases h3 : n < 65536
      · rw [Lib.encodeRuneZ_three (by omega)] at hc
        have hm : (R6.sign8 n).length = 3 := by unfold R6.sign8; rw [if_neg h1, if_neg h2, if_pos h3]; rfl
        by_cases h4 : n < 55296
        · exact rune_far n (by omega) (by omega) v w _ (rune_low n (by omega) (by omega) v l _ hl w hown hc hm) hx
        · exact rune_far n (by omega) (by omega) v w _ (rune_high n (by omega) (by omega) v l _ hl w hown hc hm) hx
      · rw [Lib.encodeRuneZ_four (by omega) (by omega)] at hc
        exact rune_far n (by omega) (by omega) v w _ (rune_four n (by omega) (by omega) v l _ hl w hown hc (by unfold R6.sign8; rw [if_neg h1, if_neg h2, if_neg h3]; rfl)) hx
end Go.Proofs.Ytahojodgmjmpnaa
