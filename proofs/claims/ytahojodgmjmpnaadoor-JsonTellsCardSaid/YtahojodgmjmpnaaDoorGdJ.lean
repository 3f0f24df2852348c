/-
  What the walks of layer 16 share with those of layer 19 (printed by mkground.py out of their templates).
-/
import Derived.Test.YtahojodgmjmpnaaDoorAp
import Derived.Test.YtahojodgmjmpnaaDoorR6M
import Derived.Test.YtahojodgmjmpnaaDoorJfM
import Derived.Test.YtahojodgmjmpnaaDoorProg
import Derived.WalkKit
import Derived.WalkLawsBesides
import Derived.WalkSpells
import Derived.Deep.QuietTactic
import Derived.BigQuiet
import Derived.Shelf.Utf8.AppendRunePlain
import Derived.Deep.RegionHeld3
import Derived.Deep.LoopGhost
import Derived.Deep.RegionLaw
import Derived.Deep.DeepCutAuto
import Derived.Deep.RegionWith
import Derived.BigRegion
import Derived.Deep.Upon
/-! WaJ -/
namespace Go.Proofs.YtahojodgmjmpnaaDoor
open Go.RowKit Go.Px
/-- Behind a digit that is no 0. -/
def numD (q : Nat) : Option Nat := if q == 0 || q == 1 || q == 3 then some 3 else if q == 4 || q == 5 then some 5 else if q == 6 || q == 7 || q == 8 then some 8 else none
theorem numD_eq : ∀ q, q < 9 → ∀ c, c < 58 → 48 < c → R6.numNext q c = numD q := by decide
theorem num_none (q c : Nat) (h1 : ¬ (48 ≤ c ∧ c ≤ 57)) (h2 : c ≠ 45) (h3 : c ≠ 46) (h4 : c ≠ 101) (h5 : c ≠ 69) (h6 : c ≠ 43) : R6.numNext q c = none := by
  have hd : R6.digit c = false := by unfold R6.digit; simp; omega
  have h48 : (c == 48) = false := by simp; omega
  have e2 : (c == 45) = false := by simpa using h2
  have e3 : (c == 46) = false := by simpa using h3
  have e4 : (c == 101) = false := by simpa using h4
  have e5 : (c == 69) = false := by simpa using h5
  have e6 : (c == 43) = false := by simpa using h6
  unfold R6.numNext
  simp only [hd, h48, e2, e3, e4, e5, e6, Bool.and_false, Bool.or_false, Bool.false_eq_true, if_false]
end Go.Proofs.YtahojodgmjmpnaaDoor
/-! WbJ -/
namespace Go.Proofs.YtahojodgmjmpnaaDoor
open Go.RowKit Go.Px
theorem byte_cell (a : Nat) (h : a < 256) : Value.int .u8 ((UInt8.ofNat a).toNat : Nat) = .int .u8 ((a : Nat) : Int) := by
  rw [UInt8.toNat_ofNat', Nat.mod_eq_of_lt (by omega)]
theorem sign_cells (n : Nat) (h : n < 55296 ∨ (57343 < n ∧ n ≤ 1114111)) : Lib.runeCells (n : Int) = (R6.sign8 n).flatMap cByte := by
  unfold Lib.runeCells R6.sign8
  by_cases h1 : n < 128
  · rw [if_pos h1, Lib.encodeRuneZ_one (by omega) (by omega)]
    simp only [List.map_cons, List.map_nil, List.flatMap_cons, List.flatMap_nil, cByte, List.cons_append, List.nil_append]
    rw [byte_cell n (by omega)]
  · rw [if_neg h1]
    by_cases h2 : n < 2048
    · rw [if_pos h2, Lib.encodeRuneZ_two (by omega) (by omega)]
      simp only [List.map_cons, List.map_nil, List.flatMap_cons, List.flatMap_nil, cByte, List.cons_append, List.nil_append]
      rw [byte_cell (192 + n / 64) (by omega), byte_cell (128 + n % 64) (by omega)]
      rfl
    · rw [if_neg h2]
      by_cases h3 : n < 65536
      · rw [if_pos h3, Lib.encodeRuneZ_three (by omega)]
        simp only [List.map_cons, List.map_nil, List.flatMap_cons, List.flatMap_nil, cByte, List.cons_append, List.nil_append]
        rw [byte_cell (224 + n / 4096) (by omega), byte_cell (128 + n / 64 % 64) (by omega), byte_cell (128 + n % 64) (by omega)]
        rfl
      · rw [if_neg h3, Lib.encodeRuneZ_four (by omega) (by omega)]
        simp only [List.map_cons, List.map_nil, List.flatMap_cons, List.flatMap_nil, cByte, List.cons_append, List.nil_append]
        rw [byte_cell (240 + n / 262144) (by omega), byte_cell (128 + n / 4096 % 64) (by omega), byte_cell (128 + n / 64 % 64) (by omega), byte_cell (128 + n % 64) (by omega)]
        rfl
/-- A slice of bytes of the call's own that has grown. -/
def Grown (w : World) (v : Value) (l : Bytes) (v' : Value) (w' : World) : Prop :=
  Owns w' 5 1 cByte v' l ∧ Fr (fun k => v.ownBlock = some k) w w' ∧ ∀ g, v'.ownBlock = some g → v.ownBlock = some g ∨ w.heap.size ≤ g
theorem grown_alloc1 {w w1 : World} {o : Obj} {row : Option Nat} (hg : (w.alloc o).grownBy w1 row) : w.grownBy w1 row :=
  ⟨hg.os, hg.tape, hg.output, by have := hg.size; simp at this; omega, fun k hk hne => (hg.block k (by simp; omega) hne).trans (Below.heap_alloc w o k hk)⟩
theorem Grown.trans {w w1 w2 : World} {v v1 v2 : Value} {l l2 : Bytes} (h : Grown w v l v1 w1) (k : Grown w1 v1 l2 v2 w2) : Grown w v l2 v2 w2 :=
  ⟨k.1, Fr.step h.2.1 (fun b hb => h.2.2 b hb) k.2.1, fun g hg => by
    rcases k.2.2 g hg with e | e
    · exact h.2.2 g e
    · exact .inr (Nat.le_trans h.2.1.size e)⟩
/-- Behind an append of a row of bytes. -/
theorem grown_put {w w1 : World} {v : Value} {l L : Bytes} {gg cap m : Nat} {news : List Value} (hn : news = L.flatMap cByte) (hm : L.length = m)
    (hown1 : w1.ownsRow 0 5 1 (.slice (some ⟨gg, 0, none⟩) (l.length + m) cap) (l.length + m) (l.flatMap cByte ++ news)) (hg : w.grownBy w1 v.ownBlock) (hat : v.ownBlock = some gg ∨ w.heap.size ≤ gg) :
    Grown w v (l ++ L) (.slice (some ⟨gg, 0, none⟩) (l.length + m) cap) w1 := by
  subst hn
  subst hm
  refine ⟨?_, Fr.grown (Fr.refl _ w) hg (fun k e => .inl e), fun g hg => ?_⟩
  · unfold Owns
    rw [List.length_append, List.flatMap_append]
    exact hown1
  · simp only [Value.ownBlock, Option.some.injEq] at hg
    subst hg
    exact hat
theorem Tryd.infoU8 : (Tryd.prog.info? 5).map (fun i => (i.zero, i.size, i.bytes)) = some (some (.int .u8 0), 1, 1) := by kernel_rfl
set_option maxRecDepth 100000 in
set_option maxHeartbeats 4000000 in
theorem rune_two (r : Int) (h0 : 128 ≤ r) (h1 : r ≤ 2047) (v : Value) (l L : Bytes) (hl : l.length ≤ 140737488355000) (w : World) (h : Owns w 5 1 cByte v l) (hL : [.int .u8 (192 + r / 64), .int .u8 (128 + r % 64)] = L.flatMap cByte) (hm : L.length = 2) :
    Calls Tryd.prog 78 #[v, .int .i32 r] w fun e w' => ∃ v', e = .returned v' ∧ Grown w v (l ++ L) v' w' := by
  obtain ⟨va, vc, hv, _⟩ := h.len
  subst hv
  have H := Px.hid (And.intro h (And.intro hL hm))
  clear h hL hm
  obtain ⟨i0, hi0, hz0, hz1, hz2⟩ := info_parts Tryd.infoU8
  go_enter Tryd.func78, Tryd.ntmps78
  go_wp2_with (at_builtin; go_must (refine wpList_append_lies _ rfl _ _ _ rfl 0 5 i0 _ 1 1 Tryd.underlying62 hi0 hz0 hz1 hz2 rfl (by omega) (.slice va l.length vc) l.length (l.flatMap cByte) rfl (Owns.alloc H.out.1 _) ⟨w.heap.size, 0, none⟩ 2 2 [.int .u8 (192 + r / 64), .int .u8 (128 + r % 64)] rfl rfl (World.news_of_block (cs := #[.int .u8 (192 + r / 64), .int .u8 (128 + r % 64)]) (t := 5) (fr := (0, 0)) (heap_alloc_new w _)) (by simp [Value.oneCell']) (by omega) (by unfold maxLen; omega) (by omega) (by omega) (w.heap.size + 1) (by simp) ?_))
  intro gg cap w1 hown1 hgrow hat hlt
  have HW := Px.hid (grown_put H.out.2.1 H.out.2.2 hown1 (grown_alloc1 (w := w) hgrow) (hat.imp id (fun e => by omega)))
  clear hown1 hgrow hat
  go_wp2
  go_ret
  exact ⟨_, rfl, HW.out⟩
set_option maxRecDepth 100000 in
set_option maxHeartbeats 4000000 in
theorem rune_low (r : Int) (h0 : 2048 ≤ r) (h1 : r < 55296) (v : Value) (l L : Bytes) (hl : l.length ≤ 140737488355000) (w : World) (h : Owns w 5 1 cByte v l) (hL : [.int .u8 (224 + r / 4096), .int .u8 (128 + r / 64 % 64), .int .u8 (128 + r % 64)] = L.flatMap cByte) (hm : L.length = 3) :
    Calls Tryd.prog 78 #[v, .int .i32 r] w fun e w' => ∃ v', e = .returned v' ∧ Grown w v (l ++ L) v' w' := by
  obtain ⟨va, vc, hv, _⟩ := h.len
  subst hv
  have H := Px.hid (And.intro h (And.intro hL hm))
  clear h hL hm
  obtain ⟨i0, hi0, hz0, hz1, hz2⟩ := info_parts Tryd.infoU8
  go_enter Tryd.func78, Tryd.ntmps78
  go_wp2_with (at_builtin; go_must (refine wpList_append_lies _ rfl _ _ _ rfl 0 5 i0 _ 1 1 Tryd.underlying62 hi0 hz0 hz1 hz2 rfl (by omega) (.slice va l.length vc) l.length (l.flatMap cByte) rfl (Owns.alloc H.out.1 _) ⟨w.heap.size, 0, none⟩ 3 3 [.int .u8 (224 + r / 4096), .int .u8 (128 + r / 64 % 64), .int .u8 (128 + r % 64)] rfl rfl (World.news_of_block (cs := #[.int .u8 (224 + r / 4096), .int .u8 (128 + r / 64 % 64), .int .u8 (128 + r % 64)]) (t := 5) (fr := (0, 0)) (heap_alloc_new w _)) (by simp [Value.oneCell']) (by omega) (by unfold maxLen; omega) (by omega) (by omega) (w.heap.size + 1) (by simp) ?_))
  intro gg cap w1 hown1 hgrow hat hlt
  have HW := Px.hid (grown_put H.out.2.1 H.out.2.2 hown1 (grown_alloc1 (w := w) hgrow) (hat.imp id (fun e => by omega)))
  clear hown1 hgrow hat
  go_wp2
  go_ret
  exact ⟨_, rfl, HW.out⟩
set_option maxRecDepth 100000 in
set_option maxHeartbeats 4000000 in
theorem rune_high (r : Int) (h0 : 57343 < r) (h1 : r ≤ 65535) (v : Value) (l L : Bytes) (hl : l.length ≤ 140737488355000) (w : World) (h : Owns w 5 1 cByte v l) (hL : [.int .u8 (224 + r / 4096), .int .u8 (128 + r / 64 % 64), .int .u8 (128 + r % 64)] = L.flatMap cByte) (hm : L.length = 3) :
    Calls Tryd.prog 78 #[v, .int .i32 r] w fun e w' => ∃ v', e = .returned v' ∧ Grown w v (l ++ L) v' w' := by
  obtain ⟨va, vc, hv, _⟩ := h.len
  subst hv
  have H := Px.hid (And.intro h (And.intro hL hm))
  clear h hL hm
  obtain ⟨i0, hi0, hz0, hz1, hz2⟩ := info_parts Tryd.infoU8
  go_enter Tryd.func78, Tryd.ntmps78
  go_wp2_with (at_builtin; go_must (refine wpList_append_lies _ rfl _ _ _ rfl 0 5 i0 _ 1 1 Tryd.underlying62 hi0 hz0 hz1 hz2 rfl (by omega) (.slice va l.length vc) l.length (l.flatMap cByte) rfl (Owns.alloc H.out.1 _) ⟨w.heap.size, 0, none⟩ 3 3 [.int .u8 (224 + r / 4096), .int .u8 (128 + r / 64 % 64), .int .u8 (128 + r % 64)] rfl rfl (World.news_of_block (cs := #[.int .u8 (224 + r / 4096), .int .u8 (128 + r / 64 % 64), .int .u8 (128 + r % 64)]) (t := 5) (fr := (0, 0)) (heap_alloc_new w _)) (by simp [Value.oneCell']) (by omega) (by unfold maxLen; omega) (by omega) (by omega) (w.heap.size + 1) (by simp) ?_))
  intro gg cap w1 hown1 hgrow hat hlt
  have HW := Px.hid (grown_put H.out.2.1 H.out.2.2 hown1 (grown_alloc1 (w := w) hgrow) (hat.imp id (fun e => by omega)))
  clear hown1 hgrow hat
  go_wp2
  go_ret
  exact ⟨_, rfl, HW.out⟩
set_option maxRecDepth 100000 in
set_option maxHeartbeats 4000000 in
theorem rune_four (r : Int) (h0 : 65536 ≤ r) (h1 : r ≤ 1114111) (v : Value) (l L : Bytes) (hl : l.length ≤ 140737488355000) (w : World) (h : Owns w 5 1 cByte v l) (hL : [.int .u8 (240 + r / 262144), .int .u8 (128 + r / 4096 % 64), .int .u8 (128 + r / 64 % 64), .int .u8 (128 + r % 64)] = L.flatMap cByte) (hm : L.length = 4) :
    Calls Tryd.prog 78 #[v, .int .i32 r] w fun e w' => ∃ v', e = .returned v' ∧ Grown w v (l ++ L) v' w' := by
  obtain ⟨va, vc, hv, _⟩ := h.len
  subst hv
  have H := Px.hid (And.intro h (And.intro hL hm))
  clear h hL hm
  obtain ⟨i0, hi0, hz0, hz1, hz2⟩ := info_parts Tryd.infoU8
  go_enter Tryd.func78, Tryd.ntmps78
  go_wp2_with (at_builtin; go_must (refine wpList_append_lies _ rfl _ _ _ rfl 0 5 i0 _ 1 1 Tryd.underlying62 hi0 hz0 hz1 hz2 rfl (by omega) (.slice va l.length vc) l.length (l.flatMap cByte) rfl (Owns.alloc H.out.1 _) ⟨w.heap.size, 0, none⟩ 4 4 [.int .u8 (240 + r / 262144), .int .u8 (128 + r / 4096 % 64), .int .u8 (128 + r / 64 % 64), .int .u8 (128 + r % 64)] rfl rfl (World.news_of_block (cs := #[.int .u8 (240 + r / 262144), .int .u8 (128 + r / 4096 % 64), .int .u8 (128 + r / 64 % 64), .int .u8 (128 + r % 64)]) (t := 5) (fr := (0, 0)) (heap_alloc_new w _)) (by simp [Value.oneCell']) (by omega) (by unfold maxLen; omega) (by omega) (by omega) (w.heap.size + 1) (by simp) ?_))
  intro gg cap w1 hown1 hgrow hat hlt
  have HW := Px.hid (grown_put H.out.2.1 H.out.2.2 hown1 (grown_alloc1 (w := w) hgrow) (hat.imp id (fun e => by omega)))
  clear hown1 hgrow hat
  go_wp2
  go_ret
  exact ⟨_, rfl, HW.out⟩
set_option maxRecDepth 100000 in
set_option maxHeartbeats 4000000 in
theorem rune_one (r : Int) (h0 : 0 ≤ r) (h1 : r ≤ 127) (v : Value) (l L : Bytes) (hl : l.length ≤ 140737488355000) (w : World) (h : Owns w 5 1 cByte v l) (hL : [.int .u8 r] = L.flatMap cByte) (hm : L.length = 1) :
    Calls Tryd.prog 73 #[v, .int .i32 r] w fun e w' => ∃ v', e = .returned v' ∧ Grown w v (l ++ L) v' w' := by
  obtain ⟨va, vc, hv, _⟩ := h.len
  subst hv
  have H := Px.hid (And.intro h (And.intro hL hm))
  clear h hL hm
  obtain ⟨i0, hi0, hz0, hz1, hz2⟩ := info_parts Tryd.infoU8
  go_enter Tryd.func73, Tryd.ntmps73
  go_wp2_with (at_builtin; go_must (refine wpList_append_lies _ rfl _ _ _ rfl 0 5 i0 _ 1 1 Tryd.underlying62 hi0 hz0 hz1 hz2 rfl (by omega) (.slice va l.length vc) l.length (l.flatMap cByte) rfl (Owns.alloc H.out.1 _) ⟨w.heap.size, 0, none⟩ 1 1 [.int .u8 r] rfl rfl (World.news_of_block (cs := #[.int .u8 r]) (t := 5) (fr := (0, 0)) (heap_alloc_new w _)) (by simp [Value.oneCell']) (by omega) (by unfold maxLen; omega) (by omega) (by omega) (w.heap.size + 1) (by simp) ?_))
  intro gg cap w1 hown1 hgrow hat hlt
  have HW := Px.hid (grown_put H.out.2.1 H.out.2.2 hown1 (grown_alloc1 (w := w) hgrow) (hat.imp id (fun e => by omega)))
  clear hown1 hgrow hat
  go_wp2
  go_ret
  exact ⟨_, rfl, HW.out⟩
set_option maxRecDepth 100000 in
set_option maxHeartbeats 4000000 in
theorem rune_far (n : Nat) (hn : 128 ≤ n) (hn2 : n ≤ 1114111) (v : Value) (w : World) (Q : Ending → World → Prop) (h : Calls Tryd.prog 78 #[v, .int .i32 (n : Nat)] w Q) (hQ : ∀ e w', Q e w' → ∃ v', e = .returned v') :
    Calls Tryd.prog 73 #[v, .int .i32 (n : Nat)] w Q := by
  have h0 : (128 : Int) ≤ (n : Int) := by omega
  have h1 : (n : Int) ≤ 1114111 := by omega
  have H := Px.hid (And.intro h hQ)
  clear h hQ hn hn2
  go_enter Tryd.func73, Tryd.ntmps73
  go_wp2_with fail
  refine H.out.1.mono ?_
  intro e w' hq
  obtain ⟨v', rfl⟩ := H.out.2 e w' hq
  have HQ := Px.hid hq
  clear hq
  go_wp2
  exact HQ.out
theorem rune_any (v : Value) (l : Bytes) (n : Nat) (hl : l.length ≤ 140737488355000) (h : n < 55296 ∨ (57343 < n ∧ n ≤ 1114111)) (w : World) (hown : Owns w 5 1 cByte v l) :
    Calls Tryd.prog 73 #[v, .int .i32 (n : Nat)] w fun e w' => ∃ v', e = .returned v' ∧ Grown w v (l ++ R6.sign8 n) v' w' := by
  have hc := sign_cells n h
  unfold Lib.runeCells at hc
  have hx : ∀ e w', (∃ v', e = Ending.returned v' ∧ Grown w v (l ++ R6.sign8 n) v' w') → ∃ v', e = .returned v' := fun e w' ⟨v', h, _⟩ => ⟨v', h⟩
  by_cases h1 : n < 128
  · rw [Lib.encodeRuneZ_one (by omega) (by omega)] at hc
    exact rune_one n (by omega) (by omega) v l _ hl w hown hc (by unfold R6.sign8; rw [if_pos h1]; rfl)
  · by_cases h2 : n < 2048
    · rw [Lib.encodeRuneZ_two (by omega) (by omega)] at hc
      exact rune_far n (by omega) (by omega) v w _ (rune_two n (by omega) (by omega) v l _ hl w hown hc (by unfold R6.sign8; rw [if_neg h1, if_pos h2]; rfl)) hx
    · by_cases h3 : n < 65536
      · rw [Lib.encodeRuneZ_three (by omega)] at hc
        have hm : (R6.sign8 n).length = 3 := by unfold R6.sign8; rw [if_neg h1, if_neg h2, if_pos h3]; rfl
        by_cases h4 : n < 55296
        · exact rune_far n (by omega) (by omega) v w _ (rune_low n (by omega) (by omega) v l _ hl w hown hc hm) hx
        · exact rune_far n (by omega) (by omega) v w _ (rune_high n (by omega) (by omega) v l _ hl w hown hc hm) hx
      · rw [Lib.encodeRuneZ_four (by omega) (by omega)] at hc
        exact rune_far n (by omega) (by omega) v w _ (rune_four n (by omega) (by omega) v l _ hl w hown hc (by unfold R6.sign8; rw [if_neg h1, if_neg h2, if_neg h3]; rfl)) hx
end Go.Proofs.YtahojodgmjmpnaaDoor
/-! BasJ -/
namespace Go.Proofs.YtahojodgmjmpnaaDoor
open Go.RowKit Go.Px
def limV (l : Lim) : Value := .agg #[.int .i64 l.d, .int .i64 l.i, .int .i64 l.b, .int .i64 l.r]
/-- Nothing that was there has changed. -/
def Same (w w' : World) : Prop := Fr (fun _ => False) w w'
theorem Same.refl (w : World) : Same w w := Fr.refl _ w
theorem Same.trans {a b c : World} (h : Same a b) (k : Same b c) : Same a c := Fr.trans h k fun _ _ x => x
theorem Same.below {a b : World} (h : Same a b) : Below a.heap.size a b := ⟨h.os, h.tape, h.output, h.size, fun k hk => h.block k hk (fun x => x)⟩
theorem Same.fr {a b : World} (h : Same a b) (F : Nat → Prop) : Fr F a b := Fr.mono h fun _ x => x.elim
theorem Owns.same {α : Type} {w w' : World} {T sz : Nat} {c : α → List Value} {v : Value} {l : List α} (h : Owns w T sz c v l) (hs : Same w w') : Owns w' T sz c v l := h.fr hs (fun _ _ x => x)
theorem derMay_any (l : Lim) (w : World) : Calls Tryd.prog 18 #[limV l] w fun e w' => e = .returned (.bool l.may) ∧ Same w w' := by
  unfold limV
  go_enter Tryd.func18, Tryd.ntmps18
  go_wp2
  all_goals
    go_ret
    exact ⟨by (first | (simp [Lim.may, *]; done) | (simp [Lim.may, *]; omega)), (Fr.refl _ w).alloc _⟩
theorem refMay_any (l : Lim) (w : World) : Calls Tryd.prog 17 #[limV l] w fun e w' => e = .returned (.bool l.may) ∧ Same w w' := by
  unfold limV
  go_enter Tryd.func17, Tryd.ntmps17
  go_wp2
  all_goals
    go_ret
    exact ⟨by (first | (simp [Lim.may, *]; done) | (simp [Lim.may, *]; omega)), (Fr.refl _ w).alloc _⟩
end Go.Proofs.YtahojodgmjmpnaaDoor
/-! StrJ -/
namespace Go.Proofs.YtahojodgmjmpnaaDoor
open Go.RowKit Go.Px
theorem idx_S (l : List UInt8) (k : Nat) (hk : k < l.length) (w : World) : (Instr.index 9 (S l) (.int .i64 (k : Int))).run Tryd.prog w = .ok (.int .u8 (l.getD k 0).toNat) w := by
  rw [run_index_string w 9 _ .i64 _ Tryd.underlying9, dif_pos ⟨by omega, by rw [size_S]; omega⟩]
  congr 3
  simp [List.getD, hk]
  rfl
theorem slice_S (l : List UInt8) (a b : Nat) (hab : a ≤ b) (hb : b ≤ l.length) (w : World) :
    (Instr.slice 9 (S l) (some (.int .i64 (a : Int))) (some (.int .i64 (b : Int))) none).run Tryd.prog w = .ok (S ((l.take b).drop a)) w := by
  rw [run_slice_string w _ _ _ _ _ _ Tryd.underlying9 (by omega) (by omega) (by rw [size_S]; omega), ByteArray.extract_mk]
  have e1 : ((a : Int)).toNat = a := by omega
  have e2 : ((b : Int)).toNat = b := by omega
  rw [e1, e2]
  simp [List.drop_take]
theorem from_S (l : List UInt8) (a : Nat) (ha : a ≤ l.length) (w : World) :
    (Instr.slice 9 (S l) (some (.int .i64 (a : Int))) none none).run Tryd.prog w = .ok (S (l.drop a)) w := by
  rw [run_slice_string_l w _ _ Tryd.underlying9 _ _ (by omega) (by rw [size_S]; omega), ByteArray.extract_mk]
  have e1 : ((a : Int)).toNat = a := by omega
  rw [e1, size_S]
  simp
  exact List.take_of_length_le (by simp)
theorem to_S (l : List UInt8) (b : Nat) (hb : b ≤ l.length) (w : World) :
    (Instr.slice 9 (S l) none (some (.int .i64 (b : Int))) none).run Tryd.prog w = .ok (S (l.take b)) w := by
  rw [run_slice_string_h w _ _ Tryd.underlying9 _ _ (by omega) (by rw [size_S]; omega), ByteArray.extract_mk]
  have e1 : ((b : Int)).toNat = b := by omega
  rw [e1]
  simp
end Go.Proofs.YtahojodgmjmpnaaDoor
/-! WfJ -/
namespace Go.Proofs.YtahojodgmjmpnaaDoor
open Go.RowKit Go.Px
theorem or_digit (k h : Nat) (hk : k ≤ 4095) (hh : h < 16) : bits .or .i32 ((k : Int) * 16) (h : Int) = ((k * 16 + h : Nat) : Int) := by
  have hx : k * 16 ||| h < 2 ^ 16 := Nat.or_lt_two_pow (by omega) (by omega)
  have e1 : ((k : Int) * 16) = ((k * 16 : Nat) : Int) := by omega
  rw [e1]
  show IntKind.i32.wrap ((BitVec.ofInt 32 ((k * 16 : Nat) : Int) ||| BitVec.ofInt 32 (h : Int)).toNat : Int) = _
  have e : ∀ x : Nat, x < 65536 → (BitVec.ofInt 32 (x : Int)).toNat = x := fun x h => by simp; omega
  rw [BitVec.toNat_or, e (k * 16) (by omega) , e h (by omega), IntWalk.i32_in _ ⟨by omega, by omega⟩]
  have := Nat.shiftLeft_add_eq_or_of_lt (show h < 2 ^ 4 by simpa using hh) k
  rw [Nat.shiftLeft_eq] at this
  rw [show k * 16 = k * 2 ^ 4 by omega, ← this]
end Go.Proofs.YtahojodgmjmpnaaDoor
/-! WjJ -/
namespace Go.Proofs.YtahojodgmjmpnaaDoor
open Go.RowKit Go.Px
theorem hex_some (z h : Nat) (hh : R6.hex z = some h) : (48 ≤ z ∧ z ≤ 57 ∧ h = z - 48) ∨ (97 ≤ z ∧ z ≤ 102 ∧ h = z - 87) ∨ (65 ≤ z ∧ z ≤ 70 ∧ h = z - 55) := by
  unfold R6.hex R6.digit at hh
  simp only [Bool.and_eq_true, decide_eq_true_eq] at hh
  by_cases h1 : 48 ≤ z ∧ z ≤ 57
  · rw [if_pos h1] at hh; simp only [Option.some.injEq] at hh; omega
  · rw [if_neg h1] at hh
    by_cases h2 : 97 ≤ z ∧ z ≤ 102
    · rw [if_pos h2] at hh; simp only [Option.some.injEq] at hh; omega
    · rw [if_neg h2] at hh
      by_cases h3 : 65 ≤ z ∧ z ≤ 70
      · rw [if_pos h3] at hh; simp only [Option.some.injEq] at hh; omega
      · rw [if_neg h3] at hh; cases hh
end Go.Proofs.YtahojodgmjmpnaaDoor
/-! WnJ -/
namespace Go.Proofs.YtahojodgmjmpnaaDoor
open Go.RowKit Go.Px
theorem hex_lt {z h : Nat} (hh : R6.hex z = some h) : h < 16 := by
  rcases hex_some z h hh with x | x | x <;> omega
end Go.Proofs.YtahojodgmjmpnaaDoor
/-! YaJ -/
namespace Go.Proofs.YtahojodgmjmpnaaDoor
open Go.RowKit Go.Px
/-! Rows of blocks apart -/
theorem apart_swap {l1 o n l2 : List (Option Nat)} {B : Nat} (h : (l1 ++ (o ++ l2)).Pairwise Apart) (hlt : ∀ k, some k ∈ l1 ∨ some k ∈ l2 → k < B) (hn : n.Pairwise Apart)
    (hf : ∀ k, some k ∈ n → some k ∈ o ∨ B ≤ k) : (l1 ++ (n ++ l2)).Pairwise Apart := by
  rw [List.pairwise_append, List.pairwise_append] at h ⊢
  obtain ⟨h1, ⟨h2, h3, h4⟩, h5⟩ := h
  refine ⟨h1, ⟨hn, h3, ?_⟩, ?_⟩
  · intro x hx y hy k e1 e2
    subst e1
    subst e2
    rcases hf k hx with z | z
    · exact h4 _ z _ hy k rfl rfl
    · have := hlt k (.inr hy); omega
  · intro x hx y hy k e1 e2
    subst e1
    subst e2
    rcases List.mem_append.1 hy with hy | hy
    · rcases hf k hy with z | z
      · exact h5 _ hx _ (List.mem_append_left _ z) k rfl rfl
      · have := hlt k (.inl hx); omega
    · exact h5 _ hx _ (List.mem_append_right _ hy) k rfl rfl
def cVal (a : Val) : List Value := [.int .i64 a.kind, .int .i64 a.kids, S a.text]
theorem cVal_len (a : Val) : (cVal a).length = 3 := rfl
def cStr (l : Bytes) : List Value := [S l]
theorem cStr_len (a : Bytes) : (cStr a).length = 1 := rfl
def foot (b : Nat) (bl : List (Option Nat)) (k : Nat) : Prop := k = b ∨ some k ∈ bl
section
variable {w w' : World} {b : Nat} {f f' : J6.Feed} {vo vs tv vo' vs' tv' : Value} {tb tb' : List (Option Nat)} {ps ps' : List (J6.Fm × Value)} {F : Nat → Prop}
theorem Fresh.foot {bl bl' : List (Option Nat)} (hn : ∀ k, some k ∈ bl' → some k ∈ bl ∨ w.heap.size ≤ k) : Fresh w (foot b bl) (foot b bl') := by
  rintro k (rfl | hk)
  · exact .inl (.inl rfl)
  · exact (hn k hk).imp .inr id
theorem Fr.foot {bl : List (Option Nat)} (hf : Fr F w w') (hF : ∀ k, F k → some k ∈ bl) : Fr (foot b bl) w w' := hf.mono fun k x => .inr (hF k x)
end
theorem flat_set {α : Type} {c : α → List Value} {sz : Nat} (hc : ∀ a, (c a).length = sz) : ∀ (l : List α) (j i : Nat) (a a' : α) (u : Value), l[j]? = some a → i < sz → c a' = (c a).set i u → (l.flatMap c).set (j * sz + i) u = (l.set j a').flatMap c
  | [], j, i, a, a', u, h, _, _ => by simp at h
  | x :: l, 0, i, a, a', u, h, hi, he => by
    simp only [List.getElem?_cons_zero, Option.some.injEq] at h
    subst h
    rw [List.flatMap_cons, List.set_cons_zero, List.flatMap_cons, Nat.zero_mul, Nat.zero_add, List.set_append_left _ _ (by rw [hc]; exact hi), he]
  | x :: l, j + 1, i, a, a', u, h, hi, he => by
    simp only [List.getElem?_cons_succ] at h
    rw [List.flatMap_cons, List.set_cons_succ, List.flatMap_cons, List.set_append_right _ _ (by rw [hc, Nat.add_mul]; omega), hc, ← flat_set hc l j i a a' u h hi he]
    congr 2
    rw [Nat.add_mul]
    omega
/-- A cell of some element is written. -/
theorem owns_setAt {α : Type} {w : World} {T sz : Nat} {c : α → List Value} {l : List α} {a a' : α} {g cap j n : Nat} (hc : ∀ a, (c a).length = sz) (h : Owns w T sz c (.slice (some ⟨g, 0, none⟩) n cap) l) (hj : l[j]? = some a) (i : Nat) (hi : i < sz) (u : Value) (he : c a' = (c a).set i u) :
    Owns (w.setCell ⟨g, j * sz + i, none⟩ u) T sz c (.slice (some ⟨g, 0, none⟩) n cap) (l.set j a') := by
  obtain ⟨_, _, hv, _⟩ := h.len
  simp only [Value.slice.injEq] at hv
  have hn : n = l.length := hv.2.1
  subst hn
  have hs := (World.ownsRow.stored (show w.ownsRow 0 T sz (.slice (some ⟨g, 0, none⟩) l.length cap) l.length (l.flatMap c) from h) (j * sz + i) u).1
  unfold Owns
  rw [List.length_set, ← flat_set hc l j i a a' u hj hi he]
  exact hs
theorem modify_set {α : Type} (l : List α) (j : Nat) (a : α) (g : α → α) (h : l[j]? = some a) : l.modify j g = l.set j (g a) := by
  have hl : j < l.length := (List.getElem?_eq_some_iff.1 h).1
  apply List.ext_getElem?
  intro i
  rw [List.getElem?_modify, List.getElem?_set]
  by_cases e : j = i
  · subst e
    rw [if_pos rfl, h, if_pos hl]
    simp
  · rw [if_neg e]
    simp [e]
section
variable {w w' : World} {b : Nat} {f : J6.Feed} {vo vs tv : Value} {tb : List (Option Nat)} {ps : List (J6.Fm × Value)}
end
end Go.Proofs.YtahojodgmjmpnaaDoor
/-! YcJ -/
namespace Go.Proofs.YtahojodgmjmpnaaDoor
open Go.RowKit Go.Px
def valV (v : Val) : Value := .agg #[.int .i64 v.kind, .int .i64 v.kids, S v.text]
theorem Tryd.infoVal : (Tryd.prog.info? 58).map (fun i => (i.zero, i.size, i.bytes)) = some (some (.agg #[.int .i64 0, .int .i64 0, .string ByteArray.empty]), 3, 32) := by kernel_rfl
end Go.Proofs.YtahojodgmjmpnaaDoor
/-! JgM -/
namespace Go.Px.J6
open Go.Proofs.YtahojodgmjmpnaaDoor
open R6 (digit blank numNext numEnd bump setText)
theorem sign8_len (n : Nat) : (R6.sign8 n).length ≤ 4 := by
  unfold R6.sign8
  split
  · simp
  · split
    · simp
    · split <;> simp
variable {f : Feed}
end Go.Px.J6
/-! YlJ -/
namespace Go.Proofs.YtahojodgmjmpnaaDoor
open Go.RowKit Go.Px
/-- A []byte of the call's own as a string. -/
theorem Owns.str {P : Program} {w : World} {e : TypeId} {v : Value} {l : List UInt8} (h : Owns w e 1 cByte v l) {t dst : TypeId} (ht : P.underlying t = some (.slice e)) (he : P.underlying e = some (.int .u8)) (hd : P.underlying dst = some .string) :
    (convert t dst v).run P w = .ok (S l) w := by
  rcases h.2 with ⟨rfl, h0⟩ | ⟨g, cap, cur, rfl, _, hg, hc1, hc2, _⟩
  · rw [run_convert_bytes_nil _ t e ht he 0 0 dst hd, List.length_eq_zero_iff.1 h0]
    rfl
  · have hcell : ∀ j, (hj : j < l.length) → w.cell? ⟨g, j, none⟩ = some (.int .u8 (l[j].toNat)) := by
      intro j hj
      obtain ⟨g', cap', hv, _, _, hc, _⟩ := Owns.at h cByte_len (j := j) (a := l[j]) (by simp [hj])
      simp only [Value.slice.injEq, Option.some.injEq, Addr.mk.injEq, and_true, true_and] at hv
      obtain ⟨rfl, rfl⟩ := hv
      have := hc 0 _ rfl
      simpa using this
    rw [run_convert_bytes_arg w t e ht he g 0 l.length cap (l.map fun c => ((c.toNat : Nat) : Int)) (by simp) ?_ dst hd, strOf_bytes]
    intro i hi
    rw [Nat.zero_add, hcell i hi]
    simp [List.getD, hi]
/-- A place's number tells whether a string is there. -/
def IdxIs (i : Int) (l : List Bytes) (t : Bytes) : Prop := decide (0 ≤ i) = l.contains t
set_option maxRecDepth 100000 in
set_option maxHeartbeats 4000000 in
theorem index_any (v : Value) (l : List Bytes) (t : Bytes) (hl : l.length ≤ 1000000) (w : World) (h : Owns w 9 1 cStr v l) :
    Calls Tryd.prog 59 #[v, S t] w fun e w' => ∃ i : Int, e = .returned (.int .i64 i) ∧ IdxIs i l t ∧ w = w' := by
  obtain ⟨a, cap, hv, _⟩ := h.len
  subst hv
  have H := Px.hid h
  clear h
  go_enter Tryd.func59, Tryd.ntmps59
  go_wp2
  go_loopw [8] (fun i wr => ∃ k, k ≤ l.length ∧ i = .int .i64 (k : Nat) ∧ w = wr ∧ ∀ j, j < k → l[j]? ≠ some t) (fun i _ => l.length - (intOf i).toNat)
  case atStart => exact ⟨0, Nat.zero_le _, rfl, rfl, fun j hj => by omega⟩
  case round =>
    obtain ⟨k, hk, rfl, rfl, hno⟩ := hrel
    by_cases hlt : k < l.length
    · have hltz : (k : Int) < (l.length : Int) := by omega
      obtain ⟨x, hx⟩ : ∃ x, l[k]? = some x := ⟨_, List.getElem?_eq_getElem hlt⟩
      obtain ⟨g, cap', hv', _, _, hc, _⟩ := Owns.at H.out cStr_len hx
      simp only [Value.slice.injEq] at hv'
      have ha := hv'.1
      subst ha
      have ck : w.cell? ⟨g, k, none⟩ = some (S x) := by have := hc 0 (S x) rfl; simpa using this
      have HX := Px.hid (And.intro hx hno)
      have HLT := Px.hid hlt
      clear hv' hc hx hno hlt
      obtain ⟨q, hq⟩ : ∃ q, (t == x) = q := ⟨_, rfl⟩
      have HQ := Px.hid hq
      cases q with
      | true =>
        go_wp2
        go_ret
        refine ⟨_, rfl, ?_, rfl⟩
        have ht : t = x := by simpa using HQ.out
        have : t ∈ l := by rw [ht]; exact List.mem_of_getElem? HX.out.1
        unfold IdxIs
        simp [this]
      | false =>
        go_wp2
        go_roundw
        case rel =>
          refine ⟨k + 1, HLT.out, by go_num, trivial, fun j hj => ?_⟩
          by_cases e : j = k
          · subst e
            rw [HX.out.1]
            have ht : ¬ t = x := by simpa using HQ.out
            exact fun h => ht (by simpa using h.symm)
          · exact HX.out.2 j (by omega)
        case measure => have := HLT.out; simp [intOf]; omega
    · have hlt' : ¬ (k : Int) < (l.length : Int) := by omega
      have HNO := Px.hid (show l.contains t = false by
        have hk : k = l.length := by omega
        subst hk
        simp only [List.contains_eq_mem, decide_eq_false_iff_not]
        intro hm
        obtain ⟨j, hj⟩ := List.mem_iff_getElem?.1 hm
        have := (List.getElem?_eq_some_iff.1 hj).1
        exact hno j this hj)
      clear hno
      go_wp2
      go_ret
      exact ⟨-1, rfl, by unfold IdxIs; rw [HNO.out]; rfl, rfl⟩
theorem contains_any (v : Value) (l : List Bytes) (t : Bytes) (hl : l.length ≤ 1000000) (w : World) (h : Owns w 9 1 cStr v l) :
    Calls Tryd.prog 40 #[v, S t] w fun e w' => e = .returned (.bool (l.contains t)) ∧ w = w' := by
  have H := Px.hid (index_any v l t hl w h)
  clear h
  go_enter Tryd.func40, Tryd.ntmps40
  go_wp2_with fail
  refine H.out.mono ?_
  rintro e w' ⟨i, rfl, hi, rfl⟩
  have HI := Px.hid hi
  clear hi
  go_wp2
  go_ret
  have h2 := HI.out
  unfold IdxIs at h2
  rw [← h2]
  exact ⟨rfl, rfl⟩
section
variable {w w' : World} {b : Nat} {f : J6.Feed} {vo vs tv : Value} {tb : List (Option Nat)} {ps : List (J6.Fm × Value)}
end
end Go.Proofs.YtahojodgmjmpnaaDoor
/-! YmJ -/
namespace Go.Proofs.YtahojodgmjmpnaaDoor
open Go.RowKit Go.Px
theorem Tryd.infoStr : (Tryd.prog.info? 9).map (fun i => (i.zero, i.size, i.bytes)) = some (some (.string ByteArray.empty), 1, 16) := by kernel_rfl
end Go.Proofs.YtahojodgmjmpnaaDoor
/-! YqJ -/
namespace Go.Proofs.YtahojodgmjmpnaaDoor
open Go.RowKit Go.Px
theorem Fr.toSame {F : Nat → Prop} {w w' : World} (h : Fr F w w') (hF : ∀ k, F k → w.heap.size ≤ k) : Same w w' :=
  ⟨h.os, h.tape, h.output, h.size, fun b hb _ => h.block b hb (fun x => by have := hF b x; omega)⟩
/-- The greatest limits. -/
def most : Lim := ⟨32, 4096, 262144, 4096⟩
def limObj (l : Lim) : Obj := .cells #[.int .i64 l.d, .int .i64 l.i, .int .i64 l.b, .int .i64 l.r] 23 (0, 0)
def LimIn (w0 w : World) (b : Nat) (l : Lim) : Prop := Same w0 w ∧ w.heap[b]? = some (limObj l)
theorem LimIn.same {w0 w w' : World} {b : Nat} {l : Lim} (h : LimIn w0 w b l) (hs : Same w w') : LimIn w0 w' b l := ⟨h.1.trans hs, (hs.block b (ltOf h.2) (fun x => x)).trans h.2⟩
theorem LimIn.cells {w0 w : World} {b : Nat} {l : Lim} (h : LimIn w0 w b l) : w.cell? ⟨b, 0, none⟩ = some (.int .i64 l.d) ∧ w.cell? ⟨b, 1, none⟩ = some (.int .i64 l.i) ∧ w.cell? ⟨b, 2, none⟩ = some (.int .i64 l.b) ∧ w.cell? ⟨b, 3, none⟩ = some (.int .i64 l.r) :=
  ⟨cellOf h.2 0 rfl, cellOf h.2 1 rfl, cellOf h.2 2 rfl, cellOf h.2 3 rfl⟩
end Go.Proofs.YtahojodgmjmpnaaDoor
