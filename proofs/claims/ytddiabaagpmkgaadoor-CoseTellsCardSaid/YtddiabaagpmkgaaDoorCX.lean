/-
 Several texts in one: The walk over the program's cbor.head. The walks over the program's cbor.right and cbor.holds. The walk over the program's cbor.shape. The walk over the program's cbor.Encode. A decoding of layer 17 as it lies.
-/
import Derived.Test.YtddiabaagpmkgaaDoorAp
import Derived.Test.YtddiabaagpmkgaaDoorXA
import Derived.Test.YtddiabaagpmkgaaDoorCE
import Derived.Test.YtddiabaagpmkgaaDoorXC
import Derived.Deep.LoopGhost
import Derived.Test.YtddiabaagpmkgaaDoorCY
import Derived.Deep.RegionLaw
import Derived.Deep.DeepCutAuto
/-! The walk over the program's cbor.head. -/
namespace Go.Proofs.YtddiabaagpmkgaaDoor
open Go.RowKit Go.Px Go.Px.R7

theorem u8_or_nat (a b : Nat) (ha : a < 256) (hb : b < 256) : bits .or .u8 (a : Int) (b : Int) = ((a ||| b : Nat) : Int) := by
 have hx : a ||| b < 2 ^ 8 := Nat.or_lt_two_pow (by omega) (by omega)
 show IntKind.u8.wrap ((BitVec.ofInt 8 (a : Int) ||| BitVec.ofInt 8 (b : Int)).toNat : Int) = _
 have e : ∀ x : Nat, x < 256 → (BitVec.ofInt 8 (x : Int)).toNat = x := fun x h => by simp; omega
 rw [BitVec.toNat_or, e a ha, e b hb, IntKind.wrap_u8]
 omega
theorem or_head (k b : Nat) (hk : k < 8) (hb : b < 32) : bits .or .u8 ((k : Int) * 32) (b : Int) = 32 * (k : Int) + (b : Int) := by
 have e : ((k : Int) * 32) = ((32 * k : Nat) : Int) := by omega
 rw [e, u8_or_nat (32 * k) b (by omega) (by omega)]
 have := Nat.shiftLeft_add_eq_or_of_lt (show b < 2 ^ 5 by simpa using hb) k
 rw [Nat.shiftLeft_eq] at this
 rw [show 32 * k = k * 2 ^ 5 by omega, ← this]
 omega

/-- A slice of bytes of the call's own that has grown. -/
def Grown (w : World) (v : Value) (l : Bytes) (v' : Value) (w' : World) : Prop :=
 Owns w' 5 1 cByte v' l ∧ Fr (fun k => v.ownBlock = some k) w w' ∧ ∀ g, v'.ownBlock = some g → v.ownBlock = some g ∨ w.heap.size ≤ g
theorem grown_mk {w w1 : World} {va : Option Addr} {l : Bytes} {vc gg cap : Nat} {c : UInt8}
  (hown1 : w1.ownsRow 0 5 1 (.slice (some ⟨gg, 0, none⟩) (l.length + 1) cap) (l.length + 1) (l.flatMap cByte ++ cByte c)) (hg : w.grownBy w1 (Value.slice va l.length vc).ownBlock) (hat : (Value.slice va l.length vc).ownBlock = some gg ∨ w.heap.size ≤ gg) :
  Grown w (.slice va l.length vc) (l ++ [c]) (.slice (some ⟨gg, 0, none⟩) (l.length + 1) cap) w1 := by
 refine ⟨owns_append hown1, Fr.grown (Fr.refl _ w) hg (fun k e => .inl e), fun g hg => ?_⟩
 simp only [Value.ownBlock, Option.some.injEq] at hg
 subst hg
 exact hat
theorem Grown.trans {w w1 w2 : World} {v v1 v2 : Value} {l l2 : Bytes} (h : Grown w v l v1 w1) (k : Grown w1 v1 l2 v2 w2) : Grown w v l2 v2 w2 :=
 ⟨k.1, Fr.step h.2.1 (fun b hb => h.2.2 b hb) k.2.1, fun g hg => by
  rcases k.2.2 g hg with e | e
  ·exact h.2.2 g e
  ·exact .inr (Nat.le_trans h.2.1.size e)⟩
set_option maxRecDepth 100000 in
set_option maxHeartbeats 2000000 in
theorem phead_small (k n : Nat) (hk : k < 8) (hn : n < 24) (v : Value) (l : Bytes) (hl : l.length ≤ 1000000) (w : World) (h : Owns w 5 1 cByte v l) :
  Calls Tryd.prog 48 #[v, .int .i64 (k : Nat), .int .u64 (n : Nat)] w fun e w' => ∃ v', e = .returned v' ∧ Grown w v (l ++ headB k n) v' w' := by
 have hor := or_head k n hk (by omega)
 have hz : (n : Int) < 24 := by omega
 have hb : headB k n = [UInt8.ofNat (32 * k + n)] := by unfold headB; rw [if_pos hn]
 have hc : [Value.int .u8 (32 * (k : Int) + n)] = cByte (UInt8.ofNat (32 * k + n)) := by
  unfold cByte
  rw [UInt8.toNat_ofNat', Nat.mod_eq_of_lt (by omega)]
  congr 2
 obtain ⟨va, vc, hv, _⟩ := h.len
 subst hv
 have H := Px.hid (And.intro h (And.intro hb hc))
 clear h hb hc
 obtain ⟨i0, hi0, hz0, hz1, hz2⟩ := info_parts Tryd.infoU8
 go_enter Tryd.func48, Tryd.ntmps48
 go_wp2_with (at_builtin; go_must (refine wpList_append_lies _ rfl _ _ _ rfl 0 5 i0 _ 1 1 Tryd.underlying75 hi0 hz0 hz1 hz2 rfl (by omega) (.slice va l.length vc) l.length (l.flatMap cByte) rfl (Owns.alloc H.out.1 _) ⟨w.heap.size, 0, none⟩ 1 1 [.int .u8 (32 * (k : Int) + n)] rfl rfl (World.news_of_block (cs := #[.int .u8 (32 * (k : Int) + n)]) (t := 5) (fr := (0, 0)) (heap_alloc_new w _)) (by simp [Value.oneCell']) (by omega) (by unfold maxLen; omega) (by omega) (by omega) (w.heap.size + 1) (by simp) ?_))
 intro gg cap w1 hown1 hgrow hat hlt
 rw [H.out.2.2] at hown1
 have HW := Px.hid (grown_mk hown1 (grown_alloc1 (w := w) hgrow) (hat.imp id (fun e => by omega)))
 clear hown1 hgrow hat
 go_wp2
 go_ret
 rw [H.out.2.1]
 exact ⟨_, rfl, HW.out⟩

set_option maxRecDepth 100000 in
set_option maxHeartbeats 4000000 in
theorem phead_0 (k n : Nat) (hk : k < 8) (h24 : ¬ n < 24) (hr : n < 256) (v : Value) (l : Bytes) (hl : l.length ≤ 1000000) (w : World) (h : Owns w 5 1 cByte v l) :
  Calls Tryd.prog 48 #[v, .int .i64 (k : Nat), .int .u64 (n : Nat)] w fun e w' => ∃ v', e = .returned v' ∧ Grown w v (l ++ headB k n) v' w' := by
 have hi : infoOf n = 0 := by unfold infoOf; (repeat' split) <;> omega
 have hz : ¬ (n : Int) < 24 := by omega
 have f0 : ((n : Int) / 256 != 0) = false := by rw [Bool.eq_iff_iff]; simp only [bne_iff_ne, ne_eq, Bool.false_eq_true, iff_false]; omega
 have hor : bits .or .u8 ((k : Int) * 32) 24 = 32 * (k : Int) + 24 := or_head k 24 hk (by omega)
 obtain ⟨va, vc, hv, _⟩ := h.len
 subst hv
 have hb : headB k n = [UInt8.ofNat (32 * k + 24)] ++ beBytes n 1 := by rw [headB_far k n h24, hi]; rfl
 have hc : [Value.int .u8 (32 * (k : Int) + 24)] = cByte (UInt8.ofNat (32 * k + 24)) := by
  unfold cByte
  rw [UInt8.toNat_ofNat', Nat.mod_eq_of_lt (by omega)]
  congr 2
 have H := Px.hid (And.intro h (And.intro hb hc))
 clear h hi hb hc h24
 go_enter Tryd.func48, Tryd.ntmps48
 go_wp2
 go_loop [8] (fun wv => ∃ j : Nat, j ≤ 0 ∧ wv = .int .i64 (j : Nat)) (fun wv => 4 - (intOf wv).toNat)
 case atStart => exact ⟨0, by omega, rfl⟩
 case round =>
  obtain ⟨j, hj, rfl⟩ := hrel
  obtain rfl : j = 0 := by omega
  ·obtain ⟨i0, hi0, hz0, hz1, hz2⟩ := info_parts Tryd.infoU8
   go_wp2_with (at_builtin; go_must (refine wpList_append_lies _ rfl _ _ _ rfl 0 5 i0 _ 1 1 Tryd.underlying75 hi0 hz0 hz1 hz2 rfl (by omega) (.slice va l.length vc) l.length (l.flatMap cByte) rfl (Owns.alloc H.out.1 _) ⟨w.heap.size, 0, none⟩ 1 1 [.int .u8 (32 * (k : Int) + 24)] rfl rfl (World.news_of_block (cs := #[.int .u8 (32 * (k : Int) + 24)]) (t := 5) (fr := (0, 0)) (heap_alloc_new w _)) (by simp [Value.oneCell']) (by omega) (by unfold maxLen; omega) (by omega) (by omega) (w.heap.size + 1) (by simp) ?_))
   intro gg cap w1 hown1 hgrow hat hlt
   rw [H.out.2.2] at hown1
   have HW := Px.hid (show Grown w (.slice va l.length vc) (l ++ [UInt8.ofNat (32 * k + 24)]) (.slice (some ⟨gg, 0, none⟩) (l.length + 1) cap) w1 from grown_mk hown1 (grown_alloc1 (w := w) hgrow) (hat.imp id (fun e => by omega)))
   have HB := Px.hid (show headB k n = [UInt8.ofNat (32 * k + 24)] ++ beBytes n 1 from H.out.2.1)
   clear hown1 hgrow hat hor f0
   go_wp2
   go_loopw [0, 9] (fun v i wr => ∃ (m : Nat) (L : Bytes), m ≤ 1 ∧ i = .int .i64 ((m : Int) - 1) ∧ L.length ≤ 1000010 - m ∧ Hid (Grown w (.slice va l.length vc) L v wr ∧ L ++ beBytes n m = l ++ headB k n)) (fun _ i _ => (intOf i + 1).toNat)
   case atStart => exact ⟨1, l ++ [UInt8.ofNat (32 * k + 24)], by omega, by go_num, by simp; omega, Px.hid ⟨HW.out, by rw [HB.out, List.append_assoc]⟩⟩
   case round =>
    clear HW HB
    obtain ⟨m, L, hm1, rfl, hll, HO⟩ := hrel
    obtain ⟨xa, xc, hvl, _⟩ := HO.out.1.1.len
    subst hvl
    by_cases hm0 : 1 ≤ m
    ·have z1 : (0 : Int) ≤ (m : Int) - 1 := by omega
     have z2 : (1 : Int) ≤ (m : Int) := by omega
     obtain ⟨q, hq⟩ : ∃ q, q = m - 1 := ⟨_, rfl⟩
     have hsh : (n : Int) / 2 ^ (8 * (m - 1)) % 256 = ((n / 256 ^ q % 256 : Nat) : Int) := by
      have e : 8 * (m - 1) = 8 * q := by omega
      rw [e, show (256 : Nat) = 2 ^ 8 by rfl, ← Nat.pow_mul]
      push_cast
      rfl
     have hqb : beBytes n m = UInt8.ofNat (n / 256 ^ q) :: beBytes n q := by rw [show m = q + 1 by omega]; rfl
     have hqv : (UInt8.ofNat (n / 256 ^ q)).toNat = n / 256 ^ q % 256 := by simp
     have hq1 : ((m : Int) - 1) = (q : Int) := by omega
     obtain ⟨c, hc⟩ : ∃ c, c = UInt8.ofNat (n / 256 ^ q) := ⟨_, rfl⟩
     rw [← hc] at hqb hqv
     rw [← hqv] at hsh
     have HN1 := Px.hid (show [Value.int .u8 (n : Int)] = cByte c by rw [hc, show q = 0 by omega]; exact one_byte n (by omega))
     have HQ := Px.hid (And.intro hqb (And.intro hq hq1))
     clear hqb hqv hc hq hq1
     go_wp2_with (at_builtin; go_must (refine wpList_append_lies _ rfl _ _ _ rfl 0 5 i0 _ 1 1 Tryd.underlying75 hi0 hz0 hz1 hz2 rfl (by omega) (.slice xa L.length xc) L.length (L.flatMap cByte) rfl (Owns.alloc HO.out.1.1 _) ⟨wr.heap.size, 0, none⟩ 1 1 [.int .u8 (n : Int)] rfl rfl (World.news_of_block (cs := #[.int .u8 (n : Int)]) (t := 5) (fr := (0, 0)) (heap_alloc_new wr _)) (by simp [Value.oneCell']) (by omega) (by unfold maxLen; omega) (by omega) (by omega) (wr.heap.size + 1) (by simp) ?_))
     intro g2 cap2 w2 hown2 hgrow2 hat2 hlt2
     rw [HN1.out] at hown2
     have HV := Px.hid (show Grown wr (.slice xa L.length xc) (L ++ [c]) (.slice (some ⟨g2, 0, none⟩) (L.length + 1) cap2) w2 from grown_mk hown2 (grown_alloc1 (w := wr) hgrow2) (hat2.imp id (fun e => by omega)))
     clear hown2 hgrow2 hat2
     go_wp2
     go_roundw
     case rel =>
      refine ⟨q, L ++ [c], by have := HQ.out.2.1; omega, ?_, by have := HQ.out.2.1; simp; omega, Px.hid ⟨HO.out.1.trans HV.out, ?_⟩⟩
      ·have := HQ.out.2.2; go_num
      ·rw [List.append_assoc, ← HO.out.2, HQ.out.1]; rfl
     case measure => simp [intOf]; omega
    ·have z1 : ¬ (0 : Int) ≤ (m : Int) - 1 := by omega
     have z2 : ¬ (1 : Int) ≤ (m : Int) := by omega
     have HE := Px.hid (show L = l ++ headB k n by have := HO.out.2; rw [show m = 0 by omega] at this; simpa [beBytes] using this)
     go_wp2
     go_ret
     rw [← HE.out]
     exact ⟨_, rfl, HO.out.1⟩

set_option maxRecDepth 100000 in
set_option maxHeartbeats 4000000 in
theorem phead_1 (k n : Nat) (hk : k < 8) (h24 : ¬ n < 24) (hr : 256 ≤ n ∧ n < 65536) (v : Value) (l : Bytes) (hl : l.length ≤ 1000000) (w : World) (h : Owns w 5 1 cByte v l) :
  Calls Tryd.prog 48 #[v, .int .i64 (k : Nat), .int .u64 (n : Nat)] w fun e w' => ∃ v', e = .returned v' ∧ Grown w v (l ++ headB k n) v' w' := by
 have hi : infoOf n = 1 := by unfold infoOf; (repeat' split) <;> omega
 have hz : ¬ (n : Int) < 24 := by omega
 have f0 : ((n : Int) / 256 != 0) = true := by rw [Bool.eq_iff_iff]; simp only [bne_iff_ne, ne_eq, iff_true]; omega
 have f1 : ((n : Int) / 65536 != 0) = false := by rw [Bool.eq_iff_iff]; simp only [bne_iff_ne, ne_eq, Bool.false_eq_true, iff_false]; omega
 have hor : bits .or .u8 ((k : Int) * 32) 25 = 32 * (k : Int) + 25 := or_head k 25 hk (by omega)
 obtain ⟨va, vc, hv, _⟩ := h.len
 subst hv
 have hb : headB k n = [UInt8.ofNat (32 * k + 25)] ++ beBytes n 2 := by rw [headB_far k n h24, hi]; rfl
 have hc : [Value.int .u8 (32 * (k : Int) + 25)] = cByte (UInt8.ofNat (32 * k + 25)) := by
  unfold cByte
  rw [UInt8.toNat_ofNat', Nat.mod_eq_of_lt (by omega)]
  congr 2
 have H := Px.hid (And.intro h (And.intro hb hc))
 clear h hi hb hc h24
 go_enter Tryd.func48, Tryd.ntmps48
 go_wp2
 go_loop [8] (fun wv => ∃ j : Nat, j ≤ 1 ∧ wv = .int .i64 (j : Nat)) (fun wv => 4 - (intOf wv).toNat)
 case atStart => exact ⟨0, by omega, rfl⟩
 case round =>
  obtain ⟨j, hj, rfl⟩ := hrel
  have h4 : j = 0 ∨ j = 1 := by omega
  rcases h4 with rfl | rfl
  ·go_wp2_with fail
   go_round
   case rel => exact ⟨1, by omega, rfl⟩
   case measure => simp [intOf]
  ·obtain ⟨i0, hi0, hz0, hz1, hz2⟩ := info_parts Tryd.infoU8
   go_wp2_with (at_builtin; go_must (refine wpList_append_lies _ rfl _ _ _ rfl 0 5 i0 _ 1 1 Tryd.underlying75 hi0 hz0 hz1 hz2 rfl (by omega) (.slice va l.length vc) l.length (l.flatMap cByte) rfl (Owns.alloc H.out.1 _) ⟨w.heap.size, 0, none⟩ 1 1 [.int .u8 (32 * (k : Int) + 25)] rfl rfl (World.news_of_block (cs := #[.int .u8 (32 * (k : Int) + 25)]) (t := 5) (fr := (0, 0)) (heap_alloc_new w _)) (by simp [Value.oneCell']) (by omega) (by unfold maxLen; omega) (by omega) (by omega) (w.heap.size + 1) (by simp) ?_))
   intro gg cap w1 hown1 hgrow hat hlt
   rw [H.out.2.2] at hown1
   have HW := Px.hid (show Grown w (.slice va l.length vc) (l ++ [UInt8.ofNat (32 * k + 25)]) (.slice (some ⟨gg, 0, none⟩) (l.length + 1) cap) w1 from grown_mk hown1 (grown_alloc1 (w := w) hgrow) (hat.imp id (fun e => by omega)))
   have HB := Px.hid (show headB k n = [UInt8.ofNat (32 * k + 25)] ++ beBytes n 2 from H.out.2.1)
   clear hown1 hgrow hat hor f0 f1
   go_wp2
   go_loopw [0, 9] (fun v i wr => ∃ (m : Nat) (L : Bytes), m ≤ 2 ∧ i = .int .i64 ((m : Int) - 1) ∧ L.length ≤ 1000010 - m ∧ Hid (Grown w (.slice va l.length vc) L v wr ∧ L ++ beBytes n m = l ++ headB k n)) (fun _ i _ => (intOf i + 1).toNat)
   case atStart => exact ⟨2, l ++ [UInt8.ofNat (32 * k + 25)], by omega, by go_num, by simp; omega, Px.hid ⟨HW.out, by rw [HB.out, List.append_assoc]⟩⟩
   case round =>
    clear HW HB
    obtain ⟨m, L, hm1, rfl, hll, HO⟩ := hrel
    obtain ⟨xa, xc, hvl, _⟩ := HO.out.1.1.len
    subst hvl
    by_cases hm0 : 1 ≤ m
    ·have z1 : (0 : Int) ≤ (m : Int) - 1 := by omega
     have z2 : (1 : Int) ≤ (m : Int) := by omega
     obtain ⟨q, hq⟩ : ∃ q, q = m - 1 := ⟨_, rfl⟩
     have hsh : (n : Int) / 2 ^ (8 * (m - 1)) % 256 = ((n / 256 ^ q % 256 : Nat) : Int) := by
      have e : 8 * (m - 1) = 8 * q := by omega
      rw [e, show (256 : Nat) = 2 ^ 8 by rfl, ← Nat.pow_mul]
      push_cast
      rfl
     have hqb : beBytes n m = UInt8.ofNat (n / 256 ^ q) :: beBytes n q := by rw [show m = q + 1 by omega]; rfl
     have hqv : (UInt8.ofNat (n / 256 ^ q)).toNat = n / 256 ^ q % 256 := by simp
     have hq1 : ((m : Int) - 1) = (q : Int) := by omega
     obtain ⟨c, hc⟩ : ∃ c, c = UInt8.ofNat (n / 256 ^ q) := ⟨_, rfl⟩
     rw [← hc] at hqb hqv
     rw [← hqv] at hsh
     skip
     have HQ := Px.hid (And.intro hqb (And.intro hq hq1))
     clear hqb hqv hc hq hq1
     go_wp2_with (at_builtin; go_must (refine wpList_append_lies _ rfl _ _ _ rfl 0 5 i0 _ 1 1 Tryd.underlying75 hi0 hz0 hz1 hz2 rfl (by omega) (.slice xa L.length xc) L.length (L.flatMap cByte) rfl (Owns.alloc HO.out.1.1 _) ⟨wr.heap.size, 0, none⟩ 1 1 [.int .u8 c.toNat] rfl rfl (World.news_of_block (cs := #[.int .u8 c.toNat]) (t := 5) (fr := (0, 0)) (heap_alloc_new wr _)) (by simp [Value.oneCell']) (by omega) (by unfold maxLen; omega) (by omega) (by omega) (wr.heap.size + 1) (by simp) ?_))
     intro g2 cap2 w2 hown2 hgrow2 hat2 hlt2
     skip
     have HV := Px.hid (show Grown wr (.slice xa L.length xc) (L ++ [c]) (.slice (some ⟨g2, 0, none⟩) (L.length + 1) cap2) w2 from grown_mk hown2 (grown_alloc1 (w := wr) hgrow2) (hat2.imp id (fun e => by omega)))
     clear hown2 hgrow2 hat2
     go_wp2
     go_roundw
     case rel =>
      refine ⟨q, L ++ [c], by have := HQ.out.2.1; omega, ?_, by have := HQ.out.2.1; simp; omega, Px.hid ⟨HO.out.1.trans HV.out, ?_⟩⟩
      ·have := HQ.out.2.2; go_num
      ·rw [List.append_assoc, ← HO.out.2, HQ.out.1]; rfl
     case measure => simp [intOf]; omega
    ·have z1 : ¬ (0 : Int) ≤ (m : Int) - 1 := by omega
     have z2 : ¬ (1 : Int) ≤ (m : Int) := by omega
     have HE := Px.hid (show L = l ++ headB k n by have := HO.out.2; rw [show m = 0 by omega] at this; simpa [beBytes] using this)
     go_wp2
     go_ret
     rw [← HE.out]
     exact ⟨_, rfl, HO.out.1⟩

set_option maxRecDepth 100000 in
set_option maxHeartbeats 4000000 in
theorem phead_2 (k n : Nat) (hk : k < 8) (h24 : ¬ n < 24) (hr : 65536 ≤ n ∧ n < 4294967296) (v : Value) (l : Bytes) (hl : l.length ≤ 1000000) (w : World) (h : Owns w 5 1 cByte v l) :
  Calls Tryd.prog 48 #[v, .int .i64 (k : Nat), .int .u64 (n : Nat)] w fun e w' => ∃ v', e = .returned v' ∧ Grown w v (l ++ headB k n) v' w' := by
 have hi : infoOf n = 2 := by unfold infoOf; (repeat' split) <;> omega
 have hz : ¬ (n : Int) < 24 := by omega
 have f0 : ((n : Int) / 256 != 0) = true := by rw [Bool.eq_iff_iff]; simp only [bne_iff_ne, ne_eq, iff_true]; omega
 have f1 : ((n : Int) / 65536 != 0) = true := by rw [Bool.eq_iff_iff]; simp only [bne_iff_ne, ne_eq, iff_true]; omega
 have f2 : ((n : Int) / 4294967296 != 0) = false := by rw [Bool.eq_iff_iff]; simp only [bne_iff_ne, ne_eq, Bool.false_eq_true, iff_false]; omega
 have hor : bits .or .u8 ((k : Int) * 32) 26 = 32 * (k : Int) + 26 := or_head k 26 hk (by omega)
 obtain ⟨va, vc, hv, _⟩ := h.len
 subst hv
 have hb : headB k n = [UInt8.ofNat (32 * k + 26)] ++ beBytes n 4 := by rw [headB_far k n h24, hi]; rfl
 have hc : [Value.int .u8 (32 * (k : Int) + 26)] = cByte (UInt8.ofNat (32 * k + 26)) := by
  unfold cByte
  rw [UInt8.toNat_ofNat', Nat.mod_eq_of_lt (by omega)]
  congr 2
 have H := Px.hid (And.intro h (And.intro hb hc))
 clear h hi hb hc h24
 go_enter Tryd.func48, Tryd.ntmps48
 go_wp2
 go_loop [8] (fun wv => ∃ j : Nat, j ≤ 2 ∧ wv = .int .i64 (j : Nat)) (fun wv => 4 - (intOf wv).toNat)
 case atStart => exact ⟨0, by omega, rfl⟩
 case round =>
  obtain ⟨j, hj, rfl⟩ := hrel
  have h4 : j = 0 ∨ j = 1 ∨ j = 2 := by omega
  rcases h4 with rfl | rfl | rfl
  ·go_wp2_with fail
   go_round
   case rel => exact ⟨1, by omega, rfl⟩
   case measure => simp [intOf]
  ·go_wp2_with fail
   go_round
   case rel => exact ⟨2, by omega, rfl⟩
   case measure => simp [intOf]
  ·obtain ⟨i0, hi0, hz0, hz1, hz2⟩ := info_parts Tryd.infoU8
   go_wp2_with (at_builtin; go_must (refine wpList_append_lies _ rfl _ _ _ rfl 0 5 i0 _ 1 1 Tryd.underlying75 hi0 hz0 hz1 hz2 rfl (by omega) (.slice va l.length vc) l.length (l.flatMap cByte) rfl (Owns.alloc H.out.1 _) ⟨w.heap.size, 0, none⟩ 1 1 [.int .u8 (32 * (k : Int) + 26)] rfl rfl (World.news_of_block (cs := #[.int .u8 (32 * (k : Int) + 26)]) (t := 5) (fr := (0, 0)) (heap_alloc_new w _)) (by simp [Value.oneCell']) (by omega) (by unfold maxLen; omega) (by omega) (by omega) (w.heap.size + 1) (by simp) ?_))
   intro gg cap w1 hown1 hgrow hat hlt
   rw [H.out.2.2] at hown1
   have HW := Px.hid (show Grown w (.slice va l.length vc) (l ++ [UInt8.ofNat (32 * k + 26)]) (.slice (some ⟨gg, 0, none⟩) (l.length + 1) cap) w1 from grown_mk hown1 (grown_alloc1 (w := w) hgrow) (hat.imp id (fun e => by omega)))
   have HB := Px.hid (show headB k n = [UInt8.ofNat (32 * k + 26)] ++ beBytes n 4 from H.out.2.1)
   clear hown1 hgrow hat hor f0 f1 f2
   go_wp2
   go_loopw [0, 9] (fun v i wr => ∃ (m : Nat) (L : Bytes), m ≤ 4 ∧ i = .int .i64 ((m : Int) - 1) ∧ L.length ≤ 1000010 - m ∧ Hid (Grown w (.slice va l.length vc) L v wr ∧ L ++ beBytes n m = l ++ headB k n)) (fun _ i _ => (intOf i + 1).toNat)
   case atStart => exact ⟨4, l ++ [UInt8.ofNat (32 * k + 26)], by omega, by go_num, by simp; omega, Px.hid ⟨HW.out, by rw [HB.out, List.append_assoc]⟩⟩
   case round =>
    clear HW HB
    obtain ⟨m, L, hm1, rfl, hll, HO⟩ := hrel
    obtain ⟨xa, xc, hvl, _⟩ := HO.out.1.1.len
    subst hvl
    by_cases hm0 : 1 ≤ m
    ·have z1 : (0 : Int) ≤ (m : Int) - 1 := by omega
     have z2 : (1 : Int) ≤ (m : Int) := by omega
     obtain ⟨q, hq⟩ : ∃ q, q = m - 1 := ⟨_, rfl⟩
     have hsh : (n : Int) / 2 ^ (8 * (m - 1)) % 256 = ((n / 256 ^ q % 256 : Nat) : Int) := by
      have e : 8 * (m - 1) = 8 * q := by omega
      rw [e, show (256 : Nat) = 2 ^ 8 by rfl, ← Nat.pow_mul]
      push_cast
      rfl
     have hqb : beBytes n m = UInt8.ofNat (n / 256 ^ q) :: beBytes n q := by rw [show m = q + 1 by omega]; rfl
     have hqv : (UInt8.ofNat (n / 256 ^ q)).toNat = n / 256 ^ q % 256 := by simp
     have hq1 : ((m : Int) - 1) = (q : Int) := by omega
     obtain ⟨c, hc⟩ : ∃ c, c = UInt8.ofNat (n / 256 ^ q) := ⟨_, rfl⟩
     rw [← hc] at hqb hqv
     rw [← hqv] at hsh
     skip
     have HQ := Px.hid (And.intro hqb (And.intro hq hq1))
     clear hqb hqv hc hq hq1
     go_wp2_with (at_builtin; go_must (refine wpList_append_lies _ rfl _ _ _ rfl 0 5 i0 _ 1 1 Tryd.underlying75 hi0 hz0 hz1 hz2 rfl (by omega) (.slice xa L.length xc) L.length (L.flatMap cByte) rfl (Owns.alloc HO.out.1.1 _) ⟨wr.heap.size, 0, none⟩ 1 1 [.int .u8 c.toNat] rfl rfl (World.news_of_block (cs := #[.int .u8 c.toNat]) (t := 5) (fr := (0, 0)) (heap_alloc_new wr _)) (by simp [Value.oneCell']) (by omega) (by unfold maxLen; omega) (by omega) (by omega) (wr.heap.size + 1) (by simp) ?_))
     intro g2 cap2 w2 hown2 hgrow2 hat2 hlt2
     skip
     have HV := Px.hid (show Grown wr (.slice xa L.length xc) (L ++ [c]) (.slice (some ⟨g2, 0, none⟩) (L.length + 1) cap2) w2 from grown_mk hown2 (grown_alloc1 (w := wr) hgrow2) (hat2.imp id (fun e => by omega)))
     clear hown2 hgrow2 hat2
     go_wp2
     go_roundw
     case rel =>
      refine ⟨q, L ++ [c], by have := HQ.out.2.1; omega, ?_, by have := HQ.out.2.1; simp; omega, Px.hid ⟨HO.out.1.trans HV.out, ?_⟩⟩
      ·have := HQ.out.2.2; go_num
      ·rw [List.append_assoc, ← HO.out.2, HQ.out.1]; rfl
     case measure => simp [intOf]; omega
    ·have z1 : ¬ (0 : Int) ≤ (m : Int) - 1 := by omega
     have z2 : ¬ (1 : Int) ≤ (m : Int) := by omega
     have HE := Px.hid (show L = l ++ headB k n by have := HO.out.2; rw [show m = 0 by omega] at this; simpa [beBytes] using this)
     go_wp2
     go_ret
     rw [← HE.out]
     exact ⟨_, rfl, HO.out.1⟩

set_option maxRecDepth 100000 in
set_option maxHeartbeats 4000000 in
theorem phead_3 (k n : Nat) (hk : k < 8) (h24 : ¬ n < 24) (hr : 4294967296 ≤ n) (hn : n < 18446744073709551616) (v : Value) (l : Bytes) (hl : l.length ≤ 1000000) (w : World) (h : Owns w 5 1 cByte v l) :
  Calls Tryd.prog 48 #[v, .int .i64 (k : Nat), .int .u64 (n : Nat)] w fun e w' => ∃ v', e = .returned v' ∧ Grown w v (l ++ headB k n) v' w' := by
 have hi : infoOf n = 3 := by unfold infoOf; (repeat' split) <;> omega
 have hz : ¬ (n : Int) < 24 := by omega
 have f0 : ((n : Int) / 256 != 0) = true := by rw [Bool.eq_iff_iff]; simp only [bne_iff_ne, ne_eq, iff_true]; omega
 have f1 : ((n : Int) / 65536 != 0) = true := by rw [Bool.eq_iff_iff]; simp only [bne_iff_ne, ne_eq, iff_true]; omega
 have f2 : ((n : Int) / 4294967296 != 0) = true := by rw [Bool.eq_iff_iff]; simp only [bne_iff_ne, ne_eq, iff_true]; omega
 have hor : bits .or .u8 ((k : Int) * 32) 27 = 32 * (k : Int) + 27 := or_head k 27 hk (by omega)
 obtain ⟨va, vc, hv, _⟩ := h.len
 subst hv
 have hb : headB k n = [UInt8.ofNat (32 * k + 27)] ++ beBytes n 8 := by rw [headB_far k n h24, hi]; rfl
 have hc : [Value.int .u8 (32 * (k : Int) + 27)] = cByte (UInt8.ofNat (32 * k + 27)) := by
  unfold cByte
  rw [UInt8.toNat_ofNat', Nat.mod_eq_of_lt (by omega)]
  congr 2
 have H := Px.hid (And.intro h (And.intro hb hc))
 clear h hi hb hc h24
 go_enter Tryd.func48, Tryd.ntmps48
 go_wp2
 go_loop [8] (fun wv => ∃ j : Nat, j ≤ 3 ∧ wv = .int .i64 (j : Nat)) (fun wv => 4 - (intOf wv).toNat)
 case atStart => exact ⟨0, by omega, rfl⟩
 case round =>
  obtain ⟨j, hj, rfl⟩ := hrel
  have h4 : j = 0 ∨ j = 1 ∨ j = 2 ∨ j = 3 := by omega
  rcases h4 with rfl | rfl | rfl | rfl
  ·go_wp2_with fail
   go_round
   case rel => exact ⟨1, by omega, rfl⟩
   case measure => simp [intOf]
  ·go_wp2_with fail
   go_round
   case rel => exact ⟨2, by omega, rfl⟩
   case measure => simp [intOf]
  ·go_wp2_with fail
   go_round
   case rel => exact ⟨3, by omega, rfl⟩
   case measure => simp [intOf]
  ·obtain ⟨i0, hi0, hz0, hz1, hz2⟩ := info_parts Tryd.infoU8
   go_wp2_with (at_builtin; go_must (refine wpList_append_lies _ rfl _ _ _ rfl 0 5 i0 _ 1 1 Tryd.underlying75 hi0 hz0 hz1 hz2 rfl (by omega) (.slice va l.length vc) l.length (l.flatMap cByte) rfl (Owns.alloc H.out.1 _) ⟨w.heap.size, 0, none⟩ 1 1 [.int .u8 (32 * (k : Int) + 27)] rfl rfl (World.news_of_block (cs := #[.int .u8 (32 * (k : Int) + 27)]) (t := 5) (fr := (0, 0)) (heap_alloc_new w _)) (by simp [Value.oneCell']) (by omega) (by unfold maxLen; omega) (by omega) (by omega) (w.heap.size + 1) (by simp) ?_))
   intro gg cap w1 hown1 hgrow hat hlt
   rw [H.out.2.2] at hown1
   have HW := Px.hid (show Grown w (.slice va l.length vc) (l ++ [UInt8.ofNat (32 * k + 27)]) (.slice (some ⟨gg, 0, none⟩) (l.length + 1) cap) w1 from grown_mk hown1 (grown_alloc1 (w := w) hgrow) (hat.imp id (fun e => by omega)))
   have HB := Px.hid (show headB k n = [UInt8.ofNat (32 * k + 27)] ++ beBytes n 8 from H.out.2.1)
   clear hown1 hgrow hat hor f0 f1 f2
   go_wp2
   go_loopw [0, 9] (fun v i wr => ∃ (m : Nat) (L : Bytes), m ≤ 8 ∧ i = .int .i64 ((m : Int) - 1) ∧ L.length ≤ 1000010 - m ∧ Hid (Grown w (.slice va l.length vc) L v wr ∧ L ++ beBytes n m = l ++ headB k n)) (fun _ i _ => (intOf i + 1).toNat)
   case atStart => exact ⟨8, l ++ [UInt8.ofNat (32 * k + 27)], by omega, by go_num, by simp; omega, Px.hid ⟨HW.out, by rw [HB.out, List.append_assoc]⟩⟩
   case round =>
    clear HW HB
    obtain ⟨m, L, hm1, rfl, hll, HO⟩ := hrel
    obtain ⟨xa, xc, hvl, _⟩ := HO.out.1.1.len
    subst hvl
    by_cases hm0 : 1 ≤ m
    ·have z1 : (0 : Int) ≤ (m : Int) - 1 := by omega
     have z2 : (1 : Int) ≤ (m : Int) := by omega
     obtain ⟨q, hq⟩ : ∃ q, q = m - 1 := ⟨_, rfl⟩
     have hsh : (n : Int) / 2 ^ (8 * (m - 1)) % 256 = ((n / 256 ^ q % 256 : Nat) : Int) := by
      have e : 8 * (m - 1) = 8 * q := by omega
      rw [e, show (256 : Nat) = 2 ^ 8 by rfl, ← Nat.pow_mul]
      push_cast
      rfl
     have hqb : beBytes n m = UInt8.ofNat (n / 256 ^ q) :: beBytes n q := by rw [show m = q + 1 by omega]; rfl
     have hqv : (UInt8.ofNat (n / 256 ^ q)).toNat = n / 256 ^ q % 256 := by simp
     have hq1 : ((m : Int) - 1) = (q : Int) := by omega
     obtain ⟨c, hc⟩ : ∃ c, c = UInt8.ofNat (n / 256 ^ q) := ⟨_, rfl⟩
     rw [← hc] at hqb hqv
     rw [← hqv] at hsh
     skip
     have HQ := Px.hid (And.intro hqb (And.intro hq hq1))
     clear hqb hqv hc hq hq1
     go_wp2_with (at_builtin; go_must (refine wpList_append_lies _ rfl _ _ _ rfl 0 5 i0 _ 1 1 Tryd.underlying75 hi0 hz0 hz1 hz2 rfl (by omega) (.slice xa L.length xc) L.length (L.flatMap cByte) rfl (Owns.alloc HO.out.1.1 _) ⟨wr.heap.size, 0, none⟩ 1 1 [.int .u8 c.toNat] rfl rfl (World.news_of_block (cs := #[.int .u8 c.toNat]) (t := 5) (fr := (0, 0)) (heap_alloc_new wr _)) (by simp [Value.oneCell']) (by omega) (by unfold maxLen; omega) (by omega) (by omega) (wr.heap.size + 1) (by simp) ?_))
     intro g2 cap2 w2 hown2 hgrow2 hat2 hlt2
     skip
     have HV := Px.hid (show Grown wr (.slice xa L.length xc) (L ++ [c]) (.slice (some ⟨g2, 0, none⟩) (L.length + 1) cap2) w2 from grown_mk hown2 (grown_alloc1 (w := wr) hgrow2) (hat2.imp id (fun e => by omega)))
     clear hown2 hgrow2 hat2
     go_wp2
     go_roundw
     case rel =>
      refine ⟨q, L ++ [c], by have := HQ.out.2.1; omega, ?_, by have := HQ.out.2.1; simp; omega, Px.hid ⟨HO.out.1.trans HV.out, ?_⟩⟩
      ·have := HQ.out.2.2; go_num
      ·rw [List.append_assoc, ← HO.out.2, HQ.out.1]; rfl
     case measure => simp [intOf]; omega
    ·have z1 : ¬ (0 : Int) ≤ (m : Int) - 1 := by omega
     have z2 : ¬ (1 : Int) ≤ (m : Int) := by omega
     have HE := Px.hid (show L = l ++ headB k n by have := HO.out.2; rw [show m = 0 by omega] at this; simpa [beBytes] using this)
     go_wp2
     go_ret
     rw [← HE.out]
     exact ⟨_, rfl, HO.out.1⟩

theorem phead_any (k n : Nat) (hk : k < 8) (v : Value) (l : Bytes) (hl : l.length ≤ 1000000) (hn : n < 18446744073709551616) (w : World) (h : Owns w 5 1 cByte v l) :
  Calls Tryd.prog 48 #[v, .int .i64 (k : Nat), .int .u64 (n : Nat)] w fun e w' => ∃ v', e = .returned v' ∧ Grown w v (l ++ headB k n) v' w' := by
 by_cases h24 : n < 24
 ·exact phead_small k n hk h24 v l hl w h
 ·by_cases h1 : n < 256
  ·exact phead_0 k n hk h24 h1 v l hl w h
  ·by_cases h2 : n < 65536
   ·exact phead_1 k n hk h24 ⟨by omega, h2⟩ v l hl w h
   ·by_cases h3 : n < 4294967296
    ·exact phead_2 k n hk h24 ⟨by omega, h3⟩ v l hl w h
    ·exact phead_3 k n hk h24 (by omega) hn v l hl w h
end Go.Proofs.YtddiabaagpmkgaaDoor

/-! The walks over the program's cbor.right and cbor.holds. -/
namespace Go.Proofs.YtddiabaagpmkgaaDoor
open Go.RowKit Go.Px Go.Px.R7

def atomV (a : Atom) : Value := .agg #[.int .i64 a.kind, .int .u64 (a.num : Nat), S a.text]
theorem strEmpty (l : Bytes) : (l.isEmpty = true ∧ l = []) ∨ (l.isEmpty = false ∧ l ≠ []) := by
 cases l with
 | nil => exact .inl ⟨rfl, rfl⟩
 | cons a t => exact .inr ⟨rfl, by simp⟩
set_option maxRecDepth 100000 in
set_option maxHeartbeats 2000000 in
theorem pholds_any (a : Atom) (w : World) :
  Calls Tryd.prog 69 #[atomV a] w fun e w' => e = .returned (.tuple #[.int .u64 ((E7.holds a).getD 0 : Nat), .bool (E7.holds a).isSome]) ∧ Same w w' := by
 obtain ⟨k, n, t⟩ := a
 unfold atomV
 by_cases h4 : k = 4
 ·have H := Px.hid (show E7.holds ⟨k, n, t⟩ = some (min n 1099511627776) by subst h4; rfl)
  subst h4
  go_enter Tryd.func69, Tryd.ntmps69
  go_wp2_with fail
  refine (least_u64 _ _ _).mono ?_
  rintro e w1 ⟨rfl, rfl⟩
  go_wp2
  go_ret2
  rw [H.out]
  exact ⟨by go_num, (Fr.refl _ w).alloc _⟩
 ·by_cases h5 : k = 5
  ·have H := Px.hid (show E7.holds ⟨k, n, t⟩ = some (2 * min n 1099511627776) by subst h5; rfl)
   subst h5
   go_enter Tryd.func69, Tryd.ntmps69
   go_wp2_with fail
   refine (least_u64 _ _ _).mono ?_
   rintro e w1 ⟨rfl, rfl⟩
   have hb : min (n : Int) 1099511627776 ≤ 1099511627776 := by omega
   have hb0 : 0 ≤ min (n : Int) 1099511627776 := by omega
   go_wp2
   go_ret2
   rw [H.out]
   exact ⟨by go_num, (Fr.refl _ w).alloc _⟩
  ·by_cases h6 : k = 6
   ·have H := Px.hid (show E7.holds ⟨k, n, t⟩ = some 1 by subst h6; rfl)
    subst h6
    go_enter Tryd.func69, Tryd.ntmps69
    go_wp2
    go_ret2
    rw [H.out]
    exact ⟨rfl, (Fr.refl _ w).alloc _⟩
   ·have b4 : (k == 4) = false := by simpa using h4
    have b5 : (k == 5) = false := by simpa using h5
    have b6 : (k == 6) = false := by simpa using h6
    have H := Px.hid (show E7.holds ⟨k, n, t⟩ = none by unfold E7.holds; simp only [b4, b5, b6]; rfl)
    clear h4 h5 h6
    go_enter Tryd.func69, Tryd.ntmps69
    go_wp2
    go_ret2
    rw [H.out]
    exact ⟨rfl, (Fr.refl _ w).alloc _⟩

theorem right_of (k : Int) (n : Nat) (t : Bytes) (r : Bool) (h : E7.right ⟨k, n, t⟩ = r) (w : World) : (fun (e : Ending) (w' : World) => e = .returned (.bool r) ∧ Same w w') = fun e w' => e = .returned (.bool (E7.right ⟨k, n, t⟩)) ∧ Same w w' := by rw [h]
set_option maxRecDepth 100000 in
set_option maxHeartbeats 2000000 in
theorem pright_any (a : Atom) (w : World) (hl : a.text.length ≤ 9223372036854775807) (hT : Tabs w) :
  Calls Tryd.prog 68 #[atomV a] w fun e w' => e = .returned (.bool (E7.right a)) ∧ Same w w' := by
 obtain ⟨k, n, t⟩ := a
 unfold atomV
 have HT := Px.hid (And.intro hl hT)
 clear hl hT
 by_cases h2 : k = 2
 ·subst h2
  rw [← right_of 2 n t (n == 0) rfl w]
  by_cases h0 : n = 0
  ·subst h0
   go_enter Tryd.func68, Tryd.ntmps68
   go_wp2
   go_ret
   exact ⟨rfl, (Fr.refl _ w).alloc _⟩
  ·have hb : ((n : Int) == 0) = false := by simpa using h0
   have hb2 : (n == 0) = false := by simpa using h0
   have H := Px.hid hb2
   clear h0 hb2
   go_enter Tryd.func68, Tryd.ntmps68
   go_wp2
   go_ret
   rw [H.out]
   exact ⟨rfl, (Fr.refl _ w).alloc _⟩
 ·by_cases h3 : k = 3
  ·subst h3
   rw [← right_of 3 n t (n == 0 && Lib.validD t) rfl w]
   by_cases h0 : n = 0
   ·subst h0
    go_enter Tryd.func68, Tryd.ntmps68
    go_wp2_with fail
    refine (valid_any t _ HT.out.1 (HT.out.2.same ((Fr.refl _ w).alloc _))).mono ?_
    rintro e w1 ⟨rfl, hb⟩
    have HB := Px.hid (show Same w w1 from Same.trans ((Fr.refl _ w).alloc _) (Fr.below hb))
    clear hb
    go_wp2
    go_ret
    exact ⟨rfl, HB.out⟩
   ·have hb : ((n : Int) == 0) = false := by simpa using h0
    have hb2 : (n == 0) = false := by simpa using h0
    have H := Px.hid hb2
    clear h0 hb2
    go_enter Tryd.func68, Tryd.ntmps68
    go_wp2
    go_ret
    rw [H.out]
    exact ⟨rfl, (Fr.refl _ w).alloc _⟩
  ·by_cases h7 : k = 7
   ·subst h7
    rw [← right_of 7 n t (t.isEmpty && (decide (20 ≤ n) && decide (n ≤ 23))) rfl w]
    rcases strEmpty t with ⟨he, rfl⟩ | ⟨he, hne⟩
    ·have hc : n < 20 ∨ (20 ≤ n ∧ n ≤ 23) ∨ 23 < n := by omega
     rcases hc with hc | hc | hc
     ·rw [show (([] : Bytes).isEmpty && (decide (20 ≤ n) && decide (n ≤ 23))) = false by simp; omega]
      go_enter Tryd.func68, Tryd.ntmps68
      go_wp2
      go_ret
      exact ⟨rfl, (Fr.refl _ w).alloc _⟩
     ·rw [show (([] : Bytes).isEmpty && (decide (20 ≤ n) && decide (n ≤ 23))) = true by simp; omega]
      obtain ⟨c1, c2⟩ := hc
      have hd : decide ((n : Int) ≤ 23) = true := decide_eq_true (by omega)
      go_enter Tryd.func68, Tryd.ntmps68
      go_wp2
      go_ret
      exact ⟨rfl, (Fr.refl _ w).alloc _⟩
     ·rw [show (([] : Bytes).isEmpty && (decide (20 ≤ n) && decide (n ≤ 23))) = false by simp; omega]
      have hd : decide ((n : Int) ≤ 23) = false := decide_eq_false (by omega)
      go_enter Tryd.func68, Tryd.ntmps68
      go_wp2
      go_ret
      exact ⟨rfl, (Fr.refl _ w).alloc _⟩
    ·have H := Px.hid he
     clear he
     go_enter Tryd.func68, Tryd.ntmps68
     go_wp2
     go_ret
     rw [H.out]
     exact ⟨rfl, (Fr.refl _ w).alloc _⟩
   ·by_cases h5 : k = 0 ∨ k = 1 ∨ k = 4 ∨ k = 5 ∨ k = 6
    ·rw [← right_of k n t t.isEmpty (by rcases h5 with rfl | rfl | rfl | rfl | rfl <;> rfl) w]
     rcases strEmpty t with ⟨he, rfl⟩ | ⟨he, hne⟩
     ·rcases h5 with rfl | rfl | rfl | rfl | rfl
      all_goals
       go_enter Tryd.func68, Tryd.ntmps68
       go_wp2
       go_ret
       exact ⟨rfl, (Fr.refl _ w).alloc _⟩
     ·rcases h5 with rfl | rfl | rfl | rfl | rfl
      all_goals
       go_enter Tryd.func68, Tryd.ntmps68
       go_wp2
       go_ret
       exact ⟨rfl, (Fr.refl _ w).alloc _⟩
    ·have hr : E7.right ⟨k, n, t⟩ = false := by
      unfold E7.right
      simp only [not_or] at h5
      have e : ∀ m : Int, ¬ k = m → (k == m) = false := fun m h => by simpa using h
      simp only [e 2 h2, e 3 h3, e 7 h7, e 0 h5.1, e 1 h5.2.1, e 4 h5.2.2.1, e 5 h5.2.2.2.1, e 6 h5.2.2.2.2]
      rfl
     rw [← right_of k n t false hr w]
     simp only [not_or] at h5
     have e : ∀ m : Int, ¬ k = m → (k == m) = false := fun m h => by simpa using h
     have b2 := e 2 h2
     have b3 := e 3 h3
     have b7 := e 7 h7
     have b0 := e 0 h5.1
     have b1 := e 1 h5.2.1
     have b4 := e 4 h5.2.2.1
     have b5 := e 5 h5.2.2.2.1
     have b6 := e 6 h5.2.2.2.2
     clear e h2 h3 h7 h5 hr
     go_enter Tryd.func68, Tryd.ntmps68
     go_wp2
     go_ret
     exact ⟨rfl, (Fr.refl _ w).alloc _⟩
end Go.Proofs.YtddiabaagpmkgaaDoor

/-! The walk over the program's cbor.shape. -/
namespace Go.Proofs.YtddiabaagpmkgaaDoor
open Go.RowKit Go.Px Go.Px.R7

def cNum (n : Nat) : List Value := [.int .u64 (n : Nat)]
theorem cNum_len (n : Nat) : (cNum n).length = 1 := rfl
theorem Tryd.infoU64 : (Tryd.prog.info? 60).map (fun i => (i.zero, i.size, i.bytes)) = some (some (.int .u64 0), 1, 8) := by kernel_rfl
/-- What shape tells. -/
def shapeV (l : List Atom) : Nat × Bool :=
 match E7.shape true l [] 0 with
 | none => (0, false)
 | some (m, left) => (m, !l.isEmpty && left.isEmpty)
/-- A list of numbers of the call's own, the last one first. -/
structure Nums (w wr : World) (v : Value) (left : List Nat) : Prop where
 own : Owns wr 60 1 cNum v left.reverse
 same : Same w wr
 new : ∀ g, v.ownBlock = some g → w.heap.size ≤ g
theorem Nums.sm {w wr w2 : World} {v : Value} {left : List Nat} (h : Nums w wr v left) (hs : Same wr w2) : Nums w w2 v left := ⟨Owns.same h.own hs, h.same.trans hs, h.new⟩
theorem Nums.top {w wr : World} {v : Value} {c : Nat} {rest : List Nat} (h : Nums w wr v (c :: rest)) : ∃ g cap, v = .slice (some ⟨g, 0, none⟩) (rest.length + 1) cap ∧ rest.length + 1 ≤ cap ∧ cap ≤ maxLen ∧ wr.cell? ⟨g, rest.length, none⟩ = some (.int .u64 (c : Nat)) ∧ wr.frozen? ⟨g, rest.length, none⟩ = false ∧ g < wr.heap.size := by
 have h' := h.own
 rw [List.reverse_cons] at h'
 obtain ⟨g, cap, h1, h2, h3, h4, h5⟩ := h'.last cNum_len
 rw [List.length_reverse] at h1 h2 h4
 have := h4 0 _ rfl
 rw [Nat.add_zero, Nat.mul_one] at this
 exact ⟨g, cap, h1, h2, h3, this, h5 _, h'.lt (by rw [h1]; rfl)⟩
theorem Nums.set {w wr : World} {c : Nat} {rest : List Nat} {g cap : Nat} (h : Nums w wr (.slice (some ⟨g, 0, none⟩) (rest.length + 1) cap) (c :: rest)) (n : Nat) :
  Nums w (wr.setCell ⟨g, rest.length, none⟩ (.int .u64 (n : Nat))) (.slice (some ⟨g, 0, none⟩) (rest.length + 1) cap) (n :: rest) := by
 have h' := h.own
 rw [List.reverse_cons, ← @List.length_reverse _ rest] at h'
 have k := h'.setLast (b := n) cNum_len 0 (.int .u64 (n : Nat)) rfl
 rw [List.length_reverse, Nat.mul_one, Nat.add_zero] at k
 refine ⟨by rw [List.reverse_cons]; exact k, h.same.setCell (p := ⟨g, rest.length, none⟩) (.inr (h.new g rfl)) _, h.new⟩

theorem Nums.pop {w wr : World} {c : Nat} {rest : List Nat} {g cap : Nat} (h : Nums w wr (.slice (some ⟨g, 0, none⟩) (rest.length + 1) cap) (c :: rest)) : Nums w wr (.slice (some ⟨g, 0, none⟩) rest.length cap) rest := by
 have h' := h.own
 rw [List.reverse_cons, ← @List.length_reverse _ rest] at h'
 have k := h'.pop cNum_len
 rw [List.length_reverse] at k
 exact ⟨k, h.same, h.new⟩
theorem Nums.len {w wr : World} {v : Value} {left : List Nat} (h : Nums w wr v left) : ∃ a cap, v = .slice a left.length cap := by
 obtain ⟨a, cap, h1, _⟩ := h.own.len
 rw [List.length_reverse] at h1
 exact ⟨a, cap, h1⟩
theorem Nums.push {w wr w1 : World} {v : Value} {left : List Nat} {n g cap : Nat} (h : Nums w wr v left)
  (hown : w1.ownsRow 0 60 1 (.slice (some ⟨g, 0, none⟩) (left.length + 1) cap) (left.length + 1) (left.reverse.flatMap cNum ++ cNum n)) (hg : wr.grownBy w1 v.ownBlock) (hat : v.ownBlock = some g ∨ wr.heap.size ≤ g) :
  Nums w w1 (.slice (some ⟨g, 0, none⟩) (left.length + 1) cap) (n :: left) := by
 have hrl : left.reverse.length = left.length := List.length_reverse
 have k := owns_append (l := left.reverse) (c := cNum) (a := n) (w := w1) (T := 60) (sz := 1) (g := g) (cap := cap) (by rw [hrl]; exact hown)
 rw [hrl] at k
 refine ⟨by rw [List.reverse_cons]; exact k, Fr.grown h.same hg (fun k e => .inr (h.new k e)), fun g' hg' => ?_⟩
 simp only [Value.ownBlock, Option.some.injEq] at hg'
 subst hg'
 rcases hat with e | e
 ·exact h.new _ e
 ·exact Nat.le_trans h.same.size e
/-- What holds at the head of shape's loop. -/
structure Shp (w wr : World) (v : Value) (l : List Atom) (k most : Nat) (left : List Nat) : Prop where
 nums : Nums w wr v left
 eq : E7.shape true l [] 0 = E7.shape (k == 0) (l.drop k) left most
 len : left.length ≤ k
 most : most ≤ k
 small : ∀ c ∈ left, c ≤ 2199023255552
 top : left = [] ∨ ∃ n r, left = (n + 1) :: r
theorem shape_step {l : List Atom} {k : Nat} {left : List Nat} {most : Nat} (hk : k < l.length) (hl : left = [] → k = 0) (hr : E7.right l[k] = true) :
  E7.shape (k == 0) (l.drop k) left most = (match E7.holds l[k] with
   | some n => E7.shape false (l.drop (k + 1)) (E7.pops (n :: E7.dec left)) (max most (left.length + 1))
   | none => E7.shape false (l.drop (k + 1)) (E7.pops (E7.dec left)) most) := by
 rw [List.drop_eq_getElem_cons hk]
 rw [E7.shape]
 rw [if_neg ?_]
 ·rfl
 ·rw [hr]
  cases left with
  | nil => rw [hl rfl]; simp
  | cons a t => simp
theorem holds_le {a : Atom} {n : Nat} (h : E7.holds a = some n) : n ≤ 2199023255552 := by
 unfold E7.holds at h
 split at h
 ·simp only [Option.some.injEq] at h; omega
 ·split at h
  ·simp only [Option.some.injEq] at h; omega
  ·split at h
   ·simp only [Option.some.injEq] at h; omega
   ·cases h
theorem strEmptyA (l : List Atom) : (l.isEmpty = true ∧ l.length = 0) ∨ (l.isEmpty = false ∧ 0 < l.length) := by
 cases l with
 | nil => exact .inl ⟨rfl, rfl⟩
 | cons a t => exact .inr ⟨rfl, by simp⟩
theorem strEmptyN (l : List Nat) : (l.isEmpty = true ∧ l.length = 0) ∨ (l.isEmpty = false ∧ 0 < l.length) := by
 cases l with
 | nil => exact .inl ⟨rfl, rfl⟩
 | cons a t => exact .inr ⟨rfl, by simp⟩
theorem shape_stop {l : List Atom} {k : Nat} {left : List Nat} {most : Nat} (hk : k < l.length) (h : (left = [] ∧ 0 < k) ∨ E7.right l[k] = false) : E7.shape (k == 0) (l.drop k) left most = none := by
 rw [List.drop_eq_getElem_cons hk]
 rw [E7.shape]
 rw [if_pos ?_]
 rcases h with ⟨rfl, h0⟩ | h
 ·simp; omega
 ·simp [h]

set_option maxRecDepth 100000 in
set_option maxHeartbeats 4000000 in
theorem pshape_any (v : Value) (l : List Atom) (w : World) (h : Lies w 3 cAtom v l) (hl : l.length ≤ 4096) (hw : ∀ a ∈ l, a.text.length ≤ 9223372036854775807) (hT : Tabs w) :
  Calls Tryd.prog 47 #[v] w fun e w' => e = .returned (.tuple #[.int .i64 ((shapeV l).1 : Nat), .bool (shapeV l).2]) ∧ Same w w' := by
 obtain ⟨va, vc, hv, hv1, hv2⟩ := h.slice
 subst hv
 have H := Px.hid (And.intro h (And.intro hw hT))
 clear h hw hT
 obtain ⟨i0, hi0, hz0, hz1, hz2⟩ := info_parts Tryd.infoU64
 go_enter Tryd.func47, Tryd.ntmps47
 go_wp2
 go_loopg [4, 5, 14] (l.length + 1) (fun gk v4 t5 i wr => ∃ (k most : Nat) (left : List Nat), gk + k = l.length + 1 ∧ k ≤ l.length ∧ i = .int .i64 (k : Nat) ∧ t5 = .int .i64 (most : Nat) ∧ Hid (Shp w wr v4 l k most left))
 case atStart => exact ⟨0, 0, [], rfl, Nat.zero_le _, rfl, rfl, Px.hid ⟨⟨owns_nil _ _ _ _, Same.refl w, nofun⟩, by rw [List.drop_zero]; rfl, Nat.le_refl _, Nat.le_refl _, nofun, .inl rfl⟩⟩
 case round =>
  obtain ⟨k, most, left, hgk, hk, rfl, rfl, HS⟩ := hrel
  have HG := Px.hid hgk
  clear hgk
  by_cases hlt : k < l.length
  ·have hlz : (k : Int) < (l.length : Int) := by omega
   obtain ⟨xb, xo, xc, hve, hxb, hcx⟩ := (Lies.same H.out.1 HS.out.nums.same).cell k l[k] (by simp [hlt])
   simp only [Value.slice.injEq, true_and] at hve
   obtain ⟨rfl, rfl⟩ := hve
   have x0 := hcx 0 _ rfl
   have x1 := hcx 1 _ rfl
   have x2 := hcx 2 _ rfl
   rw [← Nat.add_assoc] at x0 x1 x2
   rw [Nat.add_zero] at x0
   obtain ⟨x, hx⟩ : ∃ x, x = l[k] := ⟨_, rfl⟩
   rw [← hx] at x0 x1 x2
   have hxl := H.out.2.1 x (by rw [hx]; exact List.getElem_mem _)
   have HX := Px.hid (And.intro hx hxl)
   clear hcx hx hxl
   go_upto_region 6 with fail
   obtain ⟨g', rfl⟩ : ∃ g', gk = g' + 1 := ⟨gk - 1, by have := HG.out; omega⟩
   obtain ⟨WX, hWX⟩ : ∃ WX, WX = wr.alloc (.cells #[.int .i64 x.kind, .int .u64 (x.num : Nat), .string ⟨x.text.toArray⟩] 62 (0, 0)) := ⟨_, rfl⟩
   rw [← hWX]
   have hsX : Same wr WX := by rw [hWX]; exact (Same.refl wr).alloc _
   have hbX : WX.heap[wr.heap.size]? = some (.cells #[.int .i64 x.kind, .int .u64 (x.num : Nat), S x.text] 62 (0, 0)) := by rw [hWX]; exact heap_alloc_new wr _
   have y0 := cellOf hbX 0 rfl
   have y1 := cellOf hbX 1 rfl
   have y2 := cellOf hbX 2 rfl
   have HS1 := Px.hid (And.intro (HS.out.nums.sm hsX) (And.intro HS.out (And.intro hsX hbX)))
   clear hWX hsX hbX x0 x1 x2 HS
   by_cases hstop : left = [] ∧ 0 < k
   ·obtain ⟨rfl, hk0⟩ := hstop
    have hkz : (0 : Int) < (k : Int) := by omega
    obtain ⟨la, lc, hv4⟩ := HS1.out.1.len
    subst hv4
    have HR := Px.hid (show shapeV l = (0, false) by unfold shapeV; rw [HS1.out.2.1.eq, shape_stop hlt (.inl ⟨rfl, hk0⟩)])
    clear hk0
    go_wp2
    go_ret2
    rw [HR.out]
    exact ⟨rfl, HS1.out.1.same⟩
   ·have HST := Px.hid hstop
    clear hstop
    have hforms : (k = 0 ∧ left = []) ∨ ∃ n rest, left = (n + 1) :: rest := by
     rcases HS1.out.2.1.top with rfl | h
     ·exact .inl ⟨by have := HST.out; simp at this; omega, rfl⟩
     ·exact .inr h
    have hpr := pright_any x WX HX.out.2 (H.out.2.2.same HS1.out.1.same)
    unfold atomV at hpr
    have HPR := Px.hid hpr
    clear hpr
    cases hr : E7.right x
    ·have HR := Px.hid (show shapeV l = (0, false) by unfold shapeV; rw [HS1.out.2.1.eq, shape_stop hlt (.inr (by rw [← HX.out.1]; exact hr))])
     rw [hr] at HPR
     clear hr
     rcases hforms with ⟨rfl, rfl⟩ | ⟨n, rest, rfl⟩
     ·obtain ⟨la, lc, hv4⟩ := HS1.out.1.len
      subst hv4
      go_wp2_with fail
      refine HPR.out.mono ?_
      rintro e w1 ⟨rfl, hs1⟩
      have HS2 := Px.hid (HS1.out.1.same.trans hs1)
      clear hs1
      go_wp2
      go_ret2
      rw [HR.out]
      exact ⟨rfl, HS2.out⟩
     ·obtain ⟨la, lc, hv4⟩ := HS1.out.1.len
      rw [List.length_cons] at hv4
      subst hv4
      have hz0 : (((rest.length : Int) + 1) == 0) = false := by simp; omega
      have hk0 : 0 < k := by have := HS1.out.2.1.len; simp at this; omega
      go_wp2_with fail
      refine HPR.out.mono ?_
      rintro e w1 ⟨rfl, hs1⟩
      have HS2 := Px.hid (HS1.out.1.same.trans hs1)
      clear hs1
      go_wp2
      go_ret2
      rw [HR.out]
      exact ⟨rfl, HS2.out⟩
    ·have HE := Px.hid (And.intro (shape_step (left := left) (most := most) hlt (fun e => by have := HST.out; simp [e] at this; exact this) (by rw [← HX.out.1]; exact hr)) hr)
     rw [← HX.out.1] at HE
     rw [hr] at HPR
     have HQ := Px.hid (show E7.shape true l [] 0 = (match E7.holds x with
      | some n => E7.shape false (l.drop (k + 1)) (E7.pops (n :: E7.dec left)) (max most (left.length + 1))
      | none => E7.shape false (l.drop (k + 1)) (E7.pops (E7.dec left)) most) from HS1.out.2.1.eq.trans HE.out.1)
     clear hr HE HX
     have hph := fun W => pholds_any x W
     unfold atomV at hph
     have HPH := Px.hid hph
     clear hph
     have HLK := Px.hid (And.intro HS1.out.2.1.len (And.intro HS1.out.2.1.most HS1.out.2.1.small))
     rcases hforms with ⟨rfl, rfl⟩ | ⟨n, rest, rfl⟩
     ·obtain ⟨la, lc, hv4⟩ := HS1.out.1.len
      subst hv4
      go_wp2_with fail
      refine HPR.out.mono ?_
      rintro e w1 ⟨rfl, hs1⟩
      have hb1 := (hs1.block wr.heap.size (ltOf HS1.out.2.2.2) (fun x => x)).trans HS1.out.2.2.2
      have HS2 := Px.hid (show Nums w w1 (.slice la 0 lc) [] from HS1.out.1.sm hs1)
      clear hs1 y0 y1 y2
      have y0 := cellOf hb1 0 rfl
      have y1 := cellOf hb1 1 rfl
      have y2 := cellOf hb1 2 rfl
      clear hb1
      have hkl : 0 < 4096 := by omega
      have hmk : most ≤ 0 := HLK.out.2.1
      cases hh : E7.holds x with
      | none =>
       have HQ2 := Px.hid (show E7.shape true l [] 0 = E7.shape false (l.drop (0 + 1)) (E7.pops ([] : List Nat)) most by have := HQ.out; rw [hh] at this; exact this)
       rw [hh] at HPH
       go_wp2_with fail
       refine (HPH.out _).mono ?_
       rintro e w2 ⟨rfl, hs2⟩
       have HS3 := Px.hid (show Nums w w2 (.slice la 0 lc) ([] : List Nat) from HS2.out.sm hs2)
       clear hs2 y0 y1 y2 hh HQ
       obtain ⟨WY, hWY⟩ : ∃ WY, WY = w2 := ⟨_, rfl⟩
       rw [← hWY] at HS3 ⊢
       clear hWY
       have HN := Px.hid (And.intro HS3.out (And.intro (show (([] : List Nat) : List Nat).length ≤ 0 + 1 by simp <;> omega) (And.intro (show ∀ c' ∈ (([] : List Nat) : List Nat), c' ≤ 2199023255552 from (nofun)) (And.intro (show most ≤ 0 + 1 by omega) (show E7.shape true l [] 0 = E7.shape false (l.drop (0 + 1)) (E7.pops ([] : List Nat)) most from HQ2.out)))))
       go_wp2
       obtain ⟨wo, rfl⟩ : ∃ wo : World, wo = WY := ⟨_, rfl⟩
       go_loopg [4, 11] (([] : List Nat).length + 1) (fun gk2 v4 t11 w2 => ∃ lf : List Nat, lf.length < gk2 ∧ t11 = .int .i64 (lf.length : Nat) ∧ Hid (Nums w w2 v4 lf ∧ E7.pops lf = E7.pops ([] : List Nat) ∧ lf.length ≤ ([] : List Nat).length ∧ ∀ c ∈ lf, c ≤ 2199023255552))
       case atStart => exact ⟨([] : List Nat), by omega, rfl, Px.hid ⟨HN.out.1, rfl, Nat.le_refl _, HN.out.2.2.1⟩⟩
       case round =>
        obtain ⟨lf, hgl, rfl, HL⟩ := hrel
        have HGL := Px.hid hgl
        clear hgl
        have hkm : (0 : Int) < 9223372036854775807 := by omega
        rcases hlf : lf with _ | ⟨ci, rs⟩
        ·rw [hlf] at HL
         obtain ⟨a2, c2, hv2⟩ := HL.out.1.len
         subst hv2
         clear hlf HGL
         go_wp2
         go_roundg g'
         case measure => omega
         case rel =>
          have hp : E7.pops ([] : List Nat) = E7.pops ([] : List Nat) := by first | exact HL.out.2.1 | rfl
          refine ⟨0 + 1, most, [], by have := HG.out; omega, by omega, by go_num, by go_num, Px.hid ⟨HL.out.1, ?_, Nat.zero_le _, HN.out.2.2.2.1, nofun, .inl rfl⟩⟩
          rw [HN.out.2.2.2.2, ← hp]
          rfl
        ·rw [hlf] at HL HGL
         obtain ⟨g2, c2, rfl, hc1, hc2, hcell, hfz, hg2⟩ := HL.out.1.top
         unfold maxLen at hc2
         clear hlf
         by_cases hc0 : ci = 0
         ·subst hc0
          go_wp2
          go_roundg (rs.length + 1)
          case measure => have := HGL.out; simp at this; omega
          case rel => exact ⟨rs, by omega, by go_num, Px.hid ⟨HL.out.1.pop, HL.out.2.1, Nat.le_of_succ_le HL.out.2.2.1, fun c hc => HL.out.2.2.2 c (by simp [hc])⟩⟩
         ·have hcz : ((ci : Int) == 0) = false := by simpa using hc0
          have HC := Px.hid hc0
          clear hc0
          go_wp2
          go_roundg g'
          case measure => omega
          case rel =>
           have hp := HL.out.2.1
           have e : E7.pops (ci :: rs) = ci :: rs := by unfold E7.pops; rw [if_neg HC.out]
           refine ⟨0 + 1, most, ci :: rs, by have := HG.out; omega, by omega, by go_num, by go_num, Px.hid ⟨HL.out.1, ?_, ?_, HN.out.2.2.2.1, HL.out.2.2.2, .inr ⟨ci - 1, rs, by rw [Nat.sub_add_cancel (Nat.one_le_iff_ne_zero.2 HC.out)]⟩⟩⟩
           ·rw [HN.out.2.2.2.2, ← hp, e]
            rfl
           ·have := HL.out.2.2.1; have := HN.out.2.1; omega
      | some n2 =>
       have HQ2 := Px.hid (show E7.shape true l [] 0 = E7.shape false (l.drop (0 + 1)) (E7.pops (n2 :: ([] : List Nat))) (max most 1) by have := HQ.out; rw [hh] at this; exact this)
       have HH := Px.hid (And.intro hh True.intro)
       rw [hh] at HPH
       go_wp2_with fail
       refine (HPH.out _).mono ?_
       rintro e w2 ⟨rfl, hs2⟩
       have HS3 := Px.hid (show Nums w w2 (.slice la 0 lc) ([] : List Nat) from HS2.out.sm hs2)
       clear hs2 y0 y1 y2 hh HQ
       have hown : w2.ownsRow 0 60 1 (.slice la 0 lc) 0 ((([] : List Nat) : List Nat).reverse.flatMap cNum) := by
        have := HS3.out.own
        unfold Owns at this
        rw [List.length_reverse] at this
        exact this
       obtain ⟨RL, hRL⟩ : ∃ RL, RL = (([] : List Nat) : List Nat).reverse.flatMap cNum := ⟨_, rfl⟩
       rw [← hRL] at hown
       have HO := Px.hid hown
       have HRL := Px.hid hRL
       clear hown hRL
       have hn2 := holds_le HH.out.1
       go_wp2_with (at_builtin; go_must (refine wpList_append_lies _ rfl _ _ _ rfl 0 60 i0 _ 1 8 Tryd.underlying133 hi0 hz0 hz1 hz2 rfl (by omega) (.slice la 0 lc) 0 RL rfl (HO.out.alloc _) ⟨w2.heap.size, 0, none⟩ 1 1 [.int .u64 (n2 : Nat)] rfl rfl (World.news_of_block (cs := #[.int .u64 (n2 : Nat)]) (t := 60) (fr := (0, 0)) (heap_alloc_new w2 _)) (by simp [Value.oneCell']) (by omega) (by unfold maxLen; omega) (by omega) (by omega) (w2.heap.size + 1) (by simp) ?_))
       intro gg cap WY hown1 hgrow hat hlt1
       rw [HRL.out] at hown1
       have HP := Px.hid (show Nums w WY (.slice (some ⟨gg, 0, none⟩) (0 + 1) cap) (n2 :: ([] : List Nat)) from Nums.push HS3.out hown1 (grown_alloc1 (w := w2) hgrow) (hat.imp id (fun e => by omega)))
       clear hown1 hgrow hat
       have HN := Px.hid (And.intro HP.out (And.intro (show ((n2 :: ([] : List Nat)) : List Nat).length ≤ 0 + 1 by simp <;> omega) (And.intro (show ∀ c' ∈ ((n2 :: ([] : List Nat)) : List Nat), c' ≤ 2199023255552 from (by intro c' hc'; simp at hc'; omega)) (And.intro (show (max most 1) ≤ 0 + 1 by omega) (show E7.shape true l [] 0 = E7.shape false (l.drop (0 + 1)) (E7.pops (n2 :: ([] : List Nat))) (max most 1) from HQ2.out)))))
       go_wp2
       obtain ⟨wo, rfl⟩ : ∃ wo : World, wo = WY := ⟨_, rfl⟩
       go_loopg [4, 11] ((n2 :: ([] : List Nat)).length + 1) (fun gk2 v4 t11 w2 => ∃ lf : List Nat, lf.length < gk2 ∧ t11 = .int .i64 (lf.length : Nat) ∧ Hid (Nums w w2 v4 lf ∧ E7.pops lf = E7.pops (n2 :: ([] : List Nat)) ∧ lf.length ≤ (n2 :: ([] : List Nat)).length ∧ ∀ c ∈ lf, c ≤ 2199023255552))
       case atStart => exact ⟨(n2 :: ([] : List Nat)), by omega, rfl, Px.hid ⟨HN.out.1, rfl, Nat.le_refl _, HN.out.2.2.1⟩⟩
       case round =>
        obtain ⟨lf, hgl, rfl, HL⟩ := hrel
        have HGL := Px.hid hgl
        clear hgl
        have hkm : (0 : Int) < 9223372036854775807 := by omega
        rcases hlf : lf with _ | ⟨ci, rs⟩
        ·rw [hlf] at HL
         obtain ⟨a2, c2, hv2⟩ := HL.out.1.len
         subst hv2
         clear hlf HGL
         go_wp2
         go_roundg g'
         case measure => omega
         case rel =>
          have hp : E7.pops ([] : List Nat) = E7.pops (n2 :: ([] : List Nat)) := by first | exact HL.out.2.1 | rfl
          refine ⟨0 + 1, (max most 1), [], by have := HG.out; omega, by omega, by go_num, by go_num, Px.hid ⟨HL.out.1, ?_, Nat.zero_le _, HN.out.2.2.2.1, nofun, .inl rfl⟩⟩
          rw [HN.out.2.2.2.2, ← hp]
          rfl
        ·rw [hlf] at HL HGL
         obtain ⟨g2, c2, rfl, hc1, hc2, hcell, hfz, hg2⟩ := HL.out.1.top
         unfold maxLen at hc2
         clear hlf
         by_cases hc0 : ci = 0
         ·subst hc0
          go_wp2
          go_roundg (rs.length + 1)
          case measure => have := HGL.out; simp at this; omega
          case rel => exact ⟨rs, by omega, by go_num, Px.hid ⟨HL.out.1.pop, HL.out.2.1, Nat.le_of_succ_le HL.out.2.2.1, fun c hc => HL.out.2.2.2 c (by simp [hc])⟩⟩
         ·have hcz : ((ci : Int) == 0) = false := by simpa using hc0
          have HC := Px.hid hc0
          clear hc0
          go_wp2
          go_roundg g'
          case measure => omega
          case rel =>
           have hp := HL.out.2.1
           have e : E7.pops (ci :: rs) = ci :: rs := by unfold E7.pops; rw [if_neg HC.out]
           refine ⟨0 + 1, (max most 1), ci :: rs, by have := HG.out; omega, by omega, by go_num, by go_num, Px.hid ⟨HL.out.1, ?_, ?_, HN.out.2.2.2.1, HL.out.2.2.2, .inr ⟨ci - 1, rs, by rw [Nat.sub_add_cancel (Nat.one_le_iff_ne_zero.2 HC.out)]⟩⟩⟩
           ·rw [HN.out.2.2.2.2, ← hp, e]
            rfl
           ·have := HL.out.2.2.1; have := HN.out.2.1; omega
     ·obtain ⟨c, hc⟩ : ∃ c, c = n + 1 := ⟨_, rfl⟩
      rw [← hc] at HS1 HST HQ HLK
      have hc1 : 1 ≤ c := by omega
      have hcb : c ≤ 2199023255552 := HLK.out.2.2 c (by simp)
      have hcc : ((c - 1 : Nat) : Int) = (c : Int) - 1 := by omega
      have HC := Px.hid hcc
      clear hc hcc
      have hg0 := HS1.out.2.1.nums.top
      obtain ⟨g, gc, hv4, hgc1, hgc2, hcell, hfz, hgl⟩ := hg0
      subst hv4
      unfold maxLen at hgc2
      clear hcell hfz
      have hk0 : 0 < k := by have := HS1.out.2.1.len; simp at this; omega
      have hrk : rest.length + 1 ≤ k := by have := HS1.out.2.1.len; simpa using this
      have hzz : (((rest.length : Int) + 1) == 0) = false := by simp; omega
      go_wp2_with fail
      refine HPR.out.mono ?_
      rintro e w1 ⟨rfl, hs1⟩
      have hb1 := (hs1.block wr.heap.size (ltOf HS1.out.2.2.2) (fun x => x)).trans HS1.out.2.2.2
      have HS1b := Px.hid (HS1.out.1.sm hs1)
      have hg1 := HS1b.out.top
      obtain ⟨g', gc', hv4, _, _, hcell, hfz, hgl1⟩ := hg1
      simp only [Value.slice.injEq, Option.some.injEq, Addr.mk.injEq, and_true, true_and] at hv4
      obtain ⟨rfl, rfl⟩ := hv4
      have hset := HS1b.out.set (c - 1)
      rw [HC.out] at hset
      have HS2 := Px.hid hset
      clear hset hs1 y0 y1 y2
      have y0 := cellOf hb1 0 rfl
      have y1 := cellOf hb1 1 rfl
      have y2 := cellOf hb1 2 rfl
      have hw1 : wr.heap.size < w1.heap.size := ltOf hb1
      clear hb1
      have hkl : k < 4096 := by omega
      have hmk : most ≤ k := HLK.out.2.1
      cases hh : E7.holds x with
      | none =>
       have HQ2 := Px.hid (show E7.shape true l [] 0 = E7.shape false (l.drop (k + 1)) (E7.pops ((c - 1) :: rest)) most by have := HQ.out; rw [hh] at this; exact this)
       rw [hh] at HPH
       go_wp2_with fail
       refine (HPH.out _).mono ?_
       rintro e w2 ⟨rfl, hs2⟩
       have HS3 := Px.hid (show Nums w w2 (.slice (some ⟨g, 0, none⟩) (rest.length + 1) gc) ((c - 1) :: rest) from HS2.out.sm hs2)
       clear hs2 y0 y1 y2 hh HQ
       obtain ⟨WY, hWY⟩ : ∃ WY, WY = w2 := ⟨_, rfl⟩
       rw [← hWY] at HS3 ⊢
       clear hWY
       have HN := Px.hid (And.intro HS3.out (And.intro (show (((c - 1) :: rest) : List Nat).length ≤ k + 1 by simp <;> omega) (And.intro (show ∀ c' ∈ (((c - 1) :: rest) : List Nat), c' ≤ 2199023255552 from (by intro c' hc'; simp at hc'; rcases hc' with rfl | hc'; exact Nat.le_trans (Nat.sub_le _ _) (HLK.out.2.2 c (by simp)); exact HLK.out.2.2 c' (by simp [hc']))) (And.intro (show most ≤ k + 1 by omega) (show E7.shape true l [] 0 = E7.shape false (l.drop (k + 1)) (E7.pops ((c - 1) :: rest)) most from HQ2.out)))))
       go_wp2
       obtain ⟨wo, rfl⟩ : ∃ wo : World, wo = WY := ⟨_, rfl⟩
       go_loopg [4, 11] (((c - 1) :: rest).length + 1) (fun gk2 v4 t11 w2 => ∃ lf : List Nat, lf.length < gk2 ∧ t11 = .int .i64 (lf.length : Nat) ∧ Hid (Nums w w2 v4 lf ∧ E7.pops lf = E7.pops ((c - 1) :: rest) ∧ lf.length ≤ ((c - 1) :: rest).length ∧ ∀ c ∈ lf, c ≤ 2199023255552))
       case atStart => exact ⟨((c - 1) :: rest), by omega, rfl, Px.hid ⟨HN.out.1, rfl, Nat.le_refl _, HN.out.2.2.1⟩⟩
       case round =>
        obtain ⟨lf, hgl, rfl, HL⟩ := hrel
        have HGL := Px.hid hgl
        clear hgl
        have hkm : (k : Int) < 9223372036854775807 := by omega
        rcases hlf : lf with _ | ⟨ci, rs⟩
        ·rw [hlf] at HL
         obtain ⟨a2, c2, hv2⟩ := HL.out.1.len
         subst hv2
         clear hlf HGL
         go_wp2
         go_roundg g'
         case measure => omega
         case rel =>
          have hp : E7.pops ([] : List Nat) = E7.pops ((c - 1) :: rest) := by first | exact HL.out.2.1 | rfl
          refine ⟨k + 1, most, [], by have := HG.out; omega, by omega, by go_num, by go_num, Px.hid ⟨HL.out.1, ?_, Nat.zero_le _, HN.out.2.2.2.1, nofun, .inl rfl⟩⟩
          rw [HN.out.2.2.2.2, ← hp]
          rfl
        ·rw [hlf] at HL HGL
         obtain ⟨g2, c2, rfl, hc1, hc2, hcell, hfz, hg2⟩ := HL.out.1.top
         unfold maxLen at hc2
         clear hlf
         by_cases hc0 : ci = 0
         ·subst hc0
          go_wp2
          go_roundg (rs.length + 1)
          case measure => have := HGL.out; simp at this; omega
          case rel => exact ⟨rs, by omega, by go_num, Px.hid ⟨HL.out.1.pop, HL.out.2.1, Nat.le_of_succ_le HL.out.2.2.1, fun c hc => HL.out.2.2.2 c (by simp [hc])⟩⟩
         ·have hcz : ((ci : Int) == 0) = false := by simpa using hc0
          have HC := Px.hid hc0
          clear hc0
          go_wp2
          go_roundg g'
          case measure => omega
          case rel =>
           have hp := HL.out.2.1
           have e : E7.pops (ci :: rs) = ci :: rs := by unfold E7.pops; rw [if_neg HC.out]
           refine ⟨k + 1, most, ci :: rs, by have := HG.out; omega, by omega, by go_num, by go_num, Px.hid ⟨HL.out.1, ?_, ?_, HN.out.2.2.2.1, HL.out.2.2.2, .inr ⟨ci - 1, rs, by rw [Nat.sub_add_cancel (Nat.one_le_iff_ne_zero.2 HC.out)]⟩⟩⟩
           ·rw [HN.out.2.2.2.2, ← hp, e]
            rfl
           ·have := HL.out.2.2.1; have := HN.out.2.1; omega
      | some n2 =>
       have HQ2 := Px.hid (show E7.shape true l [] 0 = E7.shape false (l.drop (k + 1)) (E7.pops (n2 :: ((c - 1) :: rest))) (max most (rest.length + 1 + 1)) by have := HQ.out; rw [hh] at this; exact this)
       have HH := Px.hid (And.intro hh True.intro)
       rw [hh] at HPH
       go_wp2_with fail
       refine (HPH.out _).mono ?_
       rintro e w2 ⟨rfl, hs2⟩
       have HS3 := Px.hid (show Nums w w2 (.slice (some ⟨g, 0, none⟩) (rest.length + 1) gc) ((c - 1) :: rest) from HS2.out.sm hs2)
       clear hs2 y0 y1 y2 hh HQ
       have hown : w2.ownsRow 0 60 1 (.slice (some ⟨g, 0, none⟩) (rest.length + 1) gc) (rest.length + 1) ((((c - 1) :: rest) : List Nat).reverse.flatMap cNum) := by
        have := HS3.out.own
        unfold Owns at this
        rw [List.length_reverse] at this
        exact this
       obtain ⟨RL, hRL⟩ : ∃ RL, RL = (((c - 1) :: rest) : List Nat).reverse.flatMap cNum := ⟨_, rfl⟩
       rw [← hRL] at hown
       have HO := Px.hid hown
       have HRL := Px.hid hRL
       clear hown hRL
       have hn2 := holds_le HH.out.1
       go_wp2_with (at_builtin; go_must (refine wpList_append_lies _ rfl _ _ _ rfl 0 60 i0 _ 1 8 Tryd.underlying133 hi0 hz0 hz1 hz2 rfl (by omega) (.slice (some ⟨g, 0, none⟩) (rest.length + 1) gc) (rest.length + 1) RL rfl (HO.out.alloc _) ⟨w2.heap.size, 0, none⟩ 1 1 [.int .u64 (n2 : Nat)] rfl rfl (World.news_of_block (cs := #[.int .u64 (n2 : Nat)]) (t := 60) (fr := (0, 0)) (heap_alloc_new w2 _)) (by simp [Value.oneCell']) (by omega) (by unfold maxLen; omega) (by omega) (by omega) (w2.heap.size + 1) (by simp) ?_))
       intro gg cap WY hown1 hgrow hat hlt1
       rw [HRL.out] at hown1
       have HP := Px.hid (show Nums w WY (.slice (some ⟨gg, 0, none⟩) ((rest.length + 1) + 1) cap) (n2 :: ((c - 1) :: rest)) from Nums.push HS3.out hown1 (grown_alloc1 (w := w2) hgrow) (hat.imp id (fun e => by omega)))
       clear hown1 hgrow hat
       have HN := Px.hid (And.intro HP.out (And.intro (show ((n2 :: ((c - 1) :: rest)) : List Nat).length ≤ k + 1 by simp <;> omega) (And.intro (show ∀ c' ∈ ((n2 :: ((c - 1) :: rest)) : List Nat), c' ≤ 2199023255552 from (by intro c' hc'; simp at hc'; rcases hc' with rfl | rfl | hc'; exact hn2; exact Nat.le_trans (Nat.sub_le _ _) (HLK.out.2.2 c (by simp)); exact HLK.out.2.2 c' (by simp [hc']))) (And.intro (show (max most (rest.length + 1 + 1)) ≤ k + 1 by omega) (show E7.shape true l [] 0 = E7.shape false (l.drop (k + 1)) (E7.pops (n2 :: ((c - 1) :: rest))) (max most (rest.length + 1 + 1)) from HQ2.out)))))
       go_wp2
       obtain ⟨wo, rfl⟩ : ∃ wo : World, wo = WY := ⟨_, rfl⟩
       go_loopg [4, 11] ((n2 :: ((c - 1) :: rest)).length + 1) (fun gk2 v4 t11 w2 => ∃ lf : List Nat, lf.length < gk2 ∧ t11 = .int .i64 (lf.length : Nat) ∧ Hid (Nums w w2 v4 lf ∧ E7.pops lf = E7.pops (n2 :: ((c - 1) :: rest)) ∧ lf.length ≤ (n2 :: ((c - 1) :: rest)).length ∧ ∀ c ∈ lf, c ≤ 2199023255552))
       case atStart => exact ⟨(n2 :: ((c - 1) :: rest)), by omega, rfl, Px.hid ⟨HN.out.1, rfl, Nat.le_refl _, HN.out.2.2.1⟩⟩
       case round =>
        obtain ⟨lf, hgl, rfl, HL⟩ := hrel
        have HGL := Px.hid hgl
        clear hgl
        have hkm : (k : Int) < 9223372036854775807 := by omega
        rcases hlf : lf with _ | ⟨ci, rs⟩
        ·rw [hlf] at HL
         obtain ⟨a2, c2, hv2⟩ := HL.out.1.len
         subst hv2
         clear hlf HGL
         go_wp2
         go_roundg g'
         case measure => omega
         case rel =>
          have hp : E7.pops ([] : List Nat) = E7.pops (n2 :: ((c - 1) :: rest)) := by first | exact HL.out.2.1 | rfl
          refine ⟨k + 1, (max most (rest.length + 1 + 1)), [], by have := HG.out; omega, by omega, by go_num, by go_num, Px.hid ⟨HL.out.1, ?_, Nat.zero_le _, HN.out.2.2.2.1, nofun, .inl rfl⟩⟩
          rw [HN.out.2.2.2.2, ← hp]
          rfl
        ·rw [hlf] at HL HGL
         obtain ⟨g2, c2, rfl, hc1, hc2, hcell, hfz, hg2⟩ := HL.out.1.top
         unfold maxLen at hc2
         clear hlf
         by_cases hc0 : ci = 0
         ·subst hc0
          go_wp2
          go_roundg (rs.length + 1)
          case measure => have := HGL.out; simp at this; omega
          case rel => exact ⟨rs, by omega, by go_num, Px.hid ⟨HL.out.1.pop, HL.out.2.1, Nat.le_of_succ_le HL.out.2.2.1, fun c hc => HL.out.2.2.2 c (by simp [hc])⟩⟩
         ·have hcz : ((ci : Int) == 0) = false := by simpa using hc0
          have HC := Px.hid hc0
          clear hc0
          go_wp2
          go_roundg g'
          case measure => omega
          case rel =>
           have hp := HL.out.2.1
           have e : E7.pops (ci :: rs) = ci :: rs := by unfold E7.pops; rw [if_neg HC.out]
           refine ⟨k + 1, (max most (rest.length + 1 + 1)), ci :: rs, by have := HG.out; omega, by omega, by go_num, by go_num, Px.hid ⟨HL.out.1, ?_, ?_, HN.out.2.2.2.1, HL.out.2.2.2, .inr ⟨ci - 1, rs, by rw [Nat.sub_add_cancel (Nat.one_le_iff_ne_zero.2 HC.out)]⟩⟩⟩
           ·rw [HN.out.2.2.2.2, ← hp, e]
            rfl
           ·have := HL.out.2.2.1; have := HN.out.2.1; omega
  ·have hlz : ¬ (k : Int) < (l.length : Int) := by omega
   have hke : k = l.length := by omega
   obtain ⟨la, lc, hv4⟩ := HS.out.nums.len
   subst hv4
   have HR := Px.hid (show shapeV l = (most, !l.isEmpty && left.isEmpty) by
    unfold shapeV
    rw [HS.out.eq, hke, List.drop_length]
    rfl)
   clear hke
   have hll : 0 < (l.length : Int) ∨ l.length = 0 := by omega
   have HLL := Px.hid (And.intro (strEmptyA l) (strEmptyN left))
   rcases HLL.out.1 with ⟨e1, e2⟩ | ⟨e1, e2⟩
   ·have HE := Px.hid e1
    clear e1
    go_wp2
    go_ret2
    rw [HR.out, HE.out]
    exact ⟨rfl, HS.out.nums.same⟩
   ·rcases HLL.out.2 with ⟨f1, f2⟩ | ⟨f1, f2⟩
    ·have HE := Px.hid (And.intro e1 f1)
     clear e1 f1
     go_wp2
     go_ret2
     rw [HR.out, HE.out.1, HE.out.2]
     exact ⟨rfl, HS.out.nums.same⟩
    ·have HE := Px.hid (And.intro e1 f1)
     clear e1 f1
     have hn0 : ((left.length : Int) == 0) = false := beq_eq_false_iff_ne.2 (by omega)
     go_wp2
     go_ret2
     rw [HR.out, HE.out.1, HE.out.2]
     exact ⟨rfl, HS.out.nums.same⟩
end Go.Proofs.YtddiabaagpmkgaaDoor

/-! The walk over the program's cbor.Encode. -/
namespace Go.Proofs.YtddiabaagpmkgaaDoor
open Go.RowKit Go.Px Go.Px.R7

/-! Encode's ways, plain -/
theorem encode_many {l : List Atom} (h : 4096 < l.length) : E7.encode l = ([], 10) := by unfold E7.encode; rw [if_pos h]
theorem encode_form {l : List Atom} (h0 : l.length ≤ 4096) (h : (shapeV l).2 = false) : E7.encode l = ([], 9) := by
 unfold E7.encode
 rw [if_neg (by omega)]
 unfold shapeV at h
 cases hs : E7.shape true l [] 0 with
 | none => rfl
 | some r =>
  obtain ⟨m, left⟩ := r
  rw [hs] at h
  simp only at h ⊢
  rw [if_pos (by cases he : l.isEmpty <;> simp [he] at h ⊢; exact h)]
theorem shapeV_ok {l : List Atom} (h : (shapeV l).2 = true) : E7.shape true l [] 0 = some ((shapeV l).1, []) ∧ l ≠ [] := by
 unfold shapeV at h ⊢
 cases hs : E7.shape true l [] 0 with
 | none => rw [hs] at h; cases h
 | some r =>
  obtain ⟨m, left⟩ := r
  rw [hs] at h
  simp only [Bool.and_eq_true, Bool.not_eq_true', List.isEmpty_iff] at h
  obtain ⟨h1, h2⟩ := h
  subst h2
  exact ⟨rfl, by rintro rfl; simp at h1⟩
theorem encode_deep {l : List Atom} (h0 : l.length ≤ 4096) (h : (shapeV l).2 = true) (h32 : 32 < (shapeV l).1) : E7.encode l = ([], 10) := by
 obtain ⟨h1, h2⟩ := shapeV_ok h
 unfold E7.encode
 rw [if_neg (by omega), h1]
 simp only
 rw [if_neg (by simpa using h2), if_pos h32]
theorem encode_long {l : List Atom} (h0 : l.length ≤ 4096) (h : (shapeV l).2 = true) (h32 : ¬ 32 < (shapeV l).1) (hb : 262144 < (E7.encB l).length) : E7.encode l = ([], 10) := by
 obtain ⟨h1, h2⟩ := shapeV_ok h
 unfold E7.encode
 rw [if_neg (by omega), h1]
 simp only
 rw [if_neg (by simpa using h2), if_neg h32, if_pos hb]
theorem encode_read {l : List Atom} (h0 : l.length ≤ 4096) (h : (shapeV l).2 = true) (h32 : ¬ 32 < (shapeV l).1) (hb : ¬ 262144 < (E7.encB l).length) : E7.encode l = if (R7.decode (E7.encB l) E7.encLim).2.2 = 0 then (E7.encB l, 0) else ([], 9) := by
 obtain ⟨h1, h2⟩ := shapeV_ok h
 unfold E7.encode
 rw [if_neg (by omega), h1]
 simp only
 rw [if_neg (by simpa using h2), if_neg h32, if_neg hb]
theorem encB_take (l : List Atom) (k : Nat) (hk : k < l.length) : E7.encB (l.take (k + 1)) = E7.encB (l.take k) ++ E7.atomB l[k] := by
 rw [List.take_succ_eq_append_getElem hk, E7.encB_app, E7.encB_one]
theorem encB_part (l : List Atom) (k : Nat) : (E7.encB (l.take k)).length ≤ (E7.encB l).length := by
 conv => rhs; rw [← List.take_append_drop k l]
 rw [E7.encB_app, List.length_append]
 omega
theorem atomB_text (a : Atom) : a.text.length + 1 ≤ (E7.atomB a).length := by
 unfold E7.atomB
 rw [List.length_append, E7.headB_size]
 have := E7.one_le_size (if (a.kind == 2 || a.kind == 3) = true then a.text.length else a.num)
 omega
theorem kind23 (k : Nat) : (((k : Nat) : Int) == 2 || ((k : Nat) : Int) == 3) = (k == 2 || k == 3) := by
 rw [Bool.eq_iff_iff]
 simp only [Bool.or_eq_true, beq_iff_eq]
 omega
/-- What a head tells of an item. -/
def headN (a : Atom) : Nat := if a.kind == 2 || a.kind == 3 then a.text.length else a.num
theorem bytes_S (l : Bytes) : byteCells ⟨l.toArray⟩ = l.flatMap cByte := by
 unfold byteCells
 induction l with
 | nil => rfl
 | cons a t ih => simpa [cByte] using ih
theorem Grown.app {w w1 w2 : World} {v v1 : Value} {l t : Bytes} {g cap : Nat} (h : Grown w v l v1 w1) (hown : w2.ownsRow 0 5 1 (.slice (some ⟨g, 0, none⟩) (l.length + t.length) cap) (l.length + t.length) (l.flatMap cByte ++ t.flatMap cByte))
  (hg : w1.grownBy w2 v1.ownBlock) (hat : v1.ownBlock = some g ∨ g = w1.heap.size) : Grown w v (l ++ t) (.slice (some ⟨g, 0, none⟩) (l.length + t.length) cap) w2 := by
 refine h.trans ⟨?_, Fr.grown (Fr.refl _ w1) hg (fun k e => .inl e), fun g' hg' => ?_⟩
 ·unfold Owns
  rw [List.length_append, List.flatMap_append]
  exact hown
 ·simp only [Value.ownBlock, Option.some.injEq] at hg'
  subst hg'
  exact hat.imp id (fun e => by omega)

/-- What an encoding hands back. -/
def Tells (w : World) (d : Bytes × Int) (r : Ending) (w' : World) : Prop := r = .returned (.tuple #[S d.1, .int .i64 d.2]) ∧ Same w w'
theorem tells_of {w w' : World} {d : Bytes × Int} {r : Ending} {s : Bytes} {e : Int} (h : d = (s, e)) (hr : r = .returned (.tuple #[S s, .int .i64 e])) (hs : Same w w') : Tells w d r w' := by
 subst h; exact ⟨hr, hs⟩
set_option maxRecDepth 100000 in
set_option maxHeartbeats 4000000 in
theorem encode_any (v : Value) (l : List Atom) (w : World) (h : Lies w 3 cAtom v l) (hw : ∀ a ∈ l, a.num < 18446744073709551616 ∧ a.text.length ≤ 9223372036854775807) (hT : Tabs w) :
  Calls Tryd.prog 28 #[v] w (Tells w (E7.encode l)) := by
 obtain ⟨va, vc, hv, hv1, hv2⟩ := h.slice
 subst hv
 have hvm : l.length ≤ 9223372036854775807 := by unfold maxLen at hv2; omega
 have H := Px.hid (And.intro h (And.intro hw hT))
 clear h hw hT hv2
 by_cases hmany : 4096 < l.length
 ·have hz : (4096 : Int) < (l.length : Int) := by omega
  have HR := Px.hid (encode_many hmany)
  clear hmany
  go_enter Tryd.func28, Tryd.ntmps28
  go_wp2
  go_ret2
  exact tells_of HR.out rfl (Same.refl w)
 ·have hz : ¬ (4096 : Int) < (l.length : Int) := by omega
  have hl : l.length ≤ 4096 := by omega
  clear hmany
  obtain ⟨i0, hi0, hz0, hz1, hz2⟩ := info_parts Tryd.infoU8
  have hsh := pshape_any _ l w H.out.1 hl (fun a ha => (H.out.2.1 a ha).2) H.out.2.2
  obtain ⟨m, hm⟩ : ∃ m, m = (shapeV l).1 := ⟨_, rfl⟩
  rw [← hm] at hsh
  cases hok : (shapeV l).2
  ·rw [hok] at hsh
   have HSH := Px.hid (And.intro hsh (encode_form hl hok))
   clear hsh hok hm
   go_enter Tryd.func28, Tryd.ntmps28
   go_wp2_with fail
   refine HSH.out.1.mono ?_
   rintro e w1 ⟨rfl, hs⟩
   have HS := Px.hid hs
   clear hs
   go_wp2
   go_ret2
   exact tells_of HSH.out.2 rfl HS.out
  ·rw [hok] at hsh
   by_cases h32 : 32 < m
   ·have hz32 : (32 : Int) < (m : Int) := by omega
    have HSH := Px.hid (And.intro hsh (encode_deep hl hok (by rw [← hm]; exact h32)))
    clear hsh hok hm h32
    go_enter Tryd.func28, Tryd.ntmps28
    go_wp2_with fail
    refine HSH.out.1.mono ?_
    rintro e w1 ⟨rfl, hs⟩
    have HS := Px.hid hs
    clear hs
    go_wp2
    go_ret2
    exact tells_of HSH.out.2 rfl HS.out
   ·have hz32 : ¬ (32 : Int) < (m : Int) := by omega
    have HSH := Px.hid (And.intro hsh (And.intro (shapeV_ok hok) (And.intro (encode_long hl hok (by rw [← hm]; exact h32)) (encode_read hl hok (by rw [← hm]; exact h32)))))
    clear hsh hok hm h32
    go_enter Tryd.func28, Tryd.ntmps28
    go_wp2_with fail
    refine HSH.out.1.mono ?_
    rintro e w1 ⟨rfl, hs⟩
    have HS := Px.hid hs
    clear hs
    go_wp2
    go_loopg [6, 28] (l.length + 1) (fun gk v6 i wr => ∃ k : Nat, gk + k = l.length + 1 ∧ k ≤ l.length ∧ i = .int .i64 (k : Nat) ∧ Hid (Owns wr 5 1 cByte v6 (E7.encB (l.take k)) ∧ Same w wr ∧ (∀ g, v6.ownBlock = some g → w.heap.size ≤ g) ∧ (E7.encB (l.take k)).length ≤ 262144))
    case atStart => exact ⟨0, rfl, Nat.zero_le _, rfl, Px.hid ⟨owns_nil _ _ _ _, HS.out, nofun, by simp [E7.encB]⟩⟩
    case round =>
     obtain ⟨k, hgk, hk, rfl, HL⟩ := hrel
     have HG := Px.hid hgk
     clear hgk HS
     by_cases hlt : k < l.length
     ·have hlz : (k : Int) < (l.length : Int) := by omega
      obtain ⟨g', rfl⟩ : ∃ g', gk = g' + 1 := ⟨gk - 1, by have := HG.out; omega⟩
      obtain ⟨xb, xo, xc, hve, hxb, hcx⟩ := (Lies.same H.out.1 HL.out.2.1).cell k l[k] (by simp [hlt])
      simp only [Value.slice.injEq, true_and] at hve
      obtain ⟨rfl, rfl⟩ := hve
      have x0 := hcx 0 _ rfl
      have x1 := hcx 1 _ rfl
      have x2 := hcx 2 _ rfl
      rw [← Nat.add_assoc] at x0 x1 x2
      rw [Nat.add_zero] at x0
      obtain ⟨x, hx⟩ : ∃ x, x = l[k] := ⟨_, rfl⟩
      have htk := encB_take l k hlt
      rw [← hx] at x0 x1 x2 htk
      have hmem : x ∈ l := by rw [hx]; exact List.getElem_mem _
      obtain ⟨hxn, hxl⟩ := H.out.2.1 x hmem
      obtain ⟨kd, hkd, hk8⟩ := E7.right_kind (E7.shape_right l _ _ _ _ HSH.out.2.1.1 x hmem)
      have hat := atomB_text x
      rw [hkd] at x0
      have hsz : (ByteArray.mk x.text.toArray).size = x.text.length := size_S x.text
      have hpart := encB_part l (k + 1)
      rw [htk, List.length_append] at hpart
      have hnn : headN x < 18446744073709551616 := by unfold headN; split <;> omega
      have hae : E7.atomB x = R7.headB kd (headN x) ++ x.text := by unfold E7.atomB headN; rw [hkd]; rfl
      have HX := Px.hid (And.intro htk (And.intro hae (And.intro hpart (And.intro hat hkd))))
      clear hcx hx htk hae hpart hat hmem
      go_upto_region 12 with fail
      obtain ⟨WX, hWX⟩ : ∃ WX, WX = wr.alloc (.cells #[.int .i64 (kd : Nat), .int .u64 (x.num : Nat), .string ⟨x.text.toArray⟩] 62 (0, 0)) := ⟨_, rfl⟩
      rw [← hWX]
      have hsX : Same wr WX := by rw [hWX]; exact (Same.refl wr).alloc _
      have hbX : WX.heap[wr.heap.size]? = some (.cells #[.int .i64 (kd : Nat), .int .u64 (x.num : Nat), S x.text] 62 (0, 0)) := by rw [hWX]; exact heap_alloc_new wr _
      have y0 := cellOf hbX 0 rfl
      have y1 := cellOf hbX 1 rfl
      have y2 := cellOf hbX 2 rfl
      have HW := Px.hid (And.intro hsX hbX)
      have hwl : wr.heap.size < WX.heap.size := ltOf hbX
      clear hWX hsX hbX x0 x1 x2
      have hk3 : kd = 2 ∨ kd = 3 ∨ (((kd : Int) == 2) = false ∧ ((kd : Int) == 3) = false ∧ (kd == 2 || kd == 3) = false) := by
       by_cases e2 : kd = 2
       ·exact .inl e2
       ·by_cases e3 : kd = 3
        ·exact .inr (.inl e3)
        ·exact .inr (.inr ⟨beq_eq_false_iff_ne.2 (by omega), beq_eq_false_iff_ne.2 (by omega), by simp [e2, e3]⟩)
      have HK3 := Px.hid hk3
      clear hk3
      obtain ⟨B, hB⟩ : ∃ B, B = (kd == 2 || kd == 3) := ⟨_, rfl⟩
      have HB := Px.hid hB
      clear hB
      go_upto_region 13 with fail
      go_cut [41] (fun t41 wx => t41 = .bool B ∧ wx = WX)
      case first =>
       rcases HK3.out with e | e | ⟨e2, e3, e⟩
       ·have HBe := HB.out
        subst e
        go_wp2_with fail
        go_meet
        rw [HBe]
        exact ⟨rfl, rfl⟩
       ·have HBe := HB.out
        subst e
        go_wp2_with fail
        go_meet
        rw [HBe]
        exact ⟨rfl, rfl⟩
       ·have HBe := Px.hid (HB.out.trans e)
        clear e
        go_wp2_with fail
        go_meet
        rw [HBe.out]
        exact ⟨rfl, rfl⟩
      case rest =>
       obtain ⟨rfl, hwc⟩ := hcut
       subst hwc
       have hlen64 : (x.text.length : Int) ≤ 9223372036854775807 := by omega
       go_upto_if 41 with fail
       go_cut [9] (fun t9 wx => t9 = .int .u64 (headN x : Nat) ∧ wx = wc)
       case first =>
        cases B
        ·have HN := Px.hid (show headN x = x.num by unfold headN; rw [HX.out.2.2.2.2, show (((kd : Nat) : Int) == 2 || ((kd : Nat) : Int) == 3) = (kd == 2 || kd == 3) from kind23 kd, ← HB.out]; rfl)
         go_wp2_with fail
         go_meet
         rw [HN.out]
         exact ⟨rfl, rfl⟩
        ·have HN := Px.hid (show headN x = x.text.length by unfold headN; rw [HX.out.2.2.2.2, show (((kd : Nat) : Int) == 2 || ((kd : Nat) : Int) == 3) = (kd == 2 || kd == 3) from kind23 kd, ← HB.out]; rfl)
         go_wp2_with fail
         go_meet
         rw [HN.out]
         exact ⟨rfl, rfl⟩
       case rest =>
        obtain ⟨rfl, hwc2⟩ := hcut
        subst hwc2
        by_cases hbig : 262144 < x.text.length
        ·have hbz : (262144 : Int) < (x.text.length : Int) := by omega
         have HR := Px.hid (HSH.out.2.2.1 (by have := HX.out.2.2.1; have := HX.out.2.2.2.1; omega))
         have HS := Px.hid (HL.out.2.1.trans HW.out.1)
         clear hbig
         go_wp2
         go_ret2
         exact tells_of HR.out rfl HS.out
        ·have hbz : ¬ (262144 : Int) < (x.text.length : Int) := by omega
         obtain ⟨LH, hLH⟩ : ∃ LH, LH = E7.encB (l.take k) ++ R7.headB kd (headN x) := ⟨_, rfl⟩
         have hph := phead_any kd (headN x) hk8 u6 (E7.encB (l.take k)) (by have := HL.out.2.2.2; omega) hnn wc.drew (Owns.drew (Owns.same HL.out.1 HW.out.1))
         rw [← hLH] at hph
         have hlh0 : 0 < LH.length := by rw [hLH, List.length_append, E7.headB_size]; have := E7.one_le_size (headN x); omega
         have hlh1 : LH.length ≤ 300000 := by
          have h1 := HL.out.2.2.2
          rw [hLH, List.length_append, E7.headB_size]
          have h2 := (E7.infoOf_lt (headN x) hnn).2
          have h3 : 2 ^ infoOf (headN x) ≤ 2 ^ 3 := Nat.pow_le_pow_right (by omega) h2
          split <;> omega
         have hsrc : ∀ W, Src Tryd.prog 1 9 (S x.text) x.text.length (x.text.flatMap cByte) W := fun W => by
          have := Src.ofString (P := Tryd.prog) (w := W) Tryd.underlying9 ⟨x.text.toArray⟩
          rw [size_S, bytes_S] at this
          exact this
         have hnot : ¬ u6.ownBlock = some wr.heap.size := fun e => by have := HL.out.1.lt e; omega
         have HPH := Px.hid (And.intro hph (And.intro hsrc (And.intro hnot hLH)))
         clear hph hbig hLH hsrc hnot
         go_upto_region 17 with fail
         go_cut [6] (fun t6 wx => Grown wc.drew u6 (E7.encB (l.take (k + 1))) t6 wx)
         case first =>
          go_region_law (first
           | (refine step_append_src (by rfl) _ _ 75 9 (by rfl) 5 i0 _ 1 1 Tryd.underlying75 hi0 hz0 hz1 hz2 rfl (.slice ga LH.length gc) LH.length (LH.flatMap cByte) (by rfl) HGR.out.1 (S x.text) x.text.length (x.text.flatMap cByte) (by rfl) (HPH.out.2.1 _) hlh0 (by unfold maxLen; omega) (by omega) ?_; intro gg cap w3 hown3 hgrow3 hat3)
           | (go_simp; go_at_call 48; refine HPH.out.1.mono ?_; rintro e w2 ⟨v2, rfl, hg⟩; obtain ⟨ga, gc, hgv, _⟩ := hg.1.len; subst hgv; have z2 := (hg.2.1.cell (p := ⟨wr.heap.size, 2, none⟩) hwl HPH.out.2.2.1).trans y2; have HGR := Px.hid hg; clear hg))
          all_goals
           go_wp2_with fail
           go_meet
           have := Grown.app HGR.out hown3 hgrow3 hat3
           rw [HX.out.1, HX.out.2.1, ← List.append_assoc, ← HPH.out.2.2.2]
           exact this
         case rest =>
          have HGC := Px.hid hcut
          obtain ⟨ga, gc, hgv, _⟩ := hcut.1.len
          rename_i t6 _
          subst hgv
          clear hcut y0 y1 y2
          have hsm : Same w wc := Fr.toSame (F := fun k => u6.ownBlock = some k) (Fr.trans (Fr.drew ((HL.out.2.1.trans HW.out.1).fr _)) HGC.out.2.1 (fun _ _ e => e)) (fun k e => HL.out.2.2.1 k e)
          have HSM := Px.hid hsm
          clear hsm
          obtain ⟨ln, hln⟩ : ∃ ln, ln = (E7.encB (l.take (k + 1))).length := ⟨_, rfl⟩
          rw [← hln] at HGC ⊢
          have hpt := encB_part l (k + 1)
          rw [← hln] at hpt
          have HLN := Px.hid hln
          clear hln
          by_cases hov : 262144 < ln
          ·have hoz : (262144 : Int) < (ln : Int) := by omega
           have HR := Px.hid (HSH.out.2.2.1 (by omega))
           clear hov hpt
           go_wp2
           go_ret2
           exact tells_of HR.out rfl HSM.out
          ·have hoz : ¬ (262144 : Int) < (ln : Int) := by omega
           clear hpt
           go_wp2
           go_roundg g'
           case measure => omega
           case rel =>
            refine ⟨k + 1, by have := HG.out; omega, by omega, by go_num, Px.hid ⟨HGC.out.1, HSM.out, fun g hg => ?_, by rw [← HLN.out]; omega⟩⟩
            rcases HGC.out.2.2 g hg with e | e
            ·exact HL.out.2.2.1 g e
            ·exact Nat.le_trans (HL.out.2.1.trans HW.out.1).size e
     ·have hlz : ¬ (k : Int) < (l.length : Int) := by omega
      have hke : k = l.length := by omega
      subst hke
      rw [List.take_length] at HL
      obtain ⟨la, lc, hv6, _⟩ := HL.out.1.len
      subst hv6
      have hstr := Owns.str HL.out.1
      have HD := Px.hid (decode_any (E7.encB l) E7.encLim (by have := HL.out.2.2.2; omega) wr (H.out.2.2.same HL.out.2.1))
      have HR := Px.hid (HSH.out.2.2.2 (by have := HL.out.2.2.2; omega))
      clear HG hlt hlz hk
      obtain ⟨d, hd⟩ : ∃ d, d = R7.decode (E7.encB l) E7.encLim := ⟨_, rfl⟩
      rw [← hd] at HD HR
      clear hd
      go_wp2_with fail
      refine HD.out.mono ?_
      rintro e w2 ⟨vo, rfl, hvo, hs2, _⟩
      have HS2 := Px.hid (HL.out.2.1.trans hs2)
      clear hvo hs2 hstr
      by_cases he : d.2.2 = 0
      ·have hb : (d.2.2 != 0) = false := by simp [he]
       have HRR := Px.hid (show E7.encode l = (E7.encB l, 0) by rw [HR.out, if_pos he])
       clear he
       go_wp2
       go_ret2
       exact tells_of HRR.out rfl HS2.out
      ·have hb : (d.2.2 != 0) = true := by simp [he]
       have HRR := Px.hid (show E7.encode l = ([], 9) by rw [HR.out, if_neg he])
       clear he
       go_wp2
       go_ret2
       exact tells_of HRR.out rfl HS2.out
end Go.Proofs.YtddiabaagpmkgaaDoor

/-! A decoding of layer 17 as it lies. -/
namespace Go.Proofs.YtddiabaagpmkgaaDoor
open Go.RowKit Go.Px Go.Px.R7
theorem encB_mem {l : List Atom} {a : Atom} (h : a ∈ l) : a.text.length ≤ (E7.encB l).length := by
 induction l with
 | nil => cases h
 | cons b t ih =>
  rw [E7.encB_cons, List.length_append]
  rcases List.mem_cons.1 h with rfl | h
  ·have := atomB_text a; omega
  ·have := ih h; omega
/-- A decoding's list, as it lies. -/
theorem Gives.len {w w' : World} {d : List Atom × Int × Int} {r : Ending} (h : Gives w d r w') : ∃ a c, r = .returned (.tuple #[.slice a d.1.length c, .int .i64 d.2.1, .int .i64 d.2.2]) ∧ Owns w' 62 3 cAtom (.slice a d.1.length c) d.1 ∧ Same w w' := by
 obtain ⟨vo, rfl, h1, h2, _⟩ := h
 obtain ⟨a, c, hv, _⟩ := h1.len
 subst hv
 exact ⟨a, c, rfl, h1, h2⟩
/-- What was there stands, and the tables. -/
structure On (w w' : World) (b : Nat) (lim : Lim) : Prop where
 lim : LimIn w w' b lim
 tabs : Tabs w'
theorem On.sm {w w1 w2 : World} {b : Nat} {lim : Lim} (h : On w w1 b lim) (hs : Same w1 w2) : On w w2 b lim := ⟨h.lim.same hs, h.tabs.same hs⟩
theorem On.boxed {w : World} (lim : Lim) (h : Tabs w) : On w (w.alloc (.cells #[.int .i64 lim.d, .int .i64 lim.i, .int .i64 lim.b, .int .i64 lim.r] 23 (0, 0))) w.heap.size lim := ⟨LimIn.boxed w lim, h.lim (LimIn.boxed w lim)⟩
end Go.Proofs.YtddiabaagpmkgaaDoor
