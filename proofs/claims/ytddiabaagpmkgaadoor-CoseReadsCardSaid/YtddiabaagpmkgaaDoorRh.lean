/-
  The walk over the reference's Head (layer 17).
-/
import Derived.Test.YtddiabaagpmkgaaDoorRd
import Derived.Test.YtddiabaagpmkgaaDoorStr
import Derived.Test.YtddiabaagpmkgaaDoorUtfW
import Derived.Test.YtddiabaagpmkgaaDoorGcB
import Derived.Test.YtddiabaagpmkgaaDoorR7E
namespace Go.Proofs.YtddiabaagpmkgaaDoor
open Go.RowKit Go.Px Go.Px.R7

theorem infoOf_le (n : Nat) : infoOf n ≤ 3 := by
  unfold infoOf; repeat' split
  all_goals omega

/-- A new string of bytes of the call's own: what it holds. -/
theorem Owns.str {w : World} {v : Value} {l : List UInt8} (h : Owns w 5 1 cByte v l) : (convert 75 9 v).run Tryd.prog w = .ok (S l) w := by
  obtain ⟨sv, hs, hc⟩ := h.bytesTo (P := Tryd.prog) (p := 0) (Nat.zero_le _) (t := 75) (dst := 9) (by kernel_rfl) (by kernel_rfl) (by kernel_rfl) Tryd.sizeU8
  have hc0 := hc 0
  have hs0 := hs w
  rcases h.2 with ⟨rfl, h0⟩ | ⟨g, cap, cur, rfl, _, hg, hc1, hc2, _⟩
  · rw [run_convert_bytes_nil _ 75 5 Tryd.underlying75 Tryd.underlying5 0 0 9 Tryd.underlying9, List.length_eq_zero_iff.1 h0]
    rfl
  · have hcell : ∀ j, (hj : j < l.length) → w.cell? ⟨g, 0 + j, none⟩ = some (.int .u8 (l[j].toNat)) := by
      intro j hj
      obtain ⟨g', cap', hv, _, _, hc, _⟩ := h.at cByte_len (j := j) (a := l[j]) (by simp [hj])
      simp only [Value.slice.injEq, Option.some.injEq, Addr.mk.injEq, and_true, true_and] at hv
      obtain ⟨rfl, rfl⟩ := hv
      have := hc 0 _ rfl
      simpa using this
    rw [run_convert_bytes_arg w 75 5 Tryd.underlying75 Tryd.underlying5 g 0 l.length cap (l.map fun c => ((c.toNat : Nat) : Int)) (by simp) ?_ 9 Tryd.underlying9, strOf_bytes]
    intro i hi
    rw [hcell i hi]
    simp [List.getD, hi]

theorem owns_one (w : World) (c : Nat) (hc : c < 256) : Owns (w.alloc (.cells #[.int .u8 (c : Int)] 5 (0, 0))) 5 1 cByte (.slice (some ⟨w.heap.size, 0, none⟩) 1 1) [UInt8.ofNat c] := by
  refine ⟨rfl, .inr ⟨w.heap.size, 1, #[.int .u8 (c : Int)], rfl, Nat.zero_le _, heap_alloc_new w _, Nat.le_refl _, by unfold maxLen; omega, rfl, ?_⟩⟩
  have : (UInt8.ofNat c).toNat = c := by simp; omega
  simp [cByte, this]
theorem info_1 (n : Nat) : (256 : Int) ≤ n ↔ 1 ≤ infoOf n := by
  unfold infoOf; repeat' split
  all_goals omega
theorem info_2 (n : Nat) : (65536 : Int) ≤ n ↔ 2 ≤ infoOf n := by
  unfold infoOf; repeat' split
  all_goals omega
theorem info_3 (n : Nat) : (4294967296 : Int) ≤ n ↔ 3 ≤ infoOf n := by
  unfold infoOf; repeat' split
  all_goals omega
theorem grown_alloc1 {w w1 : World} {o : Obj} {row : Option Nat} (hg : (w.alloc o).grownBy w1 row) : w.grownBy w1 row :=
  ⟨hg.os, hg.tape, hg.output, by have := hg.size; simp at this; omega, fun k hk hne => (hg.block k (by simp; omega) hne).trans (Below.heap_alloc w o k hk)⟩
theorem one_byte (n : Nat) (h : n < 256) : [Value.int .u8 (n : Int)] = cByte (UInt8.ofNat (n / 256 ^ 0)) := by
  have : (UInt8.ofNat n).toNat = n := by simp; omega
  simp [cByte, this]
theorem headB_far (k n : Nat) (h : ¬ n < 24) : headB k n = UInt8.ofNat (32 * k + 24 + infoOf n) :: beBytes n (2 ^ infoOf n) := by unfold headB; rw [if_neg h]

set_option maxRecDepth 100000 in
set_option maxHeartbeats 2000000 in
theorem head17_any (k n : Nat) (w : World) (hk : k < 8) (hn : n < 18446744073709551616) :
    Calls Tryd.prog 33 #[.int .i64 (k : Nat), .int .u64 (n : Nat)] w fun e w' => e = .returned (S (headB k n)) ∧ Same w w' := by
  have HN := Px.hid hn
  by_cases h24 : n < 24
  · have hr : headB k n = [UInt8.ofNat (32 * k + n)] := by unfold headB; rw [if_pos h24]
    have hv : ((32 * k + n : Nat) : Int) = 32 * (k : Int) + n := by omega
    have hz : (n : Int) < 24 := by omega
    have hst := Owns.str (owns_one w (32 * k + n) (by omega))
    rw [hv, ← hr] at hst
    have hnn : (n : Int) ≤ 23 := by omega
    clear hr hv hn h24
    go_enter Tryd.func33, Tryd.ntmps33
    go_wp2
    go_ret
    exact ⟨rfl, (Fr.refl _ w).alloc _⟩
  · have hr := Px.hid (headB_far k n h24)
    have hz : ¬ (n : Int) < 24 := by omega
    have hi3 := infoOf_le n
    have h256 := info_1 n
    have h65536 := info_2 n
    have h4g := info_3 n
    obtain ⟨t, ht⟩ : ∃ t, t = infoOf n := ⟨_, rfl⟩
    rw [← ht] at hi3 h256 h65536 h4g hr
    have HT := Px.hid (And.intro ht (And.intro h256 (And.intro h65536 h4g)))
    clear hn h24 h256 h65536 h4g ht
    go_enter Tryd.func33, Tryd.ntmps33
    go_wp2
    go_loop [5, 6] (fun wd inf => ∃ j, j ≤ t ∧ (j = 0 ∧ wd = .int .i64 1 ∧ inf = .int .i64 24 ∨ j = 1 ∧ wd = .int .i64 2 ∧ inf = .int .i64 25 ∨ j = 2 ∧ wd = .int .i64 4 ∧ inf = .int .i64 26 ∨ j = 3 ∧ wd = .int .i64 8 ∧ inf = .int .i64 27)) (fun _ inf => 28 - (intOf inf).toNat)
    case atStart => exact ⟨0, Nat.zero_le _, .inl ⟨rfl, rfl, rfl⟩⟩
    case round =>
      obtain ⟨j, hj, h4⟩ := hrel
      rcases h4 with ⟨rfl, rfl, rfl⟩ | ⟨rfl, rfl, rfl⟩ | ⟨rfl, rfl, rfl⟩ | ⟨rfl, rfl, rfl⟩
      · by_cases hlt : 1 ≤ t
        · have hnz := HT.out.2.1.2 hlt
          go_wp2
          go_round
          case rel => exact ⟨1, hlt, .inr (.inl ⟨rfl, rfl, rfl⟩)⟩
          case measure => simp [intOf]
        · have hnz : ¬ (256 : Int) ≤ n := fun h => hlt (HT.out.2.1.1 h)
          have HB := Px.hid (show headB k n = [UInt8.ofNat (32 * k + 24)] ++ beBytes n 1 by rw [hr.out, show t = 0 by omega]; rfl)
          have hoo := owns_one w (32 * k + 24) (by omega)
          have hcc : ((32 * k + 24 : Nat) : Int) = 32 * (k : Int) + 24 := by omega
          rw [hcc] at hoo
          have HOO := Px.hid hoo
          clear hoo hcc HT
          go_wp2
          go_loopw [7, 8] (fun v i wr => ∃ (m : Nat) (L : Bytes), m ≤ 1 ∧ i = .int .i64 ((m : Int) - 1) ∧ L.length ≤ 10 - m ∧ Hid (Owns wr 5 1 cByte v L ∧ Same w wr ∧ (∀ g, v.ownBlock = some g → w.heap.size ≤ g) ∧ L ++ beBytes n m = headB k n)) (fun _ i _ => (intOf i + 1).toNat)
          case atStart => exact ⟨1, [UInt8.ofNat (32 * k + 24)], by omega, by go_num, by simp, Px.hid ⟨HOO.out, (Fr.refl _ w).alloc _, fun g hg => by simp [Value.ownBlock] at hg; omega, HB.out.symm⟩⟩
          case round =>
            clear HB HOO
            obtain ⟨m, L, hm1, rfl, hll, HO⟩ := hrel
            obtain ⟨va, vc, hvl, _⟩ := HO.out.1.len
            subst hvl
            by_cases hm0 : 1 ≤ m
            · have z1 : (0 : Int) ≤ (m : Int) - 1 := by omega
              have z2 : (1 : Int) ≤ (m : Int) := by omega
              obtain ⟨q, hq⟩ : ∃ q, q = m - 1 := ⟨_, rfl⟩
              have hsh : (n : Int) / 2 ^ (8 * (m - 1)) % 256 = ((n / 256 ^ q % 256 : Nat) : Int) := by
                have e : 8 * (m - 1) = 8 * q := by omega
                rw [e, show (256 : Nat) = 2 ^ 8 by rfl, ← Nat.pow_mul]
                push_cast
                rfl
              have hqb : beBytes n m = UInt8.ofNat (n / 256 ^ q) :: beBytes n q := by rw [show m = q + 1 by omega]; rfl
              have hqv : (UInt8.ofNat (n / 256 ^ q)).toNat = n / 256 ^ q % 256 := by simp
              have hq1 : ((m : Int) - 1) = (q : Int) := by omega
              obtain ⟨c, hc⟩ : ∃ c, c = UInt8.ofNat (n / 256 ^ q) := ⟨_, rfl⟩
              rw [← hc] at hqb hqv
              rw [← hqv] at hsh
              have HN1 := Px.hid (show [Value.int .u8 (n : Int)] = cByte c by rw [hc, show q = 0 by omega]; exact one_byte n (by omega))
              have HQ := Px.hid (And.intro hqb (And.intro hq hq1))
              clear hqb hqv hc hq hq1
              obtain ⟨i0, hi0, hz0, hz1, hz2⟩ := info_parts Tryd.infoU8
              have hown : wr.ownsRow 0 5 1 (.slice va L.length vc) L.length (L.flatMap cByte) := HO.out.1
              go_wp2_with (at_builtin; go_must (refine wpList_append_lies _ rfl _ _ _ rfl 0 5 i0 _ 1 1 Tryd.underlying75 hi0 hz0 hz1 hz2 rfl (by omega) (.slice va L.length vc) L.length (L.flatMap cByte) rfl (Owns.alloc HO.out.1 _) ⟨wr.heap.size, 0, none⟩ 1 1 [.int .u8 (n : Int)] rfl rfl (World.news_of_block (cs := #[.int .u8 (n : Int)]) (t := 5) (fr := (0, 0)) (heap_alloc_new wr _)) (by simp [Value.oneCell']) (by omega) (by unfold maxLen; omega) (by omega) (by omega) (wr.heap.size + 1) (by simp) ?_))
              intro gg cap w1 hown1 hgrow hat hlt
              rw [HN1.out] at hown1
              have HW := Px.hid (And.intro hown1 (And.intro (show wr.grownBy w1 (Value.slice va L.length vc).ownBlock from grown_alloc1 (w := wr) hgrow) hat))
              clear hown1 hgrow hat hown
              go_wp2
              go_roundw
              case rel =>
                refine ⟨q, L ++ [c], by have := HQ.out.2.1; omega, ?_, by have := HQ.out.2.1; simp; omega, Px.hid ⟨owns_append HW.out.1, Fr.grown HO.out.2.1 HW.out.2.1 (fun g e => .inr (HO.out.2.2.1 g e)), ?_, ?_⟩⟩
                · have := HQ.out.2.2; go_num
                · intro g hg
                  simp only [Value.ownBlock, Option.some.injEq] at hg
                  subst hg
                  rcases HW.out.2.2 with e | e
                  · exact HO.out.2.2.1 _ e
                  · have := HO.out.2.1.size; omega
                · rw [List.append_assoc, ← HO.out.2.2.2, HQ.out.1]; rfl
              case measure => simp [intOf]; omega
            · have z1 : ¬ (0 : Int) ≤ (m : Int) - 1 := by omega
              have z2 : ¬ (1 : Int) ≤ (m : Int) := by omega
              have hstr := Owns.str HO.out.1
              have HE := Px.hid (show L = headB k n by have := HO.out.2.2.2; rw [show m = 0 by omega] at this; simpa [beBytes] using this)
              go_wp2
              go_ret
              rw [HE.out]
              exact ⟨rfl, HO.out.2.1⟩
      · by_cases hlt : 2 ≤ t
        · have hnz := HT.out.2.2.1.2 hlt
          go_wp2
          go_round
          case rel => exact ⟨2, hlt, .inr (.inr (.inl ⟨rfl, rfl, rfl⟩))⟩
          case measure => simp [intOf]
        · have hnz : ¬ (65536 : Int) ≤ n := fun h => hlt (HT.out.2.2.1.1 h)
          have HB := Px.hid (show headB k n = [UInt8.ofNat (32 * k + 25)] ++ beBytes n 2 by rw [hr.out, show t = 1 by omega]; rfl)
          have hoo := owns_one w (32 * k + 25) (by omega)
          have hcc : ((32 * k + 25 : Nat) : Int) = 32 * (k : Int) + 25 := by omega
          rw [hcc] at hoo
          have HOO := Px.hid hoo
          clear hoo hcc HT
          go_wp2
          go_loopw [7, 8] (fun v i wr => ∃ (m : Nat) (L : Bytes), m ≤ 2 ∧ i = .int .i64 ((m : Int) - 1) ∧ L.length ≤ 10 - m ∧ Hid (Owns wr 5 1 cByte v L ∧ Same w wr ∧ (∀ g, v.ownBlock = some g → w.heap.size ≤ g) ∧ L ++ beBytes n m = headB k n)) (fun _ i _ => (intOf i + 1).toNat)
          case atStart => exact ⟨2, [UInt8.ofNat (32 * k + 25)], by omega, by go_num, by simp, Px.hid ⟨HOO.out, (Fr.refl _ w).alloc _, fun g hg => by simp [Value.ownBlock] at hg; omega, HB.out.symm⟩⟩
          case round =>
            clear HB HOO
            obtain ⟨m, L, hm1, rfl, hll, HO⟩ := hrel
            obtain ⟨va, vc, hvl, _⟩ := HO.out.1.len
            subst hvl
            by_cases hm0 : 1 ≤ m
            · have z1 : (0 : Int) ≤ (m : Int) - 1 := by omega
              have z2 : (1 : Int) ≤ (m : Int) := by omega
              obtain ⟨q, hq⟩ : ∃ q, q = m - 1 := ⟨_, rfl⟩
              have hsh : (n : Int) / 2 ^ (8 * (m - 1)) % 256 = ((n / 256 ^ q % 256 : Nat) : Int) := by
                have e : 8 * (m - 1) = 8 * q := by omega
                rw [e, show (256 : Nat) = 2 ^ 8 by rfl, ← Nat.pow_mul]
                push_cast
                rfl
              have hqb : beBytes n m = UInt8.ofNat (n / 256 ^ q) :: beBytes n q := by rw [show m = q + 1 by omega]; rfl
              have hqv : (UInt8.ofNat (n / 256 ^ q)).toNat = n / 256 ^ q % 256 := by simp
              have hq1 : ((m : Int) - 1) = (q : Int) := by omega
              obtain ⟨c, hc⟩ : ∃ c, c = UInt8.ofNat (n / 256 ^ q) := ⟨_, rfl⟩
              rw [← hc] at hqb hqv
              rw [← hqv] at hsh
              skip
              have HQ := Px.hid (And.intro hqb (And.intro hq hq1))
              clear hqb hqv hc hq hq1
              obtain ⟨i0, hi0, hz0, hz1, hz2⟩ := info_parts Tryd.infoU8
              have hown : wr.ownsRow 0 5 1 (.slice va L.length vc) L.length (L.flatMap cByte) := HO.out.1
              go_wp2_with (at_builtin; go_must (refine wpList_append_lies _ rfl _ _ _ rfl 0 5 i0 _ 1 1 Tryd.underlying75 hi0 hz0 hz1 hz2 rfl (by omega) (.slice va L.length vc) L.length (L.flatMap cByte) rfl (Owns.alloc HO.out.1 _) ⟨wr.heap.size, 0, none⟩ 1 1 [.int .u8 c.toNat] rfl rfl (World.news_of_block (cs := #[.int .u8 c.toNat]) (t := 5) (fr := (0, 0)) (heap_alloc_new wr _)) (by simp [Value.oneCell']) (by omega) (by unfold maxLen; omega) (by omega) (by omega) (wr.heap.size + 1) (by simp) ?_))
              intro gg cap w1 hown1 hgrow hat hlt
              skip
              have HW := Px.hid (And.intro hown1 (And.intro (show wr.grownBy w1 (Value.slice va L.length vc).ownBlock from grown_alloc1 (w := wr) hgrow) hat))
              clear hown1 hgrow hat hown
              go_wp2
              go_roundw
              case rel =>
                refine ⟨q, L ++ [c], by have := HQ.out.2.1; omega, ?_, by have := HQ.out.2.1; simp; omega, Px.hid ⟨owns_append HW.out.1, Fr.grown HO.out.2.1 HW.out.2.1 (fun g e => .inr (HO.out.2.2.1 g e)), ?_, ?_⟩⟩
                · have := HQ.out.2.2; go_num
                · intro g hg
                  simp only [Value.ownBlock, Option.some.injEq] at hg
                  subst hg
                  rcases HW.out.2.2 with e | e
                  · exact HO.out.2.2.1 _ e
                  · have := HO.out.2.1.size; omega
                · rw [List.append_assoc, ← HO.out.2.2.2, HQ.out.1]; rfl
              case measure => simp [intOf]; omega
            · have z1 : ¬ (0 : Int) ≤ (m : Int) - 1 := by omega
              have z2 : ¬ (1 : Int) ≤ (m : Int) := by omega
              have hstr := Owns.str HO.out.1
              have HE := Px.hid (show L = headB k n by have := HO.out.2.2.2; rw [show m = 0 by omega] at this; simpa [beBytes] using this)
              go_wp2
              go_ret
              rw [HE.out]
              exact ⟨rfl, HO.out.2.1⟩
      · by_cases hlt : 3 ≤ t
        · have hnz := HT.out.2.2.2.2 hlt
          go_wp2
          go_round
          case rel => exact ⟨3, hlt, .inr (.inr (.inr ⟨rfl, rfl, rfl⟩))⟩
          case measure => simp [intOf]
        · have hnz : ¬ (4294967296 : Int) ≤ n := fun h => hlt (HT.out.2.2.2.1 h)
          have HB := Px.hid (show headB k n = [UInt8.ofNat (32 * k + 26)] ++ beBytes n 4 by rw [hr.out, show t = 2 by omega]; rfl)
          have hoo := owns_one w (32 * k + 26) (by omega)
          have hcc : ((32 * k + 26 : Nat) : Int) = 32 * (k : Int) + 26 := by omega
          rw [hcc] at hoo
          have HOO := Px.hid hoo
          clear hoo hcc HT
          go_wp2
          go_loopw [7, 8] (fun v i wr => ∃ (m : Nat) (L : Bytes), m ≤ 4 ∧ i = .int .i64 ((m : Int) - 1) ∧ L.length ≤ 10 - m ∧ Hid (Owns wr 5 1 cByte v L ∧ Same w wr ∧ (∀ g, v.ownBlock = some g → w.heap.size ≤ g) ∧ L ++ beBytes n m = headB k n)) (fun _ i _ => (intOf i + 1).toNat)
          case atStart => exact ⟨4, [UInt8.ofNat (32 * k + 26)], by omega, by go_num, by simp, Px.hid ⟨HOO.out, (Fr.refl _ w).alloc _, fun g hg => by simp [Value.ownBlock] at hg; omega, HB.out.symm⟩⟩
          case round =>
            clear HB HOO
            obtain ⟨m, L, hm1, rfl, hll, HO⟩ := hrel
            obtain ⟨va, vc, hvl, _⟩ := HO.out.1.len
            subst hvl
            by_cases hm0 : 1 ≤ m
            · have z1 : (0 : Int) ≤ (m : Int) - 1 := by omega
              have z2 : (1 : Int) ≤ (m : Int) := by omega
              obtain ⟨q, hq⟩ : ∃ q, q = m - 1 := ⟨_, rfl⟩
              have hsh : (n : Int) / 2 ^ (8 * (m - 1)) % 256 = ((n / 256 ^ q % 256 : Nat) : Int) := by
                have e : 8 * (m - 1) = 8 * q := by omega
                rw [e, show (256 : Nat) = 2 ^ 8 by rfl, ← Nat.pow_mul]
                push_cast
                rfl
              have hqb : beBytes n m = UInt8.ofNat (n / 256 ^ q) :: beBytes n q := by rw [show m = q + 1 by omega]; rfl
              have hqv : (UInt8.ofNat (n / 256 ^ q)).toNat = n / 256 ^ q % 256 := by simp
              have hq1 : ((m : Int) - 1) = (q : Int) := by omega
              obtain ⟨c, hc⟩ : ∃ c, c = UInt8.ofNat (n / 256 ^ q) := ⟨_, rfl⟩
              rw [← hc] at hqb hqv
              rw [← hqv] at hsh
              skip
              have HQ := Px.hid (And.intro hqb (And.intro hq hq1))
              clear hqb hqv hc hq hq1
              obtain ⟨i0, hi0, hz0, hz1, hz2⟩ := info_parts Tryd.infoU8
              have hown : wr.ownsRow 0 5 1 (.slice va L.length vc) L.length (L.flatMap cByte) := HO.out.1
              go_wp2_with (at_builtin; go_must (refine wpList_append_lies _ rfl _ _ _ rfl 0 5 i0 _ 1 1 Tryd.underlying75 hi0 hz0 hz1 hz2 rfl (by omega) (.slice va L.length vc) L.length (L.flatMap cByte) rfl (Owns.alloc HO.out.1 _) ⟨wr.heap.size, 0, none⟩ 1 1 [.int .u8 c.toNat] rfl rfl (World.news_of_block (cs := #[.int .u8 c.toNat]) (t := 5) (fr := (0, 0)) (heap_alloc_new wr _)) (by simp [Value.oneCell']) (by omega) (by unfold maxLen; omega) (by omega) (by omega) (wr.heap.size + 1) (by simp) ?_))
              intro gg cap w1 hown1 hgrow hat hlt
              skip
              have HW := Px.hid (And.intro hown1 (And.intro (show wr.grownBy w1 (Value.slice va L.length vc).ownBlock from grown_alloc1 (w := wr) hgrow) hat))
              clear hown1 hgrow hat hown
              go_wp2
              go_roundw
              case rel =>
                refine ⟨q, L ++ [c], by have := HQ.out.2.1; omega, ?_, by have := HQ.out.2.1; simp; omega, Px.hid ⟨owns_append HW.out.1, Fr.grown HO.out.2.1 HW.out.2.1 (fun g e => .inr (HO.out.2.2.1 g e)), ?_, ?_⟩⟩
                · have := HQ.out.2.2; go_num
                · intro g hg
                  simp only [Value.ownBlock, Option.some.injEq] at hg
                  subst hg
                  rcases HW.out.2.2 with e | e
                  · exact HO.out.2.2.1 _ e
                  · have := HO.out.2.1.size; omega
                · rw [List.append_assoc, ← HO.out.2.2.2, HQ.out.1]; rfl
              case measure => simp [intOf]; omega
            · have z1 : ¬ (0 : Int) ≤ (m : Int) - 1 := by omega
              have z2 : ¬ (1 : Int) ≤ (m : Int) := by omega
              have hstr := Owns.str HO.out.1
              have HE := Px.hid (show L = headB k n by have := HO.out.2.2.2; rw [show m = 0 by omega] at this; simpa [beBytes] using this)
              go_wp2
              go_ret
              rw [HE.out]
              exact ⟨rfl, HO.out.2.1⟩
      · have hlt : ¬ 4 ≤ t := by omega
        have HB := Px.hid (show headB k n = [UInt8.ofNat (32 * k + 27)] ++ beBytes n 8 by rw [hr.out, show t = 3 by omega]; rfl)
        have hoo := owns_one w (32 * k + 27) (by omega)
        have hcc : ((32 * k + 27 : Nat) : Int) = 32 * (k : Int) + 27 := by omega
        rw [hcc] at hoo
        have HOO := Px.hid hoo
        clear hoo hcc HT
        go_wp2
        go_loopw [7, 8] (fun v i wr => ∃ (m : Nat) (L : Bytes), m ≤ 8 ∧ i = .int .i64 ((m : Int) - 1) ∧ L.length ≤ 10 - m ∧ Hid (Owns wr 5 1 cByte v L ∧ Same w wr ∧ (∀ g, v.ownBlock = some g → w.heap.size ≤ g) ∧ L ++ beBytes n m = headB k n)) (fun _ i _ => (intOf i + 1).toNat)
        case atStart => exact ⟨8, [UInt8.ofNat (32 * k + 27)], by omega, by go_num, by simp, Px.hid ⟨HOO.out, (Fr.refl _ w).alloc _, fun g hg => by simp [Value.ownBlock] at hg; omega, HB.out.symm⟩⟩
        case round =>
          clear HB HOO
          obtain ⟨m, L, hm1, rfl, hll, HO⟩ := hrel
          obtain ⟨va, vc, hvl, _⟩ := HO.out.1.len
          subst hvl
          by_cases hm0 : 1 ≤ m
          · have z1 : (0 : Int) ≤ (m : Int) - 1 := by omega
            have z2 : (1 : Int) ≤ (m : Int) := by omega
            obtain ⟨q, hq⟩ : ∃ q, q = m - 1 := ⟨_, rfl⟩
            have hsh : (n : Int) / 2 ^ (8 * (m - 1)) % 256 = ((n / 256 ^ q % 256 : Nat) : Int) := by
              have e : 8 * (m - 1) = 8 * q := by omega
              rw [e, show (256 : Nat) = 2 ^ 8 by rfl, ← Nat.pow_mul]
              push_cast
              rfl
            have hqb : beBytes n m = UInt8.ofNat (n / 256 ^ q) :: beBytes n q := by rw [show m = q + 1 by omega]; rfl
            have hqv : (UInt8.ofNat (n / 256 ^ q)).toNat = n / 256 ^ q % 256 := by simp
            have hq1 : ((m : Int) - 1) = (q : Int) := by omega
            obtain ⟨c, hc⟩ : ∃ c, c = UInt8.ofNat (n / 256 ^ q) := ⟨_, rfl⟩
            rw [← hc] at hqb hqv
            rw [← hqv] at hsh
            skip
            have HQ := Px.hid (And.intro hqb (And.intro hq hq1))
            clear hqb hqv hc hq hq1
            obtain ⟨i0, hi0, hz0, hz1, hz2⟩ := info_parts Tryd.infoU8
            have hown : wr.ownsRow 0 5 1 (.slice va L.length vc) L.length (L.flatMap cByte) := HO.out.1
            go_wp2_with (at_builtin; go_must (refine wpList_append_lies _ rfl _ _ _ rfl 0 5 i0 _ 1 1 Tryd.underlying75 hi0 hz0 hz1 hz2 rfl (by omega) (.slice va L.length vc) L.length (L.flatMap cByte) rfl (Owns.alloc HO.out.1 _) ⟨wr.heap.size, 0, none⟩ 1 1 [.int .u8 c.toNat] rfl rfl (World.news_of_block (cs := #[.int .u8 c.toNat]) (t := 5) (fr := (0, 0)) (heap_alloc_new wr _)) (by simp [Value.oneCell']) (by omega) (by unfold maxLen; omega) (by omega) (by omega) (wr.heap.size + 1) (by simp) ?_))
            intro gg cap w1 hown1 hgrow hat hlt
            skip
            have HW := Px.hid (And.intro hown1 (And.intro (show wr.grownBy w1 (Value.slice va L.length vc).ownBlock from grown_alloc1 (w := wr) hgrow) hat))
            clear hown1 hgrow hat hown
            go_wp2
            go_roundw
            case rel =>
              refine ⟨q, L ++ [c], by have := HQ.out.2.1; omega, ?_, by have := HQ.out.2.1; simp; omega, Px.hid ⟨owns_append HW.out.1, Fr.grown HO.out.2.1 HW.out.2.1 (fun g e => .inr (HO.out.2.2.1 g e)), ?_, ?_⟩⟩
              · have := HQ.out.2.2; go_num
              · intro g hg
                simp only [Value.ownBlock, Option.some.injEq] at hg
                subst hg
                rcases HW.out.2.2 with e | e
                · exact HO.out.2.2.1 _ e
                · have := HO.out.2.1.size; omega
              · rw [List.append_assoc, ← HO.out.2.2.2, HQ.out.1]; rfl
            case measure => simp [intOf]; omega
          · have z1 : ¬ (0 : Int) ≤ (m : Int) - 1 := by omega
            have z2 : ¬ (1 : Int) ≤ (m : Int) := by omega
            have hstr := Owns.str HO.out.1
            have HE := Px.hid (show L = headB k n by have := HO.out.2.2.2; rw [show m = 0 by omega] at this; simpa [beBytes] using this)
            go_wp2
            go_ret
            rw [HE.out]
            exact ⟨rfl, HO.out.2.1⟩
end Go.Proofs.YtddiabaagpmkgaaDoor
