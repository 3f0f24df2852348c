/-
  Several texts in one: The walk over the statement DerCut. The walk over the statement DerCut, its cases joined.
-/
import Derived.Test.YtceffhkgnifmeaaDoorMU
import Derived.Deep.RegionWith
/-! The walk over the statement DerCut. -/
namespace Go.Proofs.YtceffhkgnifmeaaDoor
open Go.RowKit Go.Px Go.Px.R5

theorem app_S (a b : List UInt8) : (ByteArray.mk a.toArray) ++ (ByteArray.mk b.toArray) = ⟨(a ++ b).toArray⟩ := by
  apply ByteArray.ext
  simp
theorem same_keeps {w w' : World} (h : Same w w') : ∀ (b : Nat) (o : Obj), w.heap[b]? = some o → w'.heap[b]? = some o := fun b _ hb => (h.block b (ltOf hb) (fun x => x)).trans hb

set_option maxRecDepth 100000 in
set_option maxHeartbeats 4000000 in
theorem cut_err (s : Bytes) (n m : Int) (w : World) (hs : s.length ≤ 140737488351232) (hT : Tabs w) (he : (R5.decode s most).2.2 ≠ 0) :
    Calls Tryd.prog 8 #[S s, .int .i64 n, .int .u8 m] w fun e w' => e = .returned (.bool true) ∧ Below w.heap.size w w' := by
  have HS := Px.hid (And.intro (show s.length ≤ 140737488355327 by omega) hT)
  have HE := Px.hid he
  have hsz : (ByteArray.mk s.toArray).size = s.length := size_S s
  have hsl : s.length ≤ 140737488355327 := by omega
  clear hs hT
  clear he
  go_enter Tryd.func8, Tryd.ntmps8
  go_wp2_with fail
  refine (wakes15_any _ HS.out.2).mono ?_
  rintro e w1 ⟨rfl, hs⟩
  have HW := Px.hid hs
  clear hs
  go_wp2_with fail
  refine (most_any _).mono ?_
  rintro e w2 ⟨rfl, hs⟩
  have HW := Px.hid (HW.out.trans hs)
  clear hs
  go_wp2_with fail
  refine (decode_any s most HS.out.1 _ (HS.out.2.same HW.out)).mono ?_
  intro e w3 hg
  obtain ⟨a, c, rfl, _, hs⟩ := hg.len
  have HW := Px.hid (HW.out.trans hs)
  clear hs hg
  have hb : ((R5.decode s most).2.2 != 0) = true := by simpa using HE.out
  obtain ⟨d, hd⟩ : ∃ d, d = R5.decode s most := ⟨_, rfl⟩
  rw [← hd] at hb ⊢
  clear hd
  go_wp2
  go_ret
  exact ⟨rfl, HW.out.below⟩

set_option maxRecDepth 100000 in
set_option maxHeartbeats 4000000 in
theorem cut_neg (s : Bytes) (n m : Int) (w : World) (hs : s.length ≤ 140737488351232) (hT : Tabs w) (he : (R5.decode s most).2.2 = 0) (h0 : n < 0) :
    Calls Tryd.prog 8 #[S s, .int .i64 n, .int .u8 m] w fun e w' => e = .returned (.bool true) ∧ Below w.heap.size w w' := by
  have HS := Px.hid (And.intro (show s.length ≤ 140737488355327 by omega) hT)
  have HE := Px.hid he
  have hsz : (ByteArray.mk s.toArray).size = s.length := size_S s
  have hsl : s.length ≤ 140737488355327 := by omega
  clear hs hT
  clear he
  go_enter Tryd.func8, Tryd.ntmps8
  go_wp2_with fail
  refine (wakes15_any _ HS.out.2).mono ?_
  rintro e w1 ⟨rfl, hs⟩
  have HW := Px.hid hs
  clear hs
  go_wp2_with fail
  refine (most_any _).mono ?_
  rintro e w2 ⟨rfl, hs⟩
  have HW := Px.hid (HW.out.trans hs)
  clear hs
  go_wp2_with fail
  refine (decode_any s most HS.out.1 _ (HS.out.2.same HW.out)).mono ?_
  intro e w3 hg
  obtain ⟨a, c, rfl, _, hs⟩ := hg.len
  have HW := Px.hid (HW.out.trans hs)
  clear hs hg
  rw [HE.out]
  obtain ⟨D, hD⟩ : ∃ D, D = R5.decode s most := ⟨_, rfl⟩
  rw [← hD]
  clear hD
  go_wp2
  go_ret
  exact ⟨rfl, HW.out.below⟩

set_option maxRecDepth 100000 in
set_option maxHeartbeats 4000000 in
theorem cut_past (s : Bytes) (n m : Int) (w : World) (hs : s.length ≤ 140737488351232) (hT : Tabs w) (he : (R5.decode s most).2.2 = 0) (h0 : ¬ n < 0) (h1 : (s.length : Int) ≤ n) :
    Calls Tryd.prog 8 #[S s, .int .i64 n, .int .u8 m] w fun e w' => e = .returned (.bool true) ∧ Below w.heap.size w w' := by
  have HS := Px.hid (And.intro (show s.length ≤ 140737488355327 by omega) hT)
  have HE := Px.hid he
  have hsz : (ByteArray.mk s.toArray).size = s.length := size_S s
  have hsl : s.length ≤ 140737488355327 := by omega
  clear hs hT
  clear he
  go_enter Tryd.func8, Tryd.ntmps8
  go_wp2_with fail
  refine (wakes15_any _ HS.out.2).mono ?_
  rintro e w1 ⟨rfl, hs⟩
  have HW := Px.hid hs
  clear hs
  go_wp2_with fail
  refine (most_any _).mono ?_
  rintro e w2 ⟨rfl, hs⟩
  have HW := Px.hid (HW.out.trans hs)
  clear hs
  go_wp2_with fail
  refine (decode_any s most HS.out.1 _ (HS.out.2.same HW.out)).mono ?_
  intro e w3 hg
  obtain ⟨a, c, rfl, _, hs⟩ := hg.len
  have HW := Px.hid (HW.out.trans hs)
  clear hs hg
  rw [HE.out]
  obtain ⟨D, hD⟩ : ∃ D, D = R5.decode s most := ⟨_, rfl⟩
  rw [← hD]
  clear hD
  go_wp2
  go_ret
  exact ⟨rfl, HW.out.below⟩

set_option maxRecDepth 100000 in
set_option maxHeartbeats 4000000 in
theorem cut_long (s : Bytes) (n m : Int) (w : World) (hs : s.length ≤ 140737488351232) (hT : Tabs w) (he : (R5.decode s most).2.2 = 0) (h0 : ¬ n < 0) (h1 : ¬ (s.length : Int) ≤ n) (h2 : 262144 ≤ s.length) :
    Calls Tryd.prog 8 #[S s, .int .i64 n, .int .u8 m] w fun e w' => e = .returned (.bool true) ∧ Below w.heap.size w w' := by
  have HS := Px.hid (And.intro (show s.length ≤ 140737488355327 by omega) hT)
  have HE := Px.hid he
  have hsz : (ByteArray.mk s.toArray).size = s.length := size_S s
  have hsl : s.length ≤ 140737488355327 := by omega
  clear hs hT
  have h2z : (262144 : Int) ≤ (s.length : Int) := by omega
  clear h2
  clear he
  go_enter Tryd.func8, Tryd.ntmps8
  go_wp2_with fail
  refine (wakes15_any _ HS.out.2).mono ?_
  rintro e w1 ⟨rfl, hs⟩
  have HW := Px.hid hs
  clear hs
  go_wp2_with fail
  refine (most_any _).mono ?_
  rintro e w2 ⟨rfl, hs⟩
  have HW := Px.hid (HW.out.trans hs)
  clear hs
  go_wp2_with fail
  refine (decode_any s most HS.out.1 _ (HS.out.2.same HW.out)).mono ?_
  intro e w3 hg
  obtain ⟨a, c, rfl, _, hs⟩ := hg.len
  have HW := Px.hid (HW.out.trans hs)
  clear hs hg
  rw [HE.out]
  obtain ⟨D, hD⟩ : ∃ D, D = R5.decode s most := ⟨_, rfl⟩
  rw [← hD]
  clear hD
  go_wp2
  go_ret
  exact ⟨rfl, HW.out.below⟩

set_option maxRecDepth 100000 in
set_option maxHeartbeats 16000000 in
theorem cut_in (s : Bytes) (k : Nat) (cb : UInt8) (w : World) (hs : s.length ≤ 140737488351232) (hT : Tabs w) (he : (R5.decode s most).2.2 = 0) (hk : k < s.length) (h2 : s.length < 262144) :
    Calls Tryd.prog 8 #[S s, .int .i64 (k : Nat), .int .u8 (cb.toNat : Nat)] w fun e w' => e = .returned (.bool true) ∧ Below w.heap.size w w' := by
  have HS := Px.hid (And.intro (show s.length ≤ 140737488355327 by omega) hT)
  have HE := Px.hid he
  have hsz : (ByteArray.mk s.toArray).size = s.length := size_S s
  have hsl : s.length ≤ 140737488355327 := by omega
  clear hs hT
  have h0 : ¬ (k : Int) < 0 := by omega
  have h1 : ¬ (s.length : Int) ≤ (k : Int) := by omega
  have h2z : decide ((262144 : Int) ≤ (s.length : Int)) = false := decide_eq_false (by omega)
  have hto := to_S s k (by omega)
  obtain ⟨lc, hlc⟩ : ∃ lc, lc = [cb] := ⟨_, rfl⟩
  obtain ⟨sl, hsl2⟩ : ∃ sl, sl = s ++ lc := ⟨_, rfl⟩
  have HC := Px.hid (And.intro (E5.decode_cut HE.out k hk) (show (R5.decode sl most).2.2 = 9 ∧ (R5.decode sl most).2.1 = s.length from by rw [hsl2, hlc]; exact E5.decode_more_byte HE.out cb (by show (s.length : Int) < 262144; omega)))
  have HD := Px.hid (show ∀ W, Same w W → Calls Tryd.prog 14 #[S (s.take k), limV most] W (Gives W (R5.decode (s.take k) most)) from fun W h => decode_any _ _ (by rw [List.length_take]; omega) W (HS.out.2.same h))
  have HD2 := Px.hid (show ∀ W, Same w W → Calls Tryd.prog 14 #[S sl, limV most] W (Gives W (R5.decode sl most)) from fun W h => decode_any _ _ (by rw [hsl2, hlc, List.length_append, List.length_singleton]; omega) W (HS.out.2.same h))
  have happ : ByteArray.mk s.toArray ++ ByteArray.mk lc.toArray = ⟨sl.toArray⟩ := by rw [hsl2]; exact app_S s lc
  have hlsz : (ByteArray.mk lc.toArray).size = 1 := by rw [size_S, hlc]; rfl
  have hcv : ∀ (b : Nat) (W : World), W.heap[b]? = some (.cells #[.int .u8 (cb.toNat : Nat)] 5 (0, 0)) → (convert 42 9 (.slice (some ⟨b, 0, none⟩) 1 1)).run Tryd.prog W = .ok (S lc) W := fun b W h => by
    have := Owns.str (w := W) (v := .slice (some ⟨b, 0, none⟩) 1 1) (l := [cb]) ⟨rfl, .inr ⟨b, 1, _, rfl, Nat.zero_le _, h, Nat.le_refl _, by unfold maxLen; omega, rfl, rfl⟩⟩
    rw [hlc]; exact this
  clear hsl2 hlc
  obtain ⟨d2, hd2⟩ : ∃ d2, d2 = R5.decode sl most := ⟨_, rfl⟩
  obtain ⟨d1, hd1⟩ : ∃ d1, d1 = R5.decode (s.take k) most := ⟨_, rfl⟩
  rw [← hd1, ← hd2] at HC
  rw [← hd1] at HD
  rw [← hd2] at HD2
  clear hd1 hd2
  have hcb : cb.toNat < 256 := cb.toNat_lt
  clear h2 hk
  clear he
  go_enter Tryd.func8, Tryd.ntmps8
  go_wp2_with fail
  refine (wakes15_any _ HS.out.2).mono ?_
  rintro e w1 ⟨rfl, hs⟩
  have HW := Px.hid hs
  clear hs
  go_wp2_with fail
  refine (most_any _).mono ?_
  rintro e w2 ⟨rfl, hs⟩
  have HW := Px.hid (HW.out.trans hs)
  clear hs
  go_wp2_with fail
  refine (decode_any s most HS.out.1 _ (HS.out.2.same HW.out)).mono ?_
  intro e w3 hg
  obtain ⟨a, c, rfl, _, hs⟩ := hg.len
  have HW := Px.hid (HW.out.trans hs)
  clear hs hg
  rw [HE.out]
  obtain ⟨D, hD⟩ : ∃ D, D = R5.decode s most := ⟨_, rfl⟩
  rw [← hD]
  clear hD
  go_upto_region 6 with fail
  go_cut [10, 11, 12] (fun t10 t11 t12 wx => t11 = .int .i64 (k : Nat) ∧ t12 = .int .i64 9 ∧ Same w wx)
  case first =>
    go_region_with (first
      | (go_at_call 20; refine (most_any _).mono ?_; rintro e wm ⟨rfl, hm⟩; have HM := Px.hid (Same.trans (Fr.drew HW.out) hm); clear hm)
      | (go_at_call 14; refine (HD.out _ HM.out).mono ?_; intro e wd hg; obtain ⟨a2, c2, rfl, _, hs2⟩ := hg.len; have HN := Px.hid (HM.out.trans hs2); clear hg hs2))
    all_goals
      go_wp2_with fail
      go_meet
      rw [HC.out.1.1, HC.out.1.2]
      exact ⟨rfl, rfl, HN.out⟩
  case rest =>
    obtain ⟨rfl, rfl, hsc⟩ := hcut
    have HW := Px.hid hsc
    clear hsc
    go_upto_region 7 with fail
    go_cut [13, 14, 15] (fun t13 t14 t15 wx => t14 = .int .i64 (s.length : Nat) ∧ t15 = .int .i64 9 ∧ Same w wx)
    case first =>
      clear hto
      have HCV := Px.hid hcv
      have hca := hcv wc.heap.size (wc.alloc (.cells #[.int .u8 (cb.toNat : Nat)] 5 (0, 0))) (heap_alloc_new _ _)
      have hcd := hcv wc.heap.size (wc.alloc (.cells #[.int .u8 (cb.toNat : Nat)] 5 (0, 0))).drew (heap_alloc_new _ _)
      clear hcv
      go_region_with (first
        | (go_at_call 20; refine (most_any _).mono ?_; rintro e wm ⟨rfl, hm⟩; have hke := HCV.out wm.heap.size (wm.alloc (.cells #[.int .u8 (cb.toNat : Nat)] 5 (0, 0))) (heap_alloc_new _ _); (try (have hkf := HCV.out wc.heap.size wm (same_keeps hm _ _ (heap_alloc_new _ _)))); have HM := Px.hid (show Same w wm from (by first | exact Same.trans (Fr.drew HW.out) hm | exact Same.trans (Fr.alloc (Fr.drew HW.out) _) hm)); clear hm)
        | (go_at_call 14; refine (HD2.out _ (by first | with_reducible exact HM.out | exact Fr.alloc HM.out _)).mono ?_; intro e wd hg; obtain ⟨a2, c2, rfl, _, hs2⟩ := hg.len; have HN := Px.hid (show Same w wd from (by first | with_reducible exact Same.trans HM.out hs2 | exact Same.trans (Fr.alloc HM.out _) hs2)); clear hg hs2))
      all_goals
        go_wp2_with fail
        go_meet
        rw [HC.out.2.1, HC.out.2.2]
        exact ⟨rfl, rfl, HN.out⟩
    case rest =>
      obtain ⟨rfl, rfl, hsc⟩ := hcut
      have HW := Px.hid hsc
      clear hsc
      go_wp2
      go_ret
      exact ⟨rfl, HW.out.below⟩
end Go.Proofs.YtceffhkgnifmeaaDoor

/-! The walk over the statement DerCut, its cases joined. -/
namespace Go.Proofs.YtceffhkgnifmeaaDoor
open Go.RowKit Go.Px Go.Px.R5

theorem law_DerCut (s : Bytes) (n m : Int) (w : World) (hs : s.length ≤ 140737488351232) (_ : -9223372036854775808 ≤ n ∧ n ≤ 9223372036854775807) (hm : 0 ≤ m ∧ m ≤ 255) (hT : Tabs w) :
    Calls Tryd.prog 8 #[S s, .int .i64 n, .int .u8 m] w fun e w' => e = .returned (.bool true) ∧ Below w.heap.size w w' := by
  by_cases he : (R5.decode s most).2.2 = 0
  · by_cases h0 : n < 0
    · exact cut_neg s n m w hs hT he h0
    · by_cases h1 : (s.length : Int) ≤ n
      · exact cut_past s n m w hs hT he h0 h1
      · by_cases h2 : 262144 ≤ s.length
        · exact cut_long s n m w hs hT he h0 h1 h2
        · obtain ⟨k, rfl⟩ : ∃ k : Nat, n = (k : Int) := ⟨n.toNat, by omega⟩
          obtain ⟨cb, rfl⟩ : ∃ cb : UInt8, m = ((cb.toNat : Nat) : Int) := ⟨UInt8.ofNat m.toNat, by rw [UInt8.toNat_ofNat']; omega⟩
          exact cut_in s k cb w hs hT he (by omega) (by omega)
  · exact cut_err s n m w hs hT he
end Go.Proofs.YtceffhkgnifmeaaDoor
