/-
  The walks over the reference's Sign and escape, layer 16 (printed by gen_zd.py).
-/
import Derived.Test.YtahojodgmjmpnaaDoorZcJ
import Derived.Test.YtahojodgmjmpnaaDoorGdJ
namespace Go.Proofs.YtahojodgmjmpnaaDoor
open Go.RowKit Go.Px

/-- A new []byte as a string. -/
theorem conv_new (l : Bytes) (k g : Nat) (hk : l.length = k) (h0 : 0 < k) (h1 : k ≤ 1000000) (W : World) (cs : Array Value) (hcs : cs = (l.flatMap cByte).toArray) (hb : W.heap[g]? = some (.cells cs 5 (0, 0))) :
    (convert 62 9 (.slice (some ⟨g, 0, none⟩) k k)).run Tryd.prog W = .ok (S l) W := by
  subst hk
  refine Owns.str (e := 5) (w := W) ⟨flat_len cByte_len l, .inr ⟨g, l.length, cs, rfl, Nat.zero_le _, hb, Nat.le_refl _, by unfold maxLen; omega, ?_, ?_⟩⟩ (by kernel_rfl) (by kernel_rfl) (by kernel_rfl)
  · rw [hcs]; simp [flat_len cByte_len l]
  · rw [hcs]
    have := flat_len cByte_len l
    simp only [← this, List.take_length]
theorem byteI (a : Nat) (h : a < 256) (z : Int) (hz : z = (a : Nat)) : Value.int .u8 z = .int .u8 ((UInt8.ofNat a).toNat : Nat) := by rw [byte_cell a h, hz]
set_option maxRecDepth 100000 in
theorem sign6_1 (n : Nat) (hn1 : 0 ≤ n) (hn2 : n < 128) (w : World) : Calls Tryd.prog 75 #[.int .i64 (n : Nat)] w fun r w' => r = .returned (S (R6.sign8 n)) ∧ Same w w' := by
  have HR := Px.hid (show R6.sign8 n = [UInt8.ofNat n] by unfold R6.sign8; rw [if_pos hn2])
  have d1 : (n : Int) < 128 := by omega
  have hw1 : IntKind.u8.wrap (n : Int) = (n : Int) := IntWalk.u8_in _ ⟨by omega, by omega⟩
  have hcv := conv_new (R6.sign8 n) 1 w.heap.size (by rw [HR.out]; rfl) (by omega) (by omega) (w.alloc (.cells #[.int .u8 ((n : Int))] 5 (0, 0))) _ (by
    rw [HR.out]
    simp only [List.flatMap_cons, List.flatMap_nil, cByte, List.append_nil]
    rw [byteI (n) (by omega) ((n : Int)) (by omega)]
    ) (heap_alloc_new w _)
  clear HR hn1 hn2
  generalize R6.sign8 n = LL at hcv ⊢
  go_enter Tryd.func75, Tryd.ntmps75
  go_wp2
  go_ret
  exact ⟨rfl, (Fr.refl _ w).alloc _⟩
set_option maxRecDepth 100000 in
theorem sign6_2 (n : Nat) (hn1 : 128 ≤ n) (hn2 : n < 2048) (w : World) : Calls Tryd.prog 75 #[.int .i64 (n : Nat)] w fun r w' => r = .returned (S (R6.sign8 n)) ∧ Same w w' := by
  have HR := Px.hid (show R6.sign8 n = [UInt8.ofNat (192 + n / 64), UInt8.ofNat (128 + n % 64)] by unfold R6.sign8; rw [if_neg (by omega), if_pos hn2])
  have d1 : decide ((n : Int) < 128) = false := by simp; omega
  have d2 : (n : Int) < 2048 := by omega
  have hcv := conv_new (R6.sign8 n) 2 w.heap.size (by rw [HR.out]; rfl) (by omega) (by omega) (w.alloc (.cells #[.int .u8 (192 + (n : Int) / 64), .int .u8 (128 + (n : Int) % 64)] 5 (0, 0))) _ (by
    rw [HR.out]
    simp only [List.flatMap_cons, List.flatMap_nil, cByte, List.cons_append, List.nil_append, List.append_nil]
    rw [byteI (192 + n / 64) (by omega) (192 + (n : Int) / 64) (by omega)]
    rw [byteI (128 + n % 64) (by omega) (128 + (n : Int) % 64) (by omega)]
    ) (heap_alloc_new w _)
  clear HR hn1 hn2
  generalize R6.sign8 n = LL at hcv ⊢
  go_enter Tryd.func75, Tryd.ntmps75
  go_wp2
  go_ret
  exact ⟨rfl, (Fr.refl _ w).alloc _⟩
set_option maxRecDepth 100000 in
theorem sign6_3 (n : Nat) (hn1 : 2048 ≤ n) (hn2 : n < 65536) (w : World) : Calls Tryd.prog 75 #[.int .i64 (n : Nat)] w fun r w' => r = .returned (S (R6.sign8 n)) ∧ Same w w' := by
  have HR := Px.hid (show R6.sign8 n = [UInt8.ofNat (224 + n / 4096), UInt8.ofNat (128 + n / 64 % 64), UInt8.ofNat (128 + n % 64)] by unfold R6.sign8; rw [if_neg (by omega), if_neg (by omega), if_pos hn2])
  have d1 : decide ((n : Int) < 128) = false := by simp; omega
  have d2 : decide ((n : Int) < 2048) = false := by simp; omega
  have d3 : (n : Int) < 65536 := by omega
  have hcv := conv_new (R6.sign8 n) 3 w.heap.size (by rw [HR.out]; rfl) (by omega) (by omega) (w.alloc (.cells #[.int .u8 (224 + (n : Int) / 4096), .int .u8 (128 + (n : Int) / 64 % 64), .int .u8 (128 + (n : Int) % 64)] 5 (0, 0))) _ (by
    rw [HR.out]
    simp only [List.flatMap_cons, List.flatMap_nil, cByte, List.cons_append, List.nil_append, List.append_nil]
    rw [byteI (224 + n / 4096) (by omega) (224 + (n : Int) / 4096) (by omega)]
    rw [byteI (128 + n / 64 % 64) (by omega) (128 + (n : Int) / 64 % 64) (by omega)]
    rw [byteI (128 + n % 64) (by omega) (128 + (n : Int) % 64) (by omega)]
    ) (heap_alloc_new w _)
  clear HR hn1 hn2
  generalize R6.sign8 n = LL at hcv ⊢
  go_enter Tryd.func75, Tryd.ntmps75
  go_wp2
  go_ret
  exact ⟨rfl, (Fr.refl _ w).alloc _⟩
set_option maxRecDepth 100000 in
theorem sign6_4 (n : Nat) (hn1 : 65536 ≤ n) (hn2 : n ≤ 1114111) (w : World) : Calls Tryd.prog 75 #[.int .i64 (n : Nat)] w fun r w' => r = .returned (S (R6.sign8 n)) ∧ Same w w' := by
  have HR := Px.hid (show R6.sign8 n = [UInt8.ofNat (240 + n / 262144), UInt8.ofNat (128 + n / 4096 % 64), UInt8.ofNat (128 + n / 64 % 64), UInt8.ofNat (128 + n % 64)] by unfold R6.sign8; rw [if_neg (by omega), if_neg (by omega), if_neg (by omega)])
  have d1 : decide ((n : Int) < 128) = false := by simp; omega
  have d2 : decide ((n : Int) < 2048) = false := by simp; omega
  have d3 : decide ((n : Int) < 65536) = false := by simp; omega
  have hq : (n : Int) ≤ 1114111 := by omega
  have hcv := conv_new (R6.sign8 n) 4 w.heap.size (by rw [HR.out]; rfl) (by omega) (by omega) (w.alloc (.cells #[.int .u8 (240 + (n : Int) / 262144), .int .u8 (128 + (n : Int) / 4096 % 64), .int .u8 (128 + (n : Int) / 64 % 64), .int .u8 (128 + (n : Int) % 64)] 5 (0, 0))) _ (by
    rw [HR.out]
    simp only [List.flatMap_cons, List.flatMap_nil, cByte, List.cons_append, List.nil_append, List.append_nil]
    rw [byteI (240 + n / 262144) (by omega) (240 + (n : Int) / 262144) (by omega)]
    rw [byteI (128 + n / 4096 % 64) (by omega) (128 + (n : Int) / 4096 % 64) (by omega)]
    rw [byteI (128 + n / 64 % 64) (by omega) (128 + (n : Int) / 64 % 64) (by omega)]
    rw [byteI (128 + n % 64) (by omega) (128 + (n : Int) % 64) (by omega)]
    ) (heap_alloc_new w _)
  clear HR hn1 hn2
  generalize R6.sign8 n = LL at hcv ⊢
  go_enter Tryd.func75, Tryd.ntmps75
  go_wp2
  go_ret
  exact ⟨rfl, (Fr.refl _ w).alloc _⟩
theorem sign6 (n : Nat) (hn : n ≤ 1114111) (w : World) : Calls Tryd.prog 75 #[.int .i64 (n : Nat)] w fun r w' => r = .returned (S (R6.sign8 n)) ∧ Same w w' := by
  by_cases h1 : n < 128
  · exact sign6_1 n (Nat.zero_le _) h1 w
  by_cases h2 : n < 2048
  · exact sign6_2 n (by omega) h2 w
  by_cases h3 : n < 65536
  · exact sign6_3 n (by omega) h3 w
  · exact sign6_4 n (by omega) hn w
end Go.Proofs.YtahojodgmjmpnaaDoor
