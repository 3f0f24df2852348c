/-
  Several texts in one: The walks over octet.Put (eight bytes), cms.number and cms.sized (layer 23).
-/
import Derived.Test.YtpfhollohodcjaaGreatDoorYQ
import Derived.Test.YtpfhollohodcjaaGreatDoorXS
/-! The walks over octet.Put (eight bytes), cms.number and cms.sized (layer 23). -/
namespace Go.Proofs.YtpfhollohodcjaaGreatDoor
open Go.RowKit Go.Px Go.Px.Co Go.Px.Cm
theorem conv1x (x : UInt8) (b : Nat) (W : World) (h : W.heap[b]? = some (.cells #[.int .u8 (x.toNat : Nat)] 5 (0, 0))) : (convert 145 9 (.slice (some ⟨b, 0, none⟩) 1 1)).run Tryz.prog W = .ok (S [x]) W := by
  have := Owns.str (w := W) (v := .slice (some ⟨b, 0, none⟩) 1 1) (l := [x]) ⟨rfl, .inr ⟨b, 1, _, rfl, Nat.zero_le _, h, Nat.le_refl _, by unfold maxLen; omega, rfl, by simp [cByte]⟩⟩
  exact this
theorem app_Sx (a b : List UInt8) : (ByteArray.mk a.toArray) ++ (ByteArray.mk b.toArray) = ⟨(a ++ b).toArray⟩ := by
  apply ByteArray.ext
  simp
theorem slice_F (l : List UInt8) (a : Nat) (ha : a ≤ l.length) (w : World) :
    (Instr.slice 9 (S l) (some (.int .i64 (a : Int))) none none).run Tryz.prog w = .ok (S (l.drop a)) w := by
  rw [run_slice_string_l w _ _ Tryz.underlying9 _ _ (by omega) (by rw [size_S]; omega), ByteArray.extract_mk]
  have e1 : ((a : Int)).toNat = a := by omega
  rw [e1]
  simp [size_S]
  rw [List.take_of_length_le (by simp)]
theorem MkT.from {w W w' : World} {t : List Px.Node} {a : Option Addr} {n c : Nat} (h : MkT W t a n c w') (hs : Same w W) : MkT w t a n c w' :=
  ⟨h.lies, h.own, hs.trans h.same, fun q hq => Nat.le_trans hs.size (h.new q hq)⟩
/-- Eight bytes, of which the last ones are told. -/
def putL (k n : Nat) : Bytes := List.replicate (8 - k) 0 ++ E5.beD k n
theorem putL_set (k n : Nat) (hk : k < 8) : (putL k n).set (7 - k) (UInt8.ofNat (n / 256 ^ k % 256)) = putL (k + 1) n := by
  unfold putL
  rw [show E5.beD (k + 1) n = UInt8.ofNat (n / 256 ^ k % 256) :: E5.beD k n from rfl]
  rw [show 8 - k = (7 - k) + 1 by omega, show 8 - (k + 1) = 7 - k by omega, List.replicate_succ']
  rw [List.append_assoc, List.set_append_right _ _ (by simp)]
  simp
theorem putL_len (k n : Nat) (hk : k ≤ 8) : (putL k n).length = 8 := by
  have h : ∀ (k n : Nat), (E5.beD k n).length = k := fun k => by
    induction k with
    | zero => intro n; rfl
    | succ k ih => intro n; rw [show E5.beD (k + 1) n = UInt8.ofNat (n / 256 ^ k % 256) :: E5.beD k n from rfl, List.length_cons, ih]
  unfold putL
  rw [List.length_append, List.length_replicate, h]
  omega
theorem put_step {w wr : World} (k n : Nat) (hk : k < 8) (h : Owns wr 5 1 cByte (.slice (some ⟨w.heap.size, 0, none⟩) 8 8) (putL k n) ∧ Same w wr) : Owns (wr.setCell ⟨w.heap.size, 7 - k, none⟩ (.int .u8 (((UInt8.ofNat (n / 256 ^ k % 256)).toNat : Nat) : Int))) 5 1 cByte (.slice (some ⟨w.heap.size, 0, none⟩) 8 8) (putL (k + 1) n) ∧ Same w (wr.setCell ⟨w.heap.size, 7 - k, none⟩ (.int .u8 (((UInt8.ofNat (n / 256 ^ k % 256)).toNat : Nat) : Int))) := by
  refine ⟨?_, Fr.setCell h.2 (p := ⟨w.heap.size, 7 - k, none⟩) (.inr (Nat.le_refl _)) _⟩
  have e : ∀ l : Bytes, l.flatMap cByte = l.map fun c => Value.int .u8 (c.toNat : Nat) := fun l => by
    induction l with
    | nil => rfl
    | cons a l ih => rw [List.flatMap_cons, ih]; rfl
  have hlen : (putL k n).length = 8 := putL_len k n (by omega)
  have h1 : wr.ownsRow 0 5 1 (.slice (some ⟨w.heap.size, 0, none⟩) 8 8) 8 ((putL k n).flatMap cByte) := by
    have := h.1
    unfold Owns at this
    rw [hlen] at this
    exact this
  unfold Owns
  rw [putL_len (k + 1) n (by omega)]
  have hs := (World.ownsRow.stored h1 (7 - k) (.int .u8 (((UInt8.ofNat (n / 256 ^ k % 256)).toNat : Nat) : Int))).1
  rw [e] at hs ⊢
  rw [← putL_set k n hk, List.map_set]
  exact hs
set_option maxRecDepth 100000 in
set_option maxHeartbeats 3000000 in
theorem put8_any (n : Nat) (hn : n < 18446744073709551616) (w : World) : Calls Tryz.prog 86 #[.int .u64 (n : Nat), .int .i64 8] w fun e w' => e = .returned (.tuple #[S (E5.beD 8 n), .int .i64 0]) ∧ Same w w' := by
  obtain ⟨i0, hi0, hz0, hz1, hz2⟩ := info_parts Tryz.infoU8
  have hmk : ∀ W : World, (Instr.makeSlice 145 (.int .i64 8) (.int .i64 8)).run Tryz.prog W = .ok (.slice (some ⟨W.heap.size, 0, none⟩) 8 8) (W.alloc (.cells #[.int .u8 0, .int .u8 0, .int .u8 0, .int .u8 0, .int .u8 0, .int .u8 0, .int .u8 0, .int .u8 0] 5 (0, 0))) := fun W => by
    have := run_make (P := Tryz.prog) W 145 5 i0 (.int .u8 0) Tryz.underlying145 hi0 hz0 .i64 .i64 8 8 (by omega) (Int.le_refl _) (by rw [hz2]; omega) (by omega)
    rw [hz1, show madeCells (Value.int IntKind.u8 0).cells (Int.toNat 8 * 1) = #[.int .u8 0, .int .u8 0, .int .u8 0, .int .u8 0, .int .u8 0, .int .u8 0, .int .u8 0, .int .u8 0] by kernel_rfl] at this
    exact this
  have HN := Px.hid hn
  clear hn
  go_enter Tryz.func86, Tryz.ntmps86
  go_upto_region 4 with fail
  obtain ⟨w1, hw1⟩ : ∃ w1, w1 = w.alloc (.cells #[.int .u8 0, .int .u8 0, .int .u8 0, .int .u8 0, .int .u8 0, .int .u8 0, .int .u8 0, .int .u8 0] 5 (0, 0)) := ⟨_, rfl⟩
  have hs1 : Same w w1 := by rw [hw1]; exact (Fr.refl _ w).alloc _
  have ho1 : Owns w1 5 1 cByte (.slice (some ⟨w.heap.size, 0, none⟩) 8 8) (putL 0 n) := by
    rw [hw1]
    exact owns_block (l := putL 0 n) cByte_len (heap_alloc_new w _) (by unfold maxLen; simp [putL, E5.beD])
  have HO := Px.hid (And.intro ho1 hs1)
  rw [← hw1]
  clear hw1 ho1 hs1 hmk
  go_wp2
  go_loopw [28] (fun i wr => ∃ k, k ≤ 8 ∧ i = .int .i64 (k : Nat) ∧ Hid (Owns wr 5 1 cByte (.slice (some ⟨w.heap.size, 0, none⟩) 8 8) (putL k n) ∧ Same w wr)) (fun i _ => 8 - (intOf i).toNat)
  case atStart => exact ⟨0, by omega, rfl, HO⟩
  case round =>
    obtain ⟨k, hk, rfl, HR⟩ := hrel
    rcases (show k = 0 ∨ k = 1 ∨ k = 2 ∨ k = 3 ∨ k = 4 ∨ k = 5 ∨ k = 6 ∨ k = 7 ∨ k = 8 by omega) with e0 | e1 | e2 | e3 | e4 | e5 | e6 | e7 | e8
    · subst e0
      have hmem : (putL 0 n)[7]? = some 0 := rfl
      obtain ⟨g, cap, hve, _, _, hc, hfz⟩ := HR.out.1.at cByte_len hmem
      simp only [Value.slice.injEq, Option.some.injEq, Addr.mk.injEq, and_true] at hve
      have hg := hve.1
      clear hve
      subst hg
      have x0 : wr.cell? ⟨w.heap.size, 7, none⟩ = some (.int .u8 0) := hc 0 _ rfl
      have xf : wr.frozen? ⟨w.heap.size, 7, none⟩ = false := hfz 7
      have hwc : (((UInt8.ofNat (n / 256 ^ 0 % 256)).toNat : Nat) : Int) = (n : Int) % 256 := by rw [UInt8.toNat_ofNat']; omega
      have hr2 := put_step 0 n (by decide) HR.out
      rw [hwc] at hr2
      have HR2 := Px.hid hr2
      clear hmem hc hfz hwc hr2
      go_wp2
      go_roundw
      case rel => exact ⟨1, by decide, by go_num, HR2⟩
      case measure => decide
    · subst e1
      have hmem : (putL 1 n)[6]? = some 0 := rfl
      obtain ⟨g, cap, hve, _, _, hc, hfz⟩ := HR.out.1.at cByte_len hmem
      simp only [Value.slice.injEq, Option.some.injEq, Addr.mk.injEq, and_true] at hve
      have hg := hve.1
      clear hve
      subst hg
      have x0 : wr.cell? ⟨w.heap.size, 6, none⟩ = some (.int .u8 0) := hc 0 _ rfl
      have xf : wr.frozen? ⟨w.heap.size, 6, none⟩ = false := hfz 6
      have hwc : (((UInt8.ofNat (n / 256 ^ 1 % 256)).toNat : Nat) : Int) = (n : Int) / 256 % 256 := by rw [UInt8.toNat_ofNat']; omega
      have hr2 := put_step 1 n (by decide) HR.out
      rw [hwc] at hr2
      have HR2 := Px.hid hr2
      clear hmem hc hfz hwc hr2
      go_wp2
      go_roundw
      case rel => exact ⟨2, by decide, by go_num, HR2⟩
      case measure => decide
    · subst e2
      have hmem : (putL 2 n)[5]? = some 0 := rfl
      obtain ⟨g, cap, hve, _, _, hc, hfz⟩ := HR.out.1.at cByte_len hmem
      simp only [Value.slice.injEq, Option.some.injEq, Addr.mk.injEq, and_true] at hve
      have hg := hve.1
      clear hve
      subst hg
      have x0 : wr.cell? ⟨w.heap.size, 5, none⟩ = some (.int .u8 0) := hc 0 _ rfl
      have xf : wr.frozen? ⟨w.heap.size, 5, none⟩ = false := hfz 5
      have hwc : (((UInt8.ofNat (n / 256 ^ 2 % 256)).toNat : Nat) : Int) = (n : Int) / 65536 % 256 := by rw [UInt8.toNat_ofNat']; omega
      have hr2 := put_step 2 n (by decide) HR.out
      rw [hwc] at hr2
      have HR2 := Px.hid hr2
      clear hmem hc hfz hwc hr2
      go_wp2
      go_roundw
      case rel => exact ⟨3, by decide, by go_num, HR2⟩
      case measure => decide
    · subst e3
      have hmem : (putL 3 n)[4]? = some 0 := rfl
      obtain ⟨g, cap, hve, _, _, hc, hfz⟩ := HR.out.1.at cByte_len hmem
      simp only [Value.slice.injEq, Option.some.injEq, Addr.mk.injEq, and_true] at hve
      have hg := hve.1
      clear hve
      subst hg
      have x0 : wr.cell? ⟨w.heap.size, 4, none⟩ = some (.int .u8 0) := hc 0 _ rfl
      have xf : wr.frozen? ⟨w.heap.size, 4, none⟩ = false := hfz 4
      have hwc : (((UInt8.ofNat (n / 256 ^ 3 % 256)).toNat : Nat) : Int) = (n : Int) / 16777216 % 256 := by rw [UInt8.toNat_ofNat']; omega
      have hr2 := put_step 3 n (by decide) HR.out
      rw [hwc] at hr2
      have HR2 := Px.hid hr2
      clear hmem hc hfz hwc hr2
      go_wp2
      go_roundw
      case rel => exact ⟨4, by decide, by go_num, HR2⟩
      case measure => decide
    · subst e4
      have hmem : (putL 4 n)[3]? = some 0 := rfl
      obtain ⟨g, cap, hve, _, _, hc, hfz⟩ := HR.out.1.at cByte_len hmem
      simp only [Value.slice.injEq, Option.some.injEq, Addr.mk.injEq, and_true] at hve
      have hg := hve.1
      clear hve
      subst hg
      have x0 : wr.cell? ⟨w.heap.size, 3, none⟩ = some (.int .u8 0) := hc 0 _ rfl
      have xf : wr.frozen? ⟨w.heap.size, 3, none⟩ = false := hfz 3
      have hwc : (((UInt8.ofNat (n / 256 ^ 4 % 256)).toNat : Nat) : Int) = (n : Int) / 4294967296 % 256 := by rw [UInt8.toNat_ofNat']; omega
      have hr2 := put_step 4 n (by decide) HR.out
      rw [hwc] at hr2
      have HR2 := Px.hid hr2
      clear hmem hc hfz hwc hr2
      go_wp2
      go_roundw
      case rel => exact ⟨5, by decide, by go_num, HR2⟩
      case measure => decide
    · subst e5
      have hmem : (putL 5 n)[2]? = some 0 := rfl
      obtain ⟨g, cap, hve, _, _, hc, hfz⟩ := HR.out.1.at cByte_len hmem
      simp only [Value.slice.injEq, Option.some.injEq, Addr.mk.injEq, and_true] at hve
      have hg := hve.1
      clear hve
      subst hg
      have x0 : wr.cell? ⟨w.heap.size, 2, none⟩ = some (.int .u8 0) := hc 0 _ rfl
      have xf : wr.frozen? ⟨w.heap.size, 2, none⟩ = false := hfz 2
      have hwc : (((UInt8.ofNat (n / 256 ^ 5 % 256)).toNat : Nat) : Int) = (n : Int) / 1099511627776 % 256 := by rw [UInt8.toNat_ofNat']; omega
      have hr2 := put_step 5 n (by decide) HR.out
      rw [hwc] at hr2
      have HR2 := Px.hid hr2
      clear hmem hc hfz hwc hr2
      go_wp2
      go_roundw
      case rel => exact ⟨6, by decide, by go_num, HR2⟩
      case measure => decide
    · subst e6
      have hmem : (putL 6 n)[1]? = some 0 := rfl
      obtain ⟨g, cap, hve, _, _, hc, hfz⟩ := HR.out.1.at cByte_len hmem
      simp only [Value.slice.injEq, Option.some.injEq, Addr.mk.injEq, and_true] at hve
      have hg := hve.1
      clear hve
      subst hg
      have x0 : wr.cell? ⟨w.heap.size, 1, none⟩ = some (.int .u8 0) := hc 0 _ rfl
      have xf : wr.frozen? ⟨w.heap.size, 1, none⟩ = false := hfz 1
      have hwc : (((UInt8.ofNat (n / 256 ^ 6 % 256)).toNat : Nat) : Int) = (n : Int) / 281474976710656 % 256 := by rw [UInt8.toNat_ofNat']; omega
      have hr2 := put_step 6 n (by decide) HR.out
      rw [hwc] at hr2
      have HR2 := Px.hid hr2
      clear hmem hc hfz hwc hr2
      go_wp2
      go_roundw
      case rel => exact ⟨7, by decide, by go_num, HR2⟩
      case measure => decide
    · subst e7
      have hmem : (putL 7 n)[0]? = some 0 := rfl
      obtain ⟨g, cap, hve, _, _, hc, hfz⟩ := HR.out.1.at cByte_len hmem
      simp only [Value.slice.injEq, Option.some.injEq, Addr.mk.injEq, and_true] at hve
      have hg := hve.1
      clear hve
      subst hg
      have x0 : wr.cell? ⟨w.heap.size, 0, none⟩ = some (.int .u8 0) := hc 0 _ rfl
      have xf : wr.frozen? ⟨w.heap.size, 0, none⟩ = false := hfz 0
      have hwc : (((UInt8.ofNat (n / 256 ^ 7 % 256)).toNat : Nat) : Int) = (n : Int) / 72057594037927936 % 256 := by rw [UInt8.toNat_ofNat']; omega
      have hr2 := put_step 7 n (by decide) HR.out
      rw [hwc] at hr2
      have HR2 := Px.hid hr2
      clear hmem hc hfz hwc hr2
      go_wp2
      go_roundw
      case rel => exact ⟨8, by decide, by go_num, HR2⟩
      case measure => decide
    · subst e8
      have hcv2 := Owns.str HR.out.1
      obtain ⟨bs, hbs⟩ : ∃ bs, bs = putL 8 n := ⟨_, rfl⟩
      rw [← hbs] at hcv2
      have HBS := Px.hid (show bs = E5.beD 8 n from hbs)
      clear hbs
      go_wp2
      go_ret2
      rw [HBS.out]
      exact ⟨rfl, HR.out.2⟩
def szOf : Value → Nat
  | .string b => b.size
  | _ => 0
theorem szOf_S (s : Bytes) : szOf (S s) = s.length := size_S s
set_option maxRecDepth 100000 in
set_option maxHeartbeats 3000000 in
theorem number_any (n : Int) (w : World) : Calls Tryz.prog 45 #[.int .i64 n] w fun e w' => e = .returned (S (numB n)) ∧ Same w w' := by
  obtain ⟨m, hm⟩ : ∃ m : Nat, m = (n % 18446744073709551616).toNat := ⟨_, rfl⟩
  have hmz : n % 18446744073709551616 = (m : Int) := by omega
  have hcv : IntKind.u64.wrap n = (m : Int) := by rw [IntKind.wrap_u64]; omega
  have HP := Px.hid (put8_any m (by omega) w)
  have HB := Px.hid (show numB n = strip (E5.beD 8 m) by unfold numB; rw [hm])
  clear hm
  go_enter Tryz.func45, Tryz.ntmps45
  go_wp2_with fail
  refine HP.out.mono ?_
  rintro e w1 ⟨rfl, hs⟩
  have HS := Px.hid hs
  clear hs HP hmz hcv
  obtain ⟨s0, hs0⟩ : ∃ s0, s0 = E5.beD 8 m := ⟨_, rfl⟩
  rw [← hs0] at HB ⊢
  have h08 : 0 < s0.length ∧ s0.length ≤ 8 := by rw [hs0]; simp [E5.beD]
  have H08 := Px.hid h08
  clear hs0 h08
  go_wp2_with fail
  go_loopw [3] (fun v wr => ∃ s, v = S s ∧ w1 = wr ∧ Hid (strip s = strip s0 ∧ 0 < s.length ∧ s.length ≤ 8)) (fun v _ => szOf v)
  case atStart => exact ⟨s0, rfl, rfl, Px.hid ⟨rfl, H08.out⟩⟩
  case round =>
    obtain ⟨s, rfl, rfl, HQ⟩ := hrel
    by_cases h2 : 1 < s.length
    · obtain ⟨a, b, r, hs⟩ : ∃ a b r, s = a :: b :: r := by
        match s, h2 with
        | a :: b :: r, _ => exact ⟨a, b, r, rfl⟩
      have hi0 : ∀ W : World, (Instr.index 9 (S s) (.int .i64 0)).run Tryz.prog W = .ok (.int .u8 (a.toNat : Nat)) W := by subst hs; intro W; rfl
      have hi1 : ∀ W : World, (Instr.index 9 (S s) (.int .i64 1)).run Tryz.prog W = .ok (.int .u8 (b.toNat : Nat)) W := by subst hs; intro W; rfl
      have hsl : ∀ W : World, (Instr.slice 9 (S s) (some (.int .i64 1)) none none).run Tryz.prog W = .ok (S (b :: r)) W := fun W => by
        have := slice_F s 1 (by omega) W
        rw [hs] at this ⊢
        exact this
      have hln : (1 : Int) < (s.length : Int) := by omega
      have HH := Px.hid hs
      by_cases ha : a = 0
      · have haz : (((a.toNat : Nat) : Int) == 0) = true := by rw [ha]; rfl
        by_cases hb : b.toNat < 128
        · have hbz : decide (((b.toNat : Nat) : Int) < 128) = true := decide_eq_true (by omega)
          have HST := Px.hid (show strip (b :: r) = strip s0 by rw [← HQ.out.1, hs, ha, strip_zero hb])
          obtain ⟨sn, hsn⟩ : ∃ sn, sn = b :: r := ⟨_, rfl⟩
          rw [← hsn] at hsl HST
          have HSN := Px.hid (show sn.length + 1 = s.length by rw [hsn, hs]; rfl)
          clear hs ha hb h2 hsn
          go_wp2
          go_roundw
          case rel => exact ⟨sn, rfl, trivial, Px.hid ⟨HST.out, by have := HSN.out; omega, by have := HSN.out; have := HQ.out.2.2; omega⟩⟩
          case measure =>
            show szOf (S sn) < szOf (S s)
            rw [szOf_S, szOf_S]
            have := HSN.out
            omega
        · have hbz : decide (((b.toNat : Nat) : Int) < 128) = false := decide_eq_false (by omega)
          have HST := Px.hid (show s = strip s0 by rw [← HQ.out.1, hs, strip_stop (fun e => hb e.2)])
          clear hs ha hb h2 hsl
          go_wp2
          go_ret
          rw [HB.out, ← HST.out]
          exact ⟨rfl, HS.out⟩
      · have haz : (((a.toNat : Nat) : Int) == 0) = false := beq_eq_false_iff_ne.2 (fun e => ha (UInt8.toNat_inj.1 (by simpa using e)))
        have HST := Px.hid (show s = strip s0 by rw [← HQ.out.1, hs, strip_stop (fun e => ha e.1)])
        clear hs ha h2 hsl
        go_wp2
        go_ret
        rw [HB.out, ← HST.out]
        exact ⟨rfl, HS.out⟩
    · have hln : ¬ (1 : Int) < (s.length : Int) := by omega
      have HST := Px.hid (show s = strip s0 by
        rw [← HQ.out.1]
        have := HQ.out.2.1
        match s, h2, this with
        | [a], _, _ => rfl
        | a :: b :: r, h2, _ => exact absurd (by simp) h2)
      clear h2
      go_wp2
      go_ret
      rw [HB.out, ← HST.out]
      exact ⟨rfl, HS.out⟩
set_option maxRecDepth 100000 in
set_option maxHeartbeats 3000000 in
theorem sized_walk (size : Int) (c0 c1 c2 : UInt8) (w : World) : Calls Tryz.prog 85 #[.int .i64 size, .agg #[.int .u8 (c0.toNat : Nat), .int .u8 (c1.toNat : Nat), .int .u8 (c2.toNat : Nat)]] w fun e w' => ∃ a n c, e = .returned (.slice a n c) ∧ MkT w (sizedT size [c0, c1, c2]) a n c w' := by
  have HL := Px.hid (fun s W => tleaf_any 6 s W)
  have hcat : ∀ k : UInt8, (ByteArray.mk #[96, 134, 72, 1, 101, 3, 4, 1]) ++ (ByteArray.mk [k].toArray) = ⟨(cipherT ++ [k]).toArray⟩ := fun k => app_Sx cipherT [k]
  by_cases h16 : size = 16
  · subst h16
    have HT := Px.hid (show sizedT 16 [c0, c1, c2] = lf 6 (cipherT ++ [c0]) from rfl)
    obtain ⟨cs, hcs⟩ : ∃ cs, cs = cipherT ++ [c0] := ⟨_, rfl⟩
    have hc2 := hcat c0
    rw [← hcs] at hc2 HT
    have hcv : (convert 145 9 (.slice (some ⟨w.heap.size + 1, 0, none⟩) 1 1)).run Tryz.prog ((w.alloc (.cells #[.int .u8 (c0.toNat : Nat), .int .u8 (c1.toNat : Nat), .int .u8 (c2.toNat : Nat)] 144 (0, 0))).alloc (.cells #[.int .u8 (c0.toNat : Nat)] 5 (0, 0))) = .ok (S [c0]) ((w.alloc (.cells #[.int .u8 (c0.toNat : Nat), .int .u8 (c1.toNat : Nat), .int .u8 (c2.toNat : Nat)] 144 (0, 0))).alloc (.cells #[.int .u8 (c0.toNat : Nat)] 5 (0, 0))) := conv1x c0 (w.heap.size + 1) ((w.alloc (.cells #[.int .u8 (c0.toNat : Nat), .int .u8 (c1.toNat : Nat), .int .u8 (c2.toNat : Nat)] 144 (0, 0))).alloc (.cells #[.int .u8 (c0.toNat : Nat)] 5 (0, 0))) (by
      have := heap_alloc_new (w.alloc (.cells #[.int .u8 (c0.toNat : Nat), .int .u8 (c1.toNat : Nat), .int .u8 (c2.toNat : Nat)] 144 (0, 0))) (.cells #[.int .u8 (c0.toNat : Nat)] 5 (0, 0))
      rw [show (w.alloc (.cells #[.int .u8 (c0.toNat : Nat), .int .u8 (c1.toNat : Nat), .int .u8 (c2.toNat : Nat)] 144 (0, 0))).heap.size = w.heap.size + 1 by simp] at this
      exact this)
    clear hcat hcs
    go_enter Tryz.func85, Tryz.ntmps85
    go_wp2_with fail
    refine (HL.out cs _).mono ?_
    rintro e w1 ⟨a, n, c, rfl, hm⟩
    have HM := Px.hid (hm.from (((Fr.refl _ w).alloc _).alloc _))
    clear hm HL
    go_wp2
    go_ret
    rw [HT.out]
    exact ⟨_, _, _, rfl, HM.out⟩
  by_cases h24 : size = 24
  · subst h24
    have HT := Px.hid (show sizedT 24 [c0, c1, c2] = lf 6 (cipherT ++ [c1]) from rfl)
    obtain ⟨cs, hcs⟩ : ∃ cs, cs = cipherT ++ [c1] := ⟨_, rfl⟩
    have hc2 := hcat c1
    rw [← hcs] at hc2 HT
    have hcv : (convert 145 9 (.slice (some ⟨w.heap.size + 1, 0, none⟩) 1 1)).run Tryz.prog ((w.alloc (.cells #[.int .u8 (c0.toNat : Nat), .int .u8 (c1.toNat : Nat), .int .u8 (c2.toNat : Nat)] 144 (0, 0))).alloc (.cells #[.int .u8 (c1.toNat : Nat)] 5 (0, 0))) = .ok (S [c1]) ((w.alloc (.cells #[.int .u8 (c0.toNat : Nat), .int .u8 (c1.toNat : Nat), .int .u8 (c2.toNat : Nat)] 144 (0, 0))).alloc (.cells #[.int .u8 (c1.toNat : Nat)] 5 (0, 0))) := conv1x c1 (w.heap.size + 1) ((w.alloc (.cells #[.int .u8 (c0.toNat : Nat), .int .u8 (c1.toNat : Nat), .int .u8 (c2.toNat : Nat)] 144 (0, 0))).alloc (.cells #[.int .u8 (c1.toNat : Nat)] 5 (0, 0))) (by
      have := heap_alloc_new (w.alloc (.cells #[.int .u8 (c0.toNat : Nat), .int .u8 (c1.toNat : Nat), .int .u8 (c2.toNat : Nat)] 144 (0, 0))) (.cells #[.int .u8 (c1.toNat : Nat)] 5 (0, 0))
      rw [show (w.alloc (.cells #[.int .u8 (c0.toNat : Nat), .int .u8 (c1.toNat : Nat), .int .u8 (c2.toNat : Nat)] 144 (0, 0))).heap.size = w.heap.size + 1 by simp] at this
      exact this)
    clear hcat hcs
    go_enter Tryz.func85, Tryz.ntmps85
    go_wp2_with fail
    refine (HL.out cs _).mono ?_
    rintro e w1 ⟨a, n, c, rfl, hm⟩
    have HM := Px.hid (hm.from (((Fr.refl _ w).alloc _).alloc _))
    clear hm HL
    go_wp2
    go_ret
    rw [HT.out]
    exact ⟨_, _, _, rfl, HM.out⟩
  by_cases h32 : size = 32
  · subst h32
    have HT := Px.hid (show sizedT 32 [c0, c1, c2] = lf 6 (cipherT ++ [c2]) from rfl)
    obtain ⟨cs, hcs⟩ : ∃ cs, cs = cipherT ++ [c2] := ⟨_, rfl⟩
    have hc2 := hcat c2
    rw [← hcs] at hc2 HT
    have hcv : (convert 145 9 (.slice (some ⟨w.heap.size + 1, 0, none⟩) 1 1)).run Tryz.prog ((w.alloc (.cells #[.int .u8 (c0.toNat : Nat), .int .u8 (c1.toNat : Nat), .int .u8 (c2.toNat : Nat)] 144 (0, 0))).alloc (.cells #[.int .u8 (c2.toNat : Nat)] 5 (0, 0))) = .ok (S [c2]) ((w.alloc (.cells #[.int .u8 (c0.toNat : Nat), .int .u8 (c1.toNat : Nat), .int .u8 (c2.toNat : Nat)] 144 (0, 0))).alloc (.cells #[.int .u8 (c2.toNat : Nat)] 5 (0, 0))) := conv1x c2 (w.heap.size + 1) ((w.alloc (.cells #[.int .u8 (c0.toNat : Nat), .int .u8 (c1.toNat : Nat), .int .u8 (c2.toNat : Nat)] 144 (0, 0))).alloc (.cells #[.int .u8 (c2.toNat : Nat)] 5 (0, 0))) (by
      have := heap_alloc_new (w.alloc (.cells #[.int .u8 (c0.toNat : Nat), .int .u8 (c1.toNat : Nat), .int .u8 (c2.toNat : Nat)] 144 (0, 0))) (.cells #[.int .u8 (c2.toNat : Nat)] 5 (0, 0))
      rw [show (w.alloc (.cells #[.int .u8 (c0.toNat : Nat), .int .u8 (c1.toNat : Nat), .int .u8 (c2.toNat : Nat)] 144 (0, 0))).heap.size = w.heap.size + 1 by simp] at this
      exact this)
    clear hcat hcs
    go_enter Tryz.func85, Tryz.ntmps85
    go_wp2_with fail
    refine (HL.out cs _).mono ?_
    rintro e w1 ⟨a, n, c, rfl, hm⟩
    have HM := Px.hid (hm.from (((Fr.refl _ w).alloc _).alloc _))
    clear hm HL
    go_wp2
    go_ret
    rw [HT.out]
    exact ⟨_, _, _, rfl, HM.out⟩
  · have h16z : (size == 16) = false := beq_eq_false_iff_ne.2 h16
    have h24z : (size == 24) = false := beq_eq_false_iff_ne.2 h24
    have h32z : (size == 32) = false := beq_eq_false_iff_ne.2 h32
    have HT := Px.hid (show sizedT size [c0, c1, c2] = lf 6 (cipherT ++ [(0 : UInt8)]) from by unfold sizedT; simp [*])
    obtain ⟨cs, hcs⟩ : ∃ cs, cs = cipherT ++ [(0 : UInt8)] := ⟨_, rfl⟩
    have hc2 := hcat (0 : UInt8)
    rw [← hcs] at hc2 HT
    have hcv : (convert 145 9 (.slice (some ⟨w.heap.size + 1, 0, none⟩) 1 1)).run Tryz.prog ((w.alloc (.cells #[.int .u8 (c0.toNat : Nat), .int .u8 (c1.toNat : Nat), .int .u8 (c2.toNat : Nat)] 144 (0, 0))).alloc (.cells #[.int .u8 0] 5 (0, 0))) = .ok (S [(0 : UInt8)]) ((w.alloc (.cells #[.int .u8 (c0.toNat : Nat), .int .u8 (c1.toNat : Nat), .int .u8 (c2.toNat : Nat)] 144 (0, 0))).alloc (.cells #[.int .u8 0] 5 (0, 0))) := conv1x (0 : UInt8) (w.heap.size + 1) ((w.alloc (.cells #[.int .u8 (c0.toNat : Nat), .int .u8 (c1.toNat : Nat), .int .u8 (c2.toNat : Nat)] 144 (0, 0))).alloc (.cells #[.int .u8 ((0 : UInt8).toNat : Nat)] 5 (0, 0))) (by
      have := heap_alloc_new (w.alloc (.cells #[.int .u8 (c0.toNat : Nat), .int .u8 (c1.toNat : Nat), .int .u8 (c2.toNat : Nat)] 144 (0, 0))) (.cells #[.int .u8 ((0 : UInt8).toNat : Nat)] 5 (0, 0))
      rw [show (w.alloc (.cells #[.int .u8 (c0.toNat : Nat), .int .u8 (c1.toNat : Nat), .int .u8 (c2.toNat : Nat)] 144 (0, 0))).heap.size = w.heap.size + 1 by simp] at this
      exact this)
    clear hcat hcs
    go_enter Tryz.func85, Tryz.ntmps85
    go_wp2_with fail
    refine (HL.out cs _).mono ?_
    rintro e w1 ⟨a, n, c, rfl, hm⟩
    have HM := Px.hid (hm.from (((Fr.refl _ w).alloc _).alloc _))
    clear hm HL
    go_wp2
    go_ret
    rw [HT.out]
    exact ⟨_, _, _, rfl, HM.out⟩
end Go.Proofs.YtpfhollohodcjaaGreatDoor
