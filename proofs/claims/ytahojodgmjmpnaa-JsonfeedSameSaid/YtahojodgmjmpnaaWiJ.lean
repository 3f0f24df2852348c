/-
  The walk over jsonfeed's text.digit: the end that appends a sign of two units (printed by gen_wi.py).
-/
import Derived.Test.YtahojodgmjmpnaaWhJ
namespace Go.Proofs.Ytahojodgmjmpnaa
open Go.RowKit Go.Px
set_option maxRecDepth 100000 in
set_option maxHeartbeats 4000000 in
theorem digit_a_2 (b : Nat) (t : J6.Txt) (vt : Value) (z k n g v : Nat) (hz : 48 ≤ z) (hz2 : z ≤ 57) (hk : k ≤ 4095) (hn : n = k * 16 + (z - 48)) (hlo : 56320 ≤ n) (hhi : n < 57344) (hg : 55296 ≤ g) (hg2 : g < 56320) (hv : v = 65536 + (g - 55296) * 1024 + n - 56320) (hl : t.out.length ≤ 1000000) (w : World) (h : TxtAt w b t vt) (hkc : t.code = k) (hmc : t.count = 1) (hgc : t.high = g) :
    Calls Try.prog 95 #[.pointer (some ⟨b, 0, none⟩), .int .u8 (z : Nat)] w (TxtPost w b vt (.takes, { t with code := v, count := 0, high := 0, out := t.out ++ R6.sign8 v, mode := 0 })) := by
  have c0 : w.cell? ⟨b, 0, none⟩ = some (.int .i64 (t.mode : Nat)) := cellOf h.blk 0 rfl
  have f0 : w.frozen? ⟨b, 0, none⟩ = false := freeOf h.blk 0
  have c1 : w.cell? ⟨b, 1, none⟩ = some vt := cellOf h.blk 1 rfl
  have f1 : w.frozen? ⟨b, 1, none⟩ = false := freeOf h.blk 1
  have c2 : w.cell? ⟨b, 2, none⟩ = some (.int .i32 (k : Nat)) := by rw [← hkc]; exact cellOf h.blk 2 rfl
  have f2 : w.frozen? ⟨b, 2, none⟩ = false := freeOf h.blk 2
  have c3 : w.cell? ⟨b, 3, none⟩ = some (.int .i64 (1 : Nat)) := by rw [← hmc]; exact cellOf h.blk 3 rfl
  have f3 : w.frozen? ⟨b, 3, none⟩ = false := freeOf h.blk 3
  have c4 : w.cell? ⟨b, 4, none⟩ = some (.int .i32 (g : Nat)) := by rw [← hgc]; exact cellOf h.blk 4 rfl
  have f4 : w.frozen? ⟨b, 4, none⟩ = false := freeOf h.blk 4
  have ez : (z : Int) - 48 = ((z - 48 : Nat) : Int) := by omega
  have hor : bits .or .i32 ((k : Int) * 16) ((z : Int) - 48) = (n : Int) := by rw [ez, or_digit k (z - 48) hk (by omega), hn]
  have hws : IntKind.i32.wrap ((k : Int) * 16) = (k : Int) * 16 := IntWalk.i32_in _ ⟨by omega, by omega⟩
  have hwu : IntKind.u8.wrap ((z : Int) - 48) = (z : Int) - 48 := IntWalk.u8_in _ ⟨by omega, by omega⟩
  have hwi : IntKind.i32.wrap ((z : Int) - 48) = (z : Int) - 48 := IntWalk.i32_in _ ⟨by omega, by omega⟩
  have v1 : IntKind.i32.wrap ((g : Int) - 55296) = (g : Int) - 55296 := IntWalk.i32_in _ ⟨by omega, by omega⟩
  have v2 : IntKind.i32.wrap (((g : Int) - 55296) * 1024) = ((g : Int) - 55296) * 1024 := IntWalk.i32_in _ ⟨by omega, by omega⟩
  have v3 : IntKind.i32.wrap (65536 + ((g : Int) - 55296) * 1024) = 65536 + ((g : Int) - 55296) * 1024 := IntWalk.i32_in _ ⟨by omega, by omega⟩
  have v4 : IntKind.i32.wrap (65536 + ((g : Int) - 55296) * 1024 + (n : Int)) = 65536 + ((g : Int) - 55296) * 1024 + (n : Int) := IntWalk.i32_in _ ⟨by omega, by omega⟩
  have v5 : IntKind.i32.wrap (65536 + ((g : Int) - 55296) * 1024 + (n : Int) - 56320) = (v : Int) := by rw [IntWalk.i32_in _ ⟨by omega, by omega⟩]; omega
  have y1 : (48 : Int) ≤ (z : Int) := by omega
  have y2 : (z : Int) ≤ 57 := by omega
  have w1 : (56320 : Int) ≤ (n : Int) := by omega
  have w2 : (n : Int) < 57344 := by omega
  have w3 : ((g : Int) != 0) = true := by simp; omega
  have h1 := (((h.set 2 (.int .i32 (n : Nat)) { t with code := n } rfl rfl).set 3 (.int .i64 0) { t with code := n, count := 0 } rfl rfl).drew.set 2 (.int .i32 (v : Nat)) { t with code := v, count := 0 } rfl rfl).set 4 (.int .i32 0) { t with code := v, count := 0, high := 0 } rfl rfl
  have hf1 := ((((Fr.refl (nfoot b vt) w).setCell (p := ⟨b, 2, none⟩) (.inl (.inl rfl)) (.int .i32 (n : Nat))).setCell (p := ⟨b, 3, none⟩) (.inl (.inl rfl)) (.int .i64 0)).drew.setCell (p := ⟨b, 2, none⟩) (.inl (.inl rfl)) (.int .i32 (v : Nat))).setCell (p := ⟨b, 4, none⟩) (.inl (.inl rfl)) (.int .i32 0)
  have hr := rune_put h1.drew v hl (by omega)
  have H1 := Px.hid (And.intro h1 (And.intro hf1 hr))
  clear h h1 hf1 hr hkc hmc hgc
  clear hg hg2 hv hlo hhi ez hn hk hz hz2
  go_enter Try.func95, Try.ntmps95
  go_upto_region 16 with fail
  go_region
  all_goals
    go_upto_region 21 with fail
    go_region_with
      (go_at_call 73; refine H1.out.2.2.mono ?_; rintro e w' ⟨va, n', vc, rfl, e1, d1, hK⟩)
    all_goals
      have hf0 := hK.out.2.2.2.1
      have hc0 := hK.out.2.2.2.2
      have HZ := Px.hid (And.intro (hK.out.1.set 0 (.int .i64 0) { t with code := v, count := 0, high := 0, out := t.out ++ R6.sign8 v, mode := 0 } rfl rfl) (And.intro (((H1.out.2.1.drew).trans hK.out.2.1 (fun _ _ x => x)).setCell (p := ⟨b, 0, none⟩) (.inl (.inl rfl)) (.int .i64 0)) (Fresh.trans (Fresh.refl w (nfoot b vt)) (H1.out.2.1.drew).size hK.out.2.2.1)))
      clear hK
      go_wp2
      go_ret
      exact ⟨rfl, _, HZ.out.1, HZ.out.2.1, HZ.out.2.2⟩
set_option maxRecDepth 100000 in
set_option maxHeartbeats 4000000 in
theorem digit_b_2 (b : Nat) (t : J6.Txt) (vt : Value) (z k n g v : Nat) (hz : 97 ≤ z) (hz2 : z ≤ 102) (hk : k ≤ 4095) (hn : n = k * 16 + (z - 87)) (hlo : 56320 ≤ n) (hhi : n < 57344) (hg : 55296 ≤ g) (hg2 : g < 56320) (hv : v = 65536 + (g - 55296) * 1024 + n - 56320) (hl : t.out.length ≤ 1000000) (w : World) (h : TxtAt w b t vt) (hkc : t.code = k) (hmc : t.count = 1) (hgc : t.high = g) :
    Calls Try.prog 95 #[.pointer (some ⟨b, 0, none⟩), .int .u8 (z : Nat)] w (TxtPost w b vt (.takes, { t with code := v, count := 0, high := 0, out := t.out ++ R6.sign8 v, mode := 0 })) := by
  have c0 : w.cell? ⟨b, 0, none⟩ = some (.int .i64 (t.mode : Nat)) := cellOf h.blk 0 rfl
  have f0 : w.frozen? ⟨b, 0, none⟩ = false := freeOf h.blk 0
  have c1 : w.cell? ⟨b, 1, none⟩ = some vt := cellOf h.blk 1 rfl
  have f1 : w.frozen? ⟨b, 1, none⟩ = false := freeOf h.blk 1
  have c2 : w.cell? ⟨b, 2, none⟩ = some (.int .i32 (k : Nat)) := by rw [← hkc]; exact cellOf h.blk 2 rfl
  have f2 : w.frozen? ⟨b, 2, none⟩ = false := freeOf h.blk 2
  have c3 : w.cell? ⟨b, 3, none⟩ = some (.int .i64 (1 : Nat)) := by rw [← hmc]; exact cellOf h.blk 3 rfl
  have f3 : w.frozen? ⟨b, 3, none⟩ = false := freeOf h.blk 3
  have c4 : w.cell? ⟨b, 4, none⟩ = some (.int .i32 (g : Nat)) := by rw [← hgc]; exact cellOf h.blk 4 rfl
  have f4 : w.frozen? ⟨b, 4, none⟩ = false := freeOf h.blk 4
  have ez : (z : Int) - 87 = ((z - 87 : Nat) : Int) := by omega
  have hor : bits .or .i32 ((k : Int) * 16) ((z : Int) - 87) = (n : Int) := by rw [ez, or_digit k (z - 87) hk (by omega), hn]
  have hws : IntKind.i32.wrap ((k : Int) * 16) = (k : Int) * 16 := IntWalk.i32_in _ ⟨by omega, by omega⟩
  have hwu : IntKind.u8.wrap ((z : Int) - 87) = (z : Int) - 87 := IntWalk.u8_in _ ⟨by omega, by omega⟩
  have hwi : IntKind.i32.wrap ((z : Int) - 87) = (z : Int) - 87 := IntWalk.i32_in _ ⟨by omega, by omega⟩
  have v1 : IntKind.i32.wrap ((g : Int) - 55296) = (g : Int) - 55296 := IntWalk.i32_in _ ⟨by omega, by omega⟩
  have v2 : IntKind.i32.wrap (((g : Int) - 55296) * 1024) = ((g : Int) - 55296) * 1024 := IntWalk.i32_in _ ⟨by omega, by omega⟩
  have v3 : IntKind.i32.wrap (65536 + ((g : Int) - 55296) * 1024) = 65536 + ((g : Int) - 55296) * 1024 := IntWalk.i32_in _ ⟨by omega, by omega⟩
  have v4 : IntKind.i32.wrap (65536 + ((g : Int) - 55296) * 1024 + (n : Int)) = 65536 + ((g : Int) - 55296) * 1024 + (n : Int) := IntWalk.i32_in _ ⟨by omega, by omega⟩
  have v5 : IntKind.i32.wrap (65536 + ((g : Int) - 55296) * 1024 + (n : Int) - 56320) = (v : Int) := by rw [IntWalk.i32_in _ ⟨by omega, by omega⟩]; omega
  have y1 : (48 : Int) ≤ (z : Int) := by omega
  have y2 : decide ((z : Int) ≤ 57) = false := by simp; omega
  have y3 : (97 : Int) ≤ (z : Int) := by omega
  have y4 : (z : Int) ≤ 102 := by omega
  have w1 : (56320 : Int) ≤ (n : Int) := by omega
  have w2 : (n : Int) < 57344 := by omega
  have w3 : ((g : Int) != 0) = true := by simp; omega
  have h1 := (((h.set 2 (.int .i32 (n : Nat)) { t with code := n } rfl rfl).set 3 (.int .i64 0) { t with code := n, count := 0 } rfl rfl).drew.set 2 (.int .i32 (v : Nat)) { t with code := v, count := 0 } rfl rfl).set 4 (.int .i32 0) { t with code := v, count := 0, high := 0 } rfl rfl
  have hf1 := ((((Fr.refl (nfoot b vt) w).setCell (p := ⟨b, 2, none⟩) (.inl (.inl rfl)) (.int .i32 (n : Nat))).setCell (p := ⟨b, 3, none⟩) (.inl (.inl rfl)) (.int .i64 0)).drew.setCell (p := ⟨b, 2, none⟩) (.inl (.inl rfl)) (.int .i32 (v : Nat))).setCell (p := ⟨b, 4, none⟩) (.inl (.inl rfl)) (.int .i32 0)
  have hr := rune_put h1.drew v hl (by omega)
  have H1 := Px.hid (And.intro h1 (And.intro hf1 hr))
  clear h h1 hf1 hr hkc hmc hgc
  clear hg hg2 hv hlo hhi ez hn hk hz hz2
  go_enter Try.func95, Try.ntmps95
  go_upto_region 16 with fail
  go_region
  all_goals
    go_upto_region 21 with fail
    go_region_with
      (go_at_call 73; refine H1.out.2.2.mono ?_; rintro e w' ⟨va, n', vc, rfl, e1, d1, hK⟩)
    all_goals
      have hf0 := hK.out.2.2.2.1
      have hc0 := hK.out.2.2.2.2
      have HZ := Px.hid (And.intro (hK.out.1.set 0 (.int .i64 0) { t with code := v, count := 0, high := 0, out := t.out ++ R6.sign8 v, mode := 0 } rfl rfl) (And.intro (((H1.out.2.1.drew).trans hK.out.2.1 (fun _ _ x => x)).setCell (p := ⟨b, 0, none⟩) (.inl (.inl rfl)) (.int .i64 0)) (Fresh.trans (Fresh.refl w (nfoot b vt)) (H1.out.2.1.drew).size hK.out.2.2.1)))
      clear hK
      go_wp2
      go_ret
      exact ⟨rfl, _, HZ.out.1, HZ.out.2.1, HZ.out.2.2⟩
set_option maxRecDepth 100000 in
set_option maxHeartbeats 4000000 in
theorem digit_c_2 (b : Nat) (t : J6.Txt) (vt : Value) (z k n g v : Nat) (hz : 65 ≤ z) (hz2 : z ≤ 70) (hk : k ≤ 4095) (hn : n = k * 16 + (z - 55)) (hlo : 56320 ≤ n) (hhi : n < 57344) (hg : 55296 ≤ g) (hg2 : g < 56320) (hv : v = 65536 + (g - 55296) * 1024 + n - 56320) (hl : t.out.length ≤ 1000000) (w : World) (h : TxtAt w b t vt) (hkc : t.code = k) (hmc : t.count = 1) (hgc : t.high = g) :
    Calls Try.prog 95 #[.pointer (some ⟨b, 0, none⟩), .int .u8 (z : Nat)] w (TxtPost w b vt (.takes, { t with code := v, count := 0, high := 0, out := t.out ++ R6.sign8 v, mode := 0 })) := by
  have c0 : w.cell? ⟨b, 0, none⟩ = some (.int .i64 (t.mode : Nat)) := cellOf h.blk 0 rfl
  have f0 : w.frozen? ⟨b, 0, none⟩ = false := freeOf h.blk 0
  have c1 : w.cell? ⟨b, 1, none⟩ = some vt := cellOf h.blk 1 rfl
  have f1 : w.frozen? ⟨b, 1, none⟩ = false := freeOf h.blk 1
  have c2 : w.cell? ⟨b, 2, none⟩ = some (.int .i32 (k : Nat)) := by rw [← hkc]; exact cellOf h.blk 2 rfl
  have f2 : w.frozen? ⟨b, 2, none⟩ = false := freeOf h.blk 2
  have c3 : w.cell? ⟨b, 3, none⟩ = some (.int .i64 (1 : Nat)) := by rw [← hmc]; exact cellOf h.blk 3 rfl
  have f3 : w.frozen? ⟨b, 3, none⟩ = false := freeOf h.blk 3
  have c4 : w.cell? ⟨b, 4, none⟩ = some (.int .i32 (g : Nat)) := by rw [← hgc]; exact cellOf h.blk 4 rfl
  have f4 : w.frozen? ⟨b, 4, none⟩ = false := freeOf h.blk 4
  have ez : (z : Int) - 55 = ((z - 55 : Nat) : Int) := by omega
  have hor : bits .or .i32 ((k : Int) * 16) ((z : Int) - 55) = (n : Int) := by rw [ez, or_digit k (z - 55) hk (by omega), hn]
  have hws : IntKind.i32.wrap ((k : Int) * 16) = (k : Int) * 16 := IntWalk.i32_in _ ⟨by omega, by omega⟩
  have hwu : IntKind.u8.wrap ((z : Int) - 55) = (z : Int) - 55 := IntWalk.u8_in _ ⟨by omega, by omega⟩
  have hwi : IntKind.i32.wrap ((z : Int) - 55) = (z : Int) - 55 := IntWalk.i32_in _ ⟨by omega, by omega⟩
  have v1 : IntKind.i32.wrap ((g : Int) - 55296) = (g : Int) - 55296 := IntWalk.i32_in _ ⟨by omega, by omega⟩
  have v2 : IntKind.i32.wrap (((g : Int) - 55296) * 1024) = ((g : Int) - 55296) * 1024 := IntWalk.i32_in _ ⟨by omega, by omega⟩
  have v3 : IntKind.i32.wrap (65536 + ((g : Int) - 55296) * 1024) = 65536 + ((g : Int) - 55296) * 1024 := IntWalk.i32_in _ ⟨by omega, by omega⟩
  have v4 : IntKind.i32.wrap (65536 + ((g : Int) - 55296) * 1024 + (n : Int)) = 65536 + ((g : Int) - 55296) * 1024 + (n : Int) := IntWalk.i32_in _ ⟨by omega, by omega⟩
  have v5 : IntKind.i32.wrap (65536 + ((g : Int) - 55296) * 1024 + (n : Int) - 56320) = (v : Int) := by rw [IntWalk.i32_in _ ⟨by omega, by omega⟩]; omega
  have y1 : (48 : Int) ≤ (z : Int) := by omega
  have y2 : decide ((z : Int) ≤ 57) = false := by simp; omega
  have y3 : decide ((97 : Int) ≤ (z : Int)) = false := by simp; omega
  have y4 : (65 : Int) ≤ (z : Int) := by omega
  have y5 : (z : Int) ≤ 70 := by omega
  have w1 : (56320 : Int) ≤ (n : Int) := by omega
  have w2 : (n : Int) < 57344 := by omega
  have w3 : ((g : Int) != 0) = true := by simp; omega
  have h1 := (((h.set 2 (.int .i32 (n : Nat)) { t with code := n } rfl rfl).set 3 (.int .i64 0) { t with code := n, count := 0 } rfl rfl).drew.set 2 (.int .i32 (v : Nat)) { t with code := v, count := 0 } rfl rfl).set 4 (.int .i32 0) { t with code := v, count := 0, high := 0 } rfl rfl
  have hf1 := ((((Fr.refl (nfoot b vt) w).setCell (p := ⟨b, 2, none⟩) (.inl (.inl rfl)) (.int .i32 (n : Nat))).setCell (p := ⟨b, 3, none⟩) (.inl (.inl rfl)) (.int .i64 0)).drew.setCell (p := ⟨b, 2, none⟩) (.inl (.inl rfl)) (.int .i32 (v : Nat))).setCell (p := ⟨b, 4, none⟩) (.inl (.inl rfl)) (.int .i32 0)
  have hr := rune_put h1.drew v hl (by omega)
  have H1 := Px.hid (And.intro h1 (And.intro hf1 hr))
  clear h h1 hf1 hr hkc hmc hgc
  clear hg hg2 hv hlo hhi ez hn hk hz hz2
  go_enter Try.func95, Try.ntmps95
  go_upto_region 16 with fail
  go_region
  all_goals
    go_upto_region 21 with fail
    go_region_with
      (go_at_call 73; refine H1.out.2.2.mono ?_; rintro e w' ⟨va, n', vc, rfl, e1, d1, hK⟩)
    all_goals
      have hf0 := hK.out.2.2.2.1
      have hc0 := hK.out.2.2.2.2
      have HZ := Px.hid (And.intro (hK.out.1.set 0 (.int .i64 0) { t with code := v, count := 0, high := 0, out := t.out ++ R6.sign8 v, mode := 0 } rfl rfl) (And.intro (((H1.out.2.1.drew).trans hK.out.2.1 (fun _ _ x => x)).setCell (p := ⟨b, 0, none⟩) (.inl (.inl rfl)) (.int .i64 0)) (Fresh.trans (Fresh.refl w (nfoot b vt)) (H1.out.2.1.drew).size hK.out.2.2.1)))
      clear hK
      go_wp2
      go_ret
      exact ⟨rfl, _, HZ.out.1, HZ.out.2.1, HZ.out.2.2⟩
end Go.Proofs.Ytahojodgmjmpnaa
