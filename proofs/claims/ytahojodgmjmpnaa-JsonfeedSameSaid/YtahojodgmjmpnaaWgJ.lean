/-
  The walk over jsonfeed's text.digit: the ends that append a sign of one unit (printed by gen_wg.py).
-/
import Derived.Test.YtahojodgmjmpnaaWfJ
namespace Go.Proofs.Ytahojodgmjmpnaa
open Go.RowKit Go.Px
theorem TxtAt.drew {w : World} {b : Nat} {t : J6.Txt} {vt : Value} (h : TxtAt w b t vt) : TxtAt w.drew b t vt := ⟨h.blk, h.text, h.tb⟩

theorem rune_put {w : World} {b : Nat} {t : J6.Txt} {vt : Value} (h : TxtAt w b t vt) (n : Nat) (hl : t.out.length ≤ 1000000) (hn : n < 55296 ∨ (57343 < n ∧ n ≤ 1114111)) :
    Calls Try.prog 73 #[vt, .int .i32 (n : Nat)] w fun e w' => ∃ va n' vc, e = .returned (.slice va n' vc) ∧ w'.frozen? ⟨b, 1, none⟩ = false ∧ w'.cell? ⟨b, 1, none⟩ = some vt ∧
      Hid (TxtAt (w'.setCell ⟨b, 1, none⟩ (.slice va n' vc)) b { t with out := t.out ++ R6.sign8 n } (.slice va n' vc) ∧ Fr (nfoot b vt) w (w'.setCell ⟨b, 1, none⟩ (.slice va n' vc)) ∧ Fresh w (nfoot b vt) (nfoot b (.slice va n' vc)) ∧ w'.frozen? ⟨b, 0, none⟩ = false ∧ w'.cell? ⟨b, 0, none⟩ = some (.int .i64 (t.mode : Nat))) := by
  refine (rune_any vt t.out n (by omega) hn w h.text).mono ?_
  rintro e w' ⟨v', rfl, hG⟩
  obtain ⟨k1, k2, k3, k4⟩ := h.put hG
  obtain ⟨xa, xc, hxv, _⟩ := hG.1.len
  subst hxv
  exact ⟨_, _, _, rfl, freeOf k1 1, cellOf k1 1 rfl, Px.hid ⟨k2, k3, k4, freeOf k1 0, cellOf k1 0 rfl⟩⟩
set_option maxRecDepth 100000 in
set_option maxHeartbeats 4000000 in
theorem digit_a_4a (b : Nat) (t : J6.Txt) (vt : Value) (z k n : Nat) (hz : 48 ≤ z) (hz2 : z ≤ 57) (hk : k ≤ 4095) (hn : n = k * 16 + (z - 48)) (hlo : n < 55296) (hl : t.out.length ≤ 1000000) (w : World) (h : TxtAt w b t vt) (hkc : t.code = k) (hmc : t.count = 1) (hgc : t.high = 0) :
    Calls Try.prog 95 #[.pointer (some ⟨b, 0, none⟩), .int .u8 (z : Nat)] w (TxtPost w b vt (.takes, { t with code := n, count := 0, out := t.out ++ R6.sign8 n, mode := 0 })) := by
  have c0 : w.cell? ⟨b, 0, none⟩ = some (.int .i64 (t.mode : Nat)) := cellOf h.blk 0 rfl
  have f0 : w.frozen? ⟨b, 0, none⟩ = false := freeOf h.blk 0
  have c1 : w.cell? ⟨b, 1, none⟩ = some vt := cellOf h.blk 1 rfl
  have f1 : w.frozen? ⟨b, 1, none⟩ = false := freeOf h.blk 1
  have c2 : w.cell? ⟨b, 2, none⟩ = some (.int .i32 (k : Nat)) := by rw [← hkc]; exact cellOf h.blk 2 rfl
  have f2 : w.frozen? ⟨b, 2, none⟩ = false := freeOf h.blk 2
  have c3 : w.cell? ⟨b, 3, none⟩ = some (.int .i64 (1 : Nat)) := by rw [← hmc]; exact cellOf h.blk 3 rfl
  have f3 : w.frozen? ⟨b, 3, none⟩ = false := freeOf h.blk 3
  have c4 : w.cell? ⟨b, 4, none⟩ = some (.int .i32 (0 : Nat)) := by rw [← hgc]; exact cellOf h.blk 4 rfl
  have ez : (z : Int) - 48 = ((z - 48 : Nat) : Int) := by omega
  have hor : bits .or .i32 ((k : Int) * 16) ((z : Int) - 48) = (n : Int) := by rw [ez, or_digit k (z - 48) hk (by omega), hn]
  have hws : IntKind.i32.wrap ((k : Int) * 16) = (k : Int) * 16 := IntWalk.i32_in _ ⟨by omega, by omega⟩
  have hwu : IntKind.u8.wrap ((z : Int) - 48) = (z : Int) - 48 := IntWalk.u8_in _ ⟨by omega, by omega⟩
  have hwi : IntKind.i32.wrap ((z : Int) - 48) = (z : Int) - 48 := IntWalk.i32_in _ ⟨by omega, by omega⟩
  have y1 : (48 : Int) ≤ (z : Int) := by omega
  have y2 : (z : Int) ≤ 57 := by omega
  have w1 : decide ((56320 : Int) ≤ (n : Int)) = false := by simp; omega
  have w2 : decide ((55296 : Int) ≤ (n : Int)) = false := by simp; omega
  have h1 := (h.set 2 (.int .i32 (n : Nat)) { t with code := n } rfl rfl).set 3 (.int .i64 0) { t with code := n, count := 0 } rfl rfl
  have hf1 := ((Fr.refl (nfoot b vt) w).setCell (p := ⟨b, 2, none⟩) (.inl (.inl rfl)) (.int .i32 (n : Nat))).setCell (p := ⟨b, 3, none⟩) (.inl (.inl rfl)) (.int .i64 0)
  have hr := rune_put h1.drew n (by omega) (by omega)
  have H1 := Px.hid (And.intro h1 (And.intro hf1 hr))
  clear h h1 hf1 hr ez hn hk hz hz2 hkc hmc hgc hlo
  go_enter Try.func95, Try.ntmps95
  go_upto_region 21 with fail
  go_region_with
    (go_at_call 73; refine H1.out.2.2.mono ?_; rintro e w' ⟨va, n', vc, rfl, e1, d1, hK⟩)
  all_goals
    have hf0 := hK.out.2.2.2.1
    have hc0 := hK.out.2.2.2.2
    have HZ := Px.hid (And.intro (hK.out.1.set 0 (.int .i64 0) { t with code := n, count := 0, out := t.out ++ R6.sign8 n, mode := 0 } rfl rfl) (And.intro (((H1.out.2.1.drew).trans hK.out.2.1 (fun _ _ x => x)).setCell (p := ⟨b, 0, none⟩) (.inl (.inl rfl)) (.int .i64 0)) (Fresh.trans (Fresh.refl w (nfoot b vt)) (H1.out.2.1.drew).size hK.out.2.2.1)))
    clear hK
    go_wp2
    go_ret
    exact ⟨rfl, _, HZ.out.1, HZ.out.2.1, HZ.out.2.2⟩
set_option maxRecDepth 100000 in
set_option maxHeartbeats 4000000 in
theorem digit_a_4b (b : Nat) (t : J6.Txt) (vt : Value) (z k n : Nat) (hz : 48 ≤ z) (hz2 : z ≤ 57) (hk : k ≤ 4095) (hn : n = k * 16 + (z - 48)) (hlo : 57344 ≤ n) (hl : t.out.length ≤ 1000000) (w : World) (h : TxtAt w b t vt) (hkc : t.code = k) (hmc : t.count = 1) (hgc : t.high = 0) :
    Calls Try.prog 95 #[.pointer (some ⟨b, 0, none⟩), .int .u8 (z : Nat)] w (TxtPost w b vt (.takes, { t with code := n, count := 0, out := t.out ++ R6.sign8 n, mode := 0 })) := by
  have c0 : w.cell? ⟨b, 0, none⟩ = some (.int .i64 (t.mode : Nat)) := cellOf h.blk 0 rfl
  have f0 : w.frozen? ⟨b, 0, none⟩ = false := freeOf h.blk 0
  have c1 : w.cell? ⟨b, 1, none⟩ = some vt := cellOf h.blk 1 rfl
  have f1 : w.frozen? ⟨b, 1, none⟩ = false := freeOf h.blk 1
  have c2 : w.cell? ⟨b, 2, none⟩ = some (.int .i32 (k : Nat)) := by rw [← hkc]; exact cellOf h.blk 2 rfl
  have f2 : w.frozen? ⟨b, 2, none⟩ = false := freeOf h.blk 2
  have c3 : w.cell? ⟨b, 3, none⟩ = some (.int .i64 (1 : Nat)) := by rw [← hmc]; exact cellOf h.blk 3 rfl
  have f3 : w.frozen? ⟨b, 3, none⟩ = false := freeOf h.blk 3
  have c4 : w.cell? ⟨b, 4, none⟩ = some (.int .i32 (0 : Nat)) := by rw [← hgc]; exact cellOf h.blk 4 rfl
  have ez : (z : Int) - 48 = ((z - 48 : Nat) : Int) := by omega
  have hor : bits .or .i32 ((k : Int) * 16) ((z : Int) - 48) = (n : Int) := by rw [ez, or_digit k (z - 48) hk (by omega), hn]
  have hws : IntKind.i32.wrap ((k : Int) * 16) = (k : Int) * 16 := IntWalk.i32_in _ ⟨by omega, by omega⟩
  have hwu : IntKind.u8.wrap ((z : Int) - 48) = (z : Int) - 48 := IntWalk.u8_in _ ⟨by omega, by omega⟩
  have hwi : IntKind.i32.wrap ((z : Int) - 48) = (z : Int) - 48 := IntWalk.i32_in _ ⟨by omega, by omega⟩
  have y1 : (48 : Int) ≤ (z : Int) := by omega
  have y2 : (z : Int) ≤ 57 := by omega
  have w1 : (56320 : Int) ≤ (n : Int) := by omega
  have w2 : (55296 : Int) ≤ (n : Int) := by omega
  have w3 : decide ((n : Int) < 57344) = false := by simp; omega
  have w4 : decide ((n : Int) < 56320) = false := by simp; omega
  have h1 := (h.set 2 (.int .i32 (n : Nat)) { t with code := n } rfl rfl).set 3 (.int .i64 0) { t with code := n, count := 0 } rfl rfl
  have hf1 := ((Fr.refl (nfoot b vt) w).setCell (p := ⟨b, 2, none⟩) (.inl (.inl rfl)) (.int .i32 (n : Nat))).setCell (p := ⟨b, 3, none⟩) (.inl (.inl rfl)) (.int .i64 0)
  have hr := rune_put h1.drew n (by omega) (by omega)
  have H1 := Px.hid (And.intro h1 (And.intro hf1 hr))
  clear h h1 hf1 hr ez hn hk hz hz2 hkc hmc hgc hlo
  go_enter Try.func95, Try.ntmps95
  go_upto_region 21 with fail
  go_region_with
    (go_at_call 73; refine H1.out.2.2.mono ?_; rintro e w' ⟨va, n', vc, rfl, e1, d1, hK⟩)
  all_goals
    have hf0 := hK.out.2.2.2.1
    have hc0 := hK.out.2.2.2.2
    have HZ := Px.hid (And.intro (hK.out.1.set 0 (.int .i64 0) { t with code := n, count := 0, out := t.out ++ R6.sign8 n, mode := 0 } rfl rfl) (And.intro (((H1.out.2.1.drew).trans hK.out.2.1 (fun _ _ x => x)).setCell (p := ⟨b, 0, none⟩) (.inl (.inl rfl)) (.int .i64 0)) (Fresh.trans (Fresh.refl w (nfoot b vt)) (H1.out.2.1.drew).size hK.out.2.2.1)))
    clear hK
    go_wp2
    go_ret
    exact ⟨rfl, _, HZ.out.1, HZ.out.2.1, HZ.out.2.2⟩
set_option maxRecDepth 100000 in
set_option maxHeartbeats 4000000 in
theorem digit_b_4a (b : Nat) (t : J6.Txt) (vt : Value) (z k n : Nat) (hz : 97 ≤ z) (hz2 : z ≤ 102) (hk : k ≤ 4095) (hn : n = k * 16 + (z - 87)) (hlo : n < 55296) (hl : t.out.length ≤ 1000000) (w : World) (h : TxtAt w b t vt) (hkc : t.code = k) (hmc : t.count = 1) (hgc : t.high = 0) :
    Calls Try.prog 95 #[.pointer (some ⟨b, 0, none⟩), .int .u8 (z : Nat)] w (TxtPost w b vt (.takes, { t with code := n, count := 0, out := t.out ++ R6.sign8 n, mode := 0 })) := by
  have c0 : w.cell? ⟨b, 0, none⟩ = some (.int .i64 (t.mode : Nat)) := cellOf h.blk 0 rfl
  have f0 : w.frozen? ⟨b, 0, none⟩ = false := freeOf h.blk 0
  have c1 : w.cell? ⟨b, 1, none⟩ = some vt := cellOf h.blk 1 rfl
  have f1 : w.frozen? ⟨b, 1, none⟩ = false := freeOf h.blk 1
  have c2 : w.cell? ⟨b, 2, none⟩ = some (.int .i32 (k : Nat)) := by rw [← hkc]; exact cellOf h.blk 2 rfl
  have f2 : w.frozen? ⟨b, 2, none⟩ = false := freeOf h.blk 2
  have c3 : w.cell? ⟨b, 3, none⟩ = some (.int .i64 (1 : Nat)) := by rw [← hmc]; exact cellOf h.blk 3 rfl
  have f3 : w.frozen? ⟨b, 3, none⟩ = false := freeOf h.blk 3
  have c4 : w.cell? ⟨b, 4, none⟩ = some (.int .i32 (0 : Nat)) := by rw [← hgc]; exact cellOf h.blk 4 rfl
  have ez : (z : Int) - 87 = ((z - 87 : Nat) : Int) := by omega
  have hor : bits .or .i32 ((k : Int) * 16) ((z : Int) - 87) = (n : Int) := by rw [ez, or_digit k (z - 87) hk (by omega), hn]
  have hws : IntKind.i32.wrap ((k : Int) * 16) = (k : Int) * 16 := IntWalk.i32_in _ ⟨by omega, by omega⟩
  have hwu : IntKind.u8.wrap ((z : Int) - 87) = (z : Int) - 87 := IntWalk.u8_in _ ⟨by omega, by omega⟩
  have hwi : IntKind.i32.wrap ((z : Int) - 87) = (z : Int) - 87 := IntWalk.i32_in _ ⟨by omega, by omega⟩
  have y1 : (48 : Int) ≤ (z : Int) := by omega
  have y2 : decide ((z : Int) ≤ 57) = false := by simp; omega
  have y3 : (97 : Int) ≤ (z : Int) := by omega
  have y4 : (z : Int) ≤ 102 := by omega
  have w1 : decide ((56320 : Int) ≤ (n : Int)) = false := by simp; omega
  have w2 : decide ((55296 : Int) ≤ (n : Int)) = false := by simp; omega
  have h1 := (h.set 2 (.int .i32 (n : Nat)) { t with code := n } rfl rfl).set 3 (.int .i64 0) { t with code := n, count := 0 } rfl rfl
  have hf1 := ((Fr.refl (nfoot b vt) w).setCell (p := ⟨b, 2, none⟩) (.inl (.inl rfl)) (.int .i32 (n : Nat))).setCell (p := ⟨b, 3, none⟩) (.inl (.inl rfl)) (.int .i64 0)
  have hr := rune_put h1.drew n (by omega) (by omega)
  have H1 := Px.hid (And.intro h1 (And.intro hf1 hr))
  clear h h1 hf1 hr ez hn hk hz hz2 hkc hmc hgc hlo
  go_enter Try.func95, Try.ntmps95
  go_upto_region 21 with fail
  go_region_with
    (go_at_call 73; refine H1.out.2.2.mono ?_; rintro e w' ⟨va, n', vc, rfl, e1, d1, hK⟩)
  all_goals
    have hf0 := hK.out.2.2.2.1
    have hc0 := hK.out.2.2.2.2
    have HZ := Px.hid (And.intro (hK.out.1.set 0 (.int .i64 0) { t with code := n, count := 0, out := t.out ++ R6.sign8 n, mode := 0 } rfl rfl) (And.intro (((H1.out.2.1.drew).trans hK.out.2.1 (fun _ _ x => x)).setCell (p := ⟨b, 0, none⟩) (.inl (.inl rfl)) (.int .i64 0)) (Fresh.trans (Fresh.refl w (nfoot b vt)) (H1.out.2.1.drew).size hK.out.2.2.1)))
    clear hK
    go_wp2
    go_ret
    exact ⟨rfl, _, HZ.out.1, HZ.out.2.1, HZ.out.2.2⟩
set_option maxRecDepth 100000 in
set_option maxHeartbeats 4000000 in
theorem digit_b_4b (b : Nat) (t : J6.Txt) (vt : Value) (z k n : Nat) (hz : 97 ≤ z) (hz2 : z ≤ 102) (hk : k ≤ 4095) (hn : n = k * 16 + (z - 87)) (hlo : 57344 ≤ n) (hl : t.out.length ≤ 1000000) (w : World) (h : TxtAt w b t vt) (hkc : t.code = k) (hmc : t.count = 1) (hgc : t.high = 0) :
    Calls Try.prog 95 #[.pointer (some ⟨b, 0, none⟩), .int .u8 (z : Nat)] w (TxtPost w b vt (.takes, { t with code := n, count := 0, out := t.out ++ R6.sign8 n, mode := 0 })) := by
  have c0 : w.cell? ⟨b, 0, none⟩ = some (.int .i64 (t.mode : Nat)) := cellOf h.blk 0 rfl
  have f0 : w.frozen? ⟨b, 0, none⟩ = false := freeOf h.blk 0
  have c1 : w.cell? ⟨b, 1, none⟩ = some vt := cellOf h.blk 1 rfl
  have f1 : w.frozen? ⟨b, 1, none⟩ = false := freeOf h.blk 1
  have c2 : w.cell? ⟨b, 2, none⟩ = some (.int .i32 (k : Nat)) := by rw [← hkc]; exact cellOf h.blk 2 rfl
  have f2 : w.frozen? ⟨b, 2, none⟩ = false := freeOf h.blk 2
  have c3 : w.cell? ⟨b, 3, none⟩ = some (.int .i64 (1 : Nat)) := by rw [← hmc]; exact cellOf h.blk 3 rfl
  have f3 : w.frozen? ⟨b, 3, none⟩ = false := freeOf h.blk 3
  have c4 : w.cell? ⟨b, 4, none⟩ = some (.int .i32 (0 : Nat)) := by rw [← hgc]; exact cellOf h.blk 4 rfl
  have ez : (z : Int) - 87 = ((z - 87 : Nat) : Int) := by omega
  have hor : bits .or .i32 ((k : Int) * 16) ((z : Int) - 87) = (n : Int) := by rw [ez, or_digit k (z - 87) hk (by omega), hn]
  have hws : IntKind.i32.wrap ((k : Int) * 16) = (k : Int) * 16 := IntWalk.i32_in _ ⟨by omega, by omega⟩
  have hwu : IntKind.u8.wrap ((z : Int) - 87) = (z : Int) - 87 := IntWalk.u8_in _ ⟨by omega, by omega⟩
  have hwi : IntKind.i32.wrap ((z : Int) - 87) = (z : Int) - 87 := IntWalk.i32_in _ ⟨by omega, by omega⟩
  have y1 : (48 : Int) ≤ (z : Int) := by omega
  have y2 : decide ((z : Int) ≤ 57) = false := by simp; omega
  have y3 : (97 : Int) ≤ (z : Int) := by omega
  have y4 : (z : Int) ≤ 102 := by omega
  have w1 : (56320 : Int) ≤ (n : Int) := by omega
  have w2 : (55296 : Int) ≤ (n : Int) := by omega
  have w3 : decide ((n : Int) < 57344) = false := by simp; omega
  have w4 : decide ((n : Int) < 56320) = false := by simp; omega
  have h1 := (h.set 2 (.int .i32 (n : Nat)) { t with code := n } rfl rfl).set 3 (.int .i64 0) { t with code := n, count := 0 } rfl rfl
  have hf1 := ((Fr.refl (nfoot b vt) w).setCell (p := ⟨b, 2, none⟩) (.inl (.inl rfl)) (.int .i32 (n : Nat))).setCell (p := ⟨b, 3, none⟩) (.inl (.inl rfl)) (.int .i64 0)
  have hr := rune_put h1.drew n (by omega) (by omega)
  have H1 := Px.hid (And.intro h1 (And.intro hf1 hr))
  clear h h1 hf1 hr ez hn hk hz hz2 hkc hmc hgc hlo
  go_enter Try.func95, Try.ntmps95
  go_upto_region 21 with fail
  go_region_with
    (go_at_call 73; refine H1.out.2.2.mono ?_; rintro e w' ⟨va, n', vc, rfl, e1, d1, hK⟩)
  all_goals
    have hf0 := hK.out.2.2.2.1
    have hc0 := hK.out.2.2.2.2
    have HZ := Px.hid (And.intro (hK.out.1.set 0 (.int .i64 0) { t with code := n, count := 0, out := t.out ++ R6.sign8 n, mode := 0 } rfl rfl) (And.intro (((H1.out.2.1.drew).trans hK.out.2.1 (fun _ _ x => x)).setCell (p := ⟨b, 0, none⟩) (.inl (.inl rfl)) (.int .i64 0)) (Fresh.trans (Fresh.refl w (nfoot b vt)) (H1.out.2.1.drew).size hK.out.2.2.1)))
    clear hK
    go_wp2
    go_ret
    exact ⟨rfl, _, HZ.out.1, HZ.out.2.1, HZ.out.2.2⟩
set_option maxRecDepth 100000 in
set_option maxHeartbeats 4000000 in
theorem digit_c_4a (b : Nat) (t : J6.Txt) (vt : Value) (z k n : Nat) (hz : 65 ≤ z) (hz2 : z ≤ 70) (hk : k ≤ 4095) (hn : n = k * 16 + (z - 55)) (hlo : n < 55296) (hl : t.out.length ≤ 1000000) (w : World) (h : TxtAt w b t vt) (hkc : t.code = k) (hmc : t.count = 1) (hgc : t.high = 0) :
    Calls Try.prog 95 #[.pointer (some ⟨b, 0, none⟩), .int .u8 (z : Nat)] w (TxtPost w b vt (.takes, { t with code := n, count := 0, out := t.out ++ R6.sign8 n, mode := 0 })) := by
  have c0 : w.cell? ⟨b, 0, none⟩ = some (.int .i64 (t.mode : Nat)) := cellOf h.blk 0 rfl
  have f0 : w.frozen? ⟨b, 0, none⟩ = false := freeOf h.blk 0
  have c1 : w.cell? ⟨b, 1, none⟩ = some vt := cellOf h.blk 1 rfl
  have f1 : w.frozen? ⟨b, 1, none⟩ = false := freeOf h.blk 1
  have c2 : w.cell? ⟨b, 2, none⟩ = some (.int .i32 (k : Nat)) := by rw [← hkc]; exact cellOf h.blk 2 rfl
  have f2 : w.frozen? ⟨b, 2, none⟩ = false := freeOf h.blk 2
  have c3 : w.cell? ⟨b, 3, none⟩ = some (.int .i64 (1 : Nat)) := by rw [← hmc]; exact cellOf h.blk 3 rfl
  have f3 : w.frozen? ⟨b, 3, none⟩ = false := freeOf h.blk 3
  have c4 : w.cell? ⟨b, 4, none⟩ = some (.int .i32 (0 : Nat)) := by rw [← hgc]; exact cellOf h.blk 4 rfl
  have ez : (z : Int) - 55 = ((z - 55 : Nat) : Int) := by omega
  have hor : bits .or .i32 ((k : Int) * 16) ((z : Int) - 55) = (n : Int) := by rw [ez, or_digit k (z - 55) hk (by omega), hn]
  have hws : IntKind.i32.wrap ((k : Int) * 16) = (k : Int) * 16 := IntWalk.i32_in _ ⟨by omega, by omega⟩
  have hwu : IntKind.u8.wrap ((z : Int) - 55) = (z : Int) - 55 := IntWalk.u8_in _ ⟨by omega, by omega⟩
  have hwi : IntKind.i32.wrap ((z : Int) - 55) = (z : Int) - 55 := IntWalk.i32_in _ ⟨by omega, by omega⟩
  have y1 : (48 : Int) ≤ (z : Int) := by omega
  have y2 : decide ((z : Int) ≤ 57) = false := by simp; omega
  have y3 : decide ((97 : Int) ≤ (z : Int)) = false := by simp; omega
  have y4 : (65 : Int) ≤ (z : Int) := by omega
  have y5 : (z : Int) ≤ 70 := by omega
  have w1 : decide ((56320 : Int) ≤ (n : Int)) = false := by simp; omega
  have w2 : decide ((55296 : Int) ≤ (n : Int)) = false := by simp; omega
  have h1 := (h.set 2 (.int .i32 (n : Nat)) { t with code := n } rfl rfl).set 3 (.int .i64 0) { t with code := n, count := 0 } rfl rfl
  have hf1 := ((Fr.refl (nfoot b vt) w).setCell (p := ⟨b, 2, none⟩) (.inl (.inl rfl)) (.int .i32 (n : Nat))).setCell (p := ⟨b, 3, none⟩) (.inl (.inl rfl)) (.int .i64 0)
  have hr := rune_put h1.drew n (by omega) (by omega)
  have H1 := Px.hid (And.intro h1 (And.intro hf1 hr))
  clear h h1 hf1 hr ez hn hk hz hz2 hkc hmc hgc hlo
  go_enter Try.func95, Try.ntmps95
  go_upto_region 21 with fail
  go_region_with
    (go_at_call 73; refine H1.out.2.2.mono ?_; rintro e w' ⟨va, n', vc, rfl, e1, d1, hK⟩)
  all_goals
    have hf0 := hK.out.2.2.2.1
    have hc0 := hK.out.2.2.2.2
    have HZ := Px.hid (And.intro (hK.out.1.set 0 (.int .i64 0) { t with code := n, count := 0, out := t.out ++ R6.sign8 n, mode := 0 } rfl rfl) (And.intro (((H1.out.2.1.drew).trans hK.out.2.1 (fun _ _ x => x)).setCell (p := ⟨b, 0, none⟩) (.inl (.inl rfl)) (.int .i64 0)) (Fresh.trans (Fresh.refl w (nfoot b vt)) (H1.out.2.1.drew).size hK.out.2.2.1)))
    clear hK
    go_wp2
    go_ret
    exact ⟨rfl, _, HZ.out.1, HZ.out.2.1, HZ.out.2.2⟩
set_option maxRecDepth 100000 in
set_option maxHeartbeats 4000000 in
theorem digit_c_4b (b : Nat) (t : J6.Txt) (vt : Value) (z k n : Nat) (hz : 65 ≤ z) (hz2 : z ≤ 70) (hk : k ≤ 4095) (hn : n = k * 16 + (z - 55)) (hlo : 57344 ≤ n) (hl : t.out.length ≤ 1000000) (w : World) (h : TxtAt w b t vt) (hkc : t.code = k) (hmc : t.count = 1) (hgc : t.high = 0) :
    Calls Try.prog 95 #[.pointer (some ⟨b, 0, none⟩), .int .u8 (z : Nat)] w (TxtPost w b vt (.takes, { t with code := n, count := 0, out := t.out ++ R6.sign8 n, mode := 0 })) := by
  have c0 : w.cell? ⟨b, 0, none⟩ = some (.int .i64 (t.mode : Nat)) := cellOf h.blk 0 rfl
  have f0 : w.frozen? ⟨b, 0, none⟩ = false := freeOf h.blk 0
  have c1 : w.cell? ⟨b, 1, none⟩ = some vt := cellOf h.blk 1 rfl
  have f1 : w.frozen? ⟨b, 1, none⟩ = false := freeOf h.blk 1
  have c2 : w.cell? ⟨b, 2, none⟩ = some (.int .i32 (k : Nat)) := by rw [← hkc]; exact cellOf h.blk 2 rfl
  have f2 : w.frozen? ⟨b, 2, none⟩ = false := freeOf h.blk 2
  have c3 : w.cell? ⟨b, 3, none⟩ = some (.int .i64 (1 : Nat)) := by rw [← hmc]; exact cellOf h.blk 3 rfl
  have f3 : w.frozen? ⟨b, 3, none⟩ = false := freeOf h.blk 3
  have c4 : w.cell? ⟨b, 4, none⟩ = some (.int .i32 (0 : Nat)) := by rw [← hgc]; exact cellOf h.blk 4 rfl
  have ez : (z : Int) - 55 = ((z - 55 : Nat) : Int) := by omega
  have hor : bits .or .i32 ((k : Int) * 16) ((z : Int) - 55) = (n : Int) := by rw [ez, or_digit k (z - 55) hk (by omega), hn]
  have hws : IntKind.i32.wrap ((k : Int) * 16) = (k : Int) * 16 := IntWalk.i32_in _ ⟨by omega, by omega⟩
  have hwu : IntKind.u8.wrap ((z : Int) - 55) = (z : Int) - 55 := IntWalk.u8_in _ ⟨by omega, by omega⟩
  have hwi : IntKind.i32.wrap ((z : Int) - 55) = (z : Int) - 55 := IntWalk.i32_in _ ⟨by omega, by omega⟩
  have y1 : (48 : Int) ≤ (z : Int) := by omega
  have y2 : decide ((z : Int) ≤ 57) = false := by simp; omega
  have y3 : decide ((97 : Int) ≤ (z : Int)) = false := by simp; omega
  have y4 : (65 : Int) ≤ (z : Int) := by omega
  have y5 : (z : Int) ≤ 70 := by omega
  have w1 : (56320 : Int) ≤ (n : Int) := by omega
  have w2 : (55296 : Int) ≤ (n : Int) := by omega
  have w3 : decide ((n : Int) < 57344) = false := by simp; omega
  have w4 : decide ((n : Int) < 56320) = false := by simp; omega
  have h1 := (h.set 2 (.int .i32 (n : Nat)) { t with code := n } rfl rfl).set 3 (.int .i64 0) { t with code := n, count := 0 } rfl rfl
  have hf1 := ((Fr.refl (nfoot b vt) w).setCell (p := ⟨b, 2, none⟩) (.inl (.inl rfl)) (.int .i32 (n : Nat))).setCell (p := ⟨b, 3, none⟩) (.inl (.inl rfl)) (.int .i64 0)
  have hr := rune_put h1.drew n (by omega) (by omega)
  have H1 := Px.hid (And.intro h1 (And.intro hf1 hr))
  clear h h1 hf1 hr ez hn hk hz hz2 hkc hmc hgc hlo
  go_enter Try.func95, Try.ntmps95
  go_upto_region 21 with fail
  go_region_with
    (go_at_call 73; refine H1.out.2.2.mono ?_; rintro e w' ⟨va, n', vc, rfl, e1, d1, hK⟩)
  all_goals
    have hf0 := hK.out.2.2.2.1
    have hc0 := hK.out.2.2.2.2
    have HZ := Px.hid (And.intro (hK.out.1.set 0 (.int .i64 0) { t with code := n, count := 0, out := t.out ++ R6.sign8 n, mode := 0 } rfl rfl) (And.intro (((H1.out.2.1.drew).trans hK.out.2.1 (fun _ _ x => x)).setCell (p := ⟨b, 0, none⟩) (.inl (.inl rfl)) (.int .i64 0)) (Fresh.trans (Fresh.refl w (nfoot b vt)) (H1.out.2.1.drew).size hK.out.2.2.1)))
    clear hK
    go_wp2
    go_ret
    exact ⟨rfl, _, HZ.out.1, HZ.out.2.1, HZ.out.2.2⟩
end Go.Proofs.Ytahojodgmjmpnaa
