/-
  The walk over jsonfeed's text.digit: the ends that append nothing (printed by gen_wf.py).
-/
import Derived.Test.YtahojodgmjmpnaaWeJ
namespace Go.Proofs.Ytahojodgmjmpnaa
open Go.RowKit Go.Px

theorem or_digit (k h : Nat) (hk : k ≤ 4095) (hh : h < 16) : bits .or .i32 ((k : Int) * 16) (h : Int) = ((k * 16 + h : Nat) : Int) := by
  have hx : k * 16 ||| h < 2 ^ 16 := Nat.or_lt_two_pow (by omega) (by omega)
  have e1 : ((k : Int) * 16) = ((k * 16 : Nat) : Int) := by omega
  rw [e1]
  show IntKind.i32.wrap ((BitVec.ofInt 32 ((k * 16 : Nat) : Int) ||| BitVec.ofInt 32 (h : Int)).toNat : Int) = _
  have e : ∀ x : Nat, x < 65536 → (BitVec.ofInt 32 (x : Int)).toNat = x := fun x h => by simp; omega
  rw [BitVec.toNat_or, e (k * 16) (by omega) , e h (by omega), IntWalk.i32_in _ ⟨by omega, by omega⟩]
  have := Nat.shiftLeft_add_eq_or_of_lt (show h < 2 ^ 4 by simpa using hh) k
  rw [Nat.shiftLeft_eq] at this
  rw [show k * 16 = k * 2 ^ 4 by omega, ← this]
theorem digit_res (t : J6.Txt) (z h : Nat) (hh : R6.hex z = some h) : J6.digitTake t z = if 1 < t.count then (.takes, { t with code := t.code * 16 + h, count := t.count - 1 }) else J6.fourth t (t.code * 16 + h) := by
  unfold J6.digitTake
  rw [hh]
set_option maxRecDepth 100000 in
set_option maxHeartbeats 4000000 in
theorem digit_a_t (b : Nat) (t : J6.Txt) (vt : Value) (z k n : Nat) (m : Nat) (g : Nat) (hz : 48 ≤ z) (hz2 : z ≤ 57) (hk : k ≤ 4095) (hn : n = k * 16 + (z - 48)) (hm : 1 < m) (hm4 : m ≤ 4) (w : World) (h : TxtAt w b t vt) (hkc : t.code = k) (hmc : t.count = m) (hgc : t.high = g) :
    Calls Try.prog 95 #[.pointer (some ⟨b, 0, none⟩), .int .u8 (z : Nat)] w (TxtPost w b vt (.takes, { t with code := n, count := m - 1 })) := by
  have c2 : w.cell? ⟨b, 2, none⟩ = some (.int .i32 (k : Nat)) := by rw [← hkc]; exact cellOf h.blk 2 rfl
  have f2 : w.frozen? ⟨b, 2, none⟩ = false := freeOf h.blk 2
  have c3 : w.cell? ⟨b, 3, none⟩ = some (.int .i64 (m : Nat)) := by rw [← hmc]; exact cellOf h.blk 3 rfl
  have f3 : w.frozen? ⟨b, 3, none⟩ = false := freeOf h.blk 3
  have c4 : w.cell? ⟨b, 4, none⟩ = some (.int .i32 (g : Nat)) := by rw [← hgc]; exact cellOf h.blk 4 rfl
  have ez : (z : Int) - 48 = ((z - 48 : Nat) : Int) := by omega
  have hor : bits .or .i32 ((k : Int) * 16) ((z : Int) - 48) = (n : Int) := by rw [ez, or_digit k (z - 48) hk (by omega), hn]
  have hws : IntKind.i32.wrap ((k : Int) * 16) = (k : Int) * 16 := IntWalk.i32_in _ ⟨by omega, by omega⟩
  have hwu : IntKind.u8.wrap ((z : Int) - 48) = (z : Int) - 48 := IntWalk.u8_in _ ⟨by omega, by omega⟩
  have hwi : IntKind.i32.wrap ((z : Int) - 48) = (z : Int) - 48 := IntWalk.i32_in _ ⟨by omega, by omega⟩
  have y1 : (48 : Int) ≤ (z : Int) := by omega
  have y2 : (z : Int) ≤ 57 := by omega
  have zc : (0 : Int) < (m : Int) - 1 := by omega
  have hwm : IntKind.i64.wrap ((m : Int) - 1) = (m : Int) - 1 := IntWalk.i64_in _ ⟨by omega, by omega⟩
  have em : ((m - 1 : Nat) : Int) = (m : Int) - 1 := by omega
  have h1 := (h.set 2 (.int .i32 (n : Nat)) { t with code := n } rfl rfl).set 3 (.int .i64 (m - 1 : Nat)) { t with code := n, count := m - 1 } rfl rfl
  have hf1 := ((Fr.refl (nfoot b vt) w).setCell (p := ⟨b, 2, none⟩) (.inl (.inl rfl)) (.int .i32 (n : Nat))).setCell (p := ⟨b, 3, none⟩) (.inl (.inl rfl)) (.int .i64 (m - 1 : Nat))
  rw [em] at h1 hf1
  have H1 := Px.hid (And.intro h1 hf1)
  clear h h1 hf1 ez hn hk hz hz2 hkc hmc hgc hm hm4 em
  go_enter Try.func95, Try.ntmps95
  go_wp2
  go_ret
  exact ⟨rfl, _, H1.out.1, H1.out.2, Fresh.refl _ _⟩
set_option maxRecDepth 100000 in
set_option maxHeartbeats 4000000 in
theorem digit_a_r1 (b : Nat) (t : J6.Txt) (vt : Value) (z k n : Nat) (hz : 48 ≤ z) (hz2 : z ≤ 57) (hk : k ≤ 4095) (hn : n = k * 16 + (z - 48)) (hlo : 56320 ≤ n) (hhi : n < 57344) (w : World) (h : TxtAt w b t vt) (hkc : t.code = k) (hmc : t.count = 1) (hgc : t.high = 0) :
    Calls Try.prog 95 #[.pointer (some ⟨b, 0, none⟩), .int .u8 (z : Nat)] w (TxtPost w b vt (.refuses, { t with code := n, count := 0 })) := by
  have c2 : w.cell? ⟨b, 2, none⟩ = some (.int .i32 (k : Nat)) := by rw [← hkc]; exact cellOf h.blk 2 rfl
  have f2 : w.frozen? ⟨b, 2, none⟩ = false := freeOf h.blk 2
  have c3 : w.cell? ⟨b, 3, none⟩ = some (.int .i64 (1 : Nat)) := by rw [← hmc]; exact cellOf h.blk 3 rfl
  have f3 : w.frozen? ⟨b, 3, none⟩ = false := freeOf h.blk 3
  have c4 : w.cell? ⟨b, 4, none⟩ = some (.int .i32 (0 : Nat)) := by rw [← hgc]; exact cellOf h.blk 4 rfl
  have ez : (z : Int) - 48 = ((z - 48 : Nat) : Int) := by omega
  have hor : bits .or .i32 ((k : Int) * 16) ((z : Int) - 48) = (n : Int) := by rw [ez, or_digit k (z - 48) hk (by omega), hn]
  have hws : IntKind.i32.wrap ((k : Int) * 16) = (k : Int) * 16 := IntWalk.i32_in _ ⟨by omega, by omega⟩
  have hwu : IntKind.u8.wrap ((z : Int) - 48) = (z : Int) - 48 := IntWalk.u8_in _ ⟨by omega, by omega⟩
  have hwi : IntKind.i32.wrap ((z : Int) - 48) = (z : Int) - 48 := IntWalk.i32_in _ ⟨by omega, by omega⟩
  have y1 : (48 : Int) ≤ (z : Int) := by omega
  have y2 : (z : Int) ≤ 57 := by omega
  have w1 : (56320 : Int) ≤ (n : Int) := by omega
  have w2 : (n : Int) < 57344 := by omega
  have h1 := (h.set 2 (.int .i32 (n : Nat)) { t with code := n } rfl rfl).set 3 (.int .i64 0) { t with code := n, count := 0 } rfl rfl
  have hf1 := ((Fr.refl (nfoot b vt) w).setCell (p := ⟨b, 2, none⟩) (.inl (.inl rfl)) (.int .i32 (n : Nat))).setCell (p := ⟨b, 3, none⟩) (.inl (.inl rfl)) (.int .i64 0)
  have H1 := Px.hid (And.intro h1 hf1)
  clear h h1 hf1 ez hn hk hz hz2 hkc hmc hgc hlo hhi
  go_enter Try.func95, Try.ntmps95
  go_wp2
  go_ret
  exact ⟨rfl, _, H1.out.1, H1.out.2, Fresh.refl _ _⟩
set_option maxRecDepth 100000 in
set_option maxHeartbeats 4000000 in
theorem digit_a_r2a (b : Nat) (t : J6.Txt) (vt : Value) (z k n : Nat) (g : Nat) (hz : 48 ≤ z) (hz2 : z ≤ 57) (hk : k ≤ 4095) (hn : n = k * 16 + (z - 48)) (hlo : n < 56320) (hg : g ≠ 0) (w : World) (h : TxtAt w b t vt) (hkc : t.code = k) (hmc : t.count = 1) (hgc : t.high = g) :
    Calls Try.prog 95 #[.pointer (some ⟨b, 0, none⟩), .int .u8 (z : Nat)] w (TxtPost w b vt (.refuses, { t with code := n, count := 0 })) := by
  have c2 : w.cell? ⟨b, 2, none⟩ = some (.int .i32 (k : Nat)) := by rw [← hkc]; exact cellOf h.blk 2 rfl
  have f2 : w.frozen? ⟨b, 2, none⟩ = false := freeOf h.blk 2
  have c3 : w.cell? ⟨b, 3, none⟩ = some (.int .i64 (1 : Nat)) := by rw [← hmc]; exact cellOf h.blk 3 rfl
  have f3 : w.frozen? ⟨b, 3, none⟩ = false := freeOf h.blk 3
  have c4 : w.cell? ⟨b, 4, none⟩ = some (.int .i32 (g : Nat)) := by rw [← hgc]; exact cellOf h.blk 4 rfl
  have ez : (z : Int) - 48 = ((z - 48 : Nat) : Int) := by omega
  have hor : bits .or .i32 ((k : Int) * 16) ((z : Int) - 48) = (n : Int) := by rw [ez, or_digit k (z - 48) hk (by omega), hn]
  have hws : IntKind.i32.wrap ((k : Int) * 16) = (k : Int) * 16 := IntWalk.i32_in _ ⟨by omega, by omega⟩
  have hwu : IntKind.u8.wrap ((z : Int) - 48) = (z : Int) - 48 := IntWalk.u8_in _ ⟨by omega, by omega⟩
  have hwi : IntKind.i32.wrap ((z : Int) - 48) = (z : Int) - 48 := IntWalk.i32_in _ ⟨by omega, by omega⟩
  have y1 : (48 : Int) ≤ (z : Int) := by omega
  have y2 : (z : Int) ≤ 57 := by omega
  have w1 : decide ((56320 : Int) ≤ (n : Int)) = false := by simp; omega
  have w2 : ((g : Int) != 0) = true := by simp; omega
  have h1 := (h.set 2 (.int .i32 (n : Nat)) { t with code := n } rfl rfl).set 3 (.int .i64 0) { t with code := n, count := 0 } rfl rfl
  have hf1 := ((Fr.refl (nfoot b vt) w).setCell (p := ⟨b, 2, none⟩) (.inl (.inl rfl)) (.int .i32 (n : Nat))).setCell (p := ⟨b, 3, none⟩) (.inl (.inl rfl)) (.int .i64 0)
  have H1 := Px.hid (And.intro h1 hf1)
  clear h h1 hf1 ez hn hk hz hz2 hkc hmc hgc hlo hg
  go_enter Try.func95, Try.ntmps95
  go_wp2
  go_ret
  exact ⟨rfl, _, H1.out.1, H1.out.2, Fresh.refl _ _⟩
set_option maxRecDepth 100000 in
set_option maxHeartbeats 4000000 in
theorem digit_a_r2b (b : Nat) (t : J6.Txt) (vt : Value) (z k n : Nat) (g : Nat) (hz : 48 ≤ z) (hz2 : z ≤ 57) (hk : k ≤ 4095) (hn : n = k * 16 + (z - 48)) (hlo : 57344 ≤ n) (hg : g ≠ 0) (w : World) (h : TxtAt w b t vt) (hkc : t.code = k) (hmc : t.count = 1) (hgc : t.high = g) :
    Calls Try.prog 95 #[.pointer (some ⟨b, 0, none⟩), .int .u8 (z : Nat)] w (TxtPost w b vt (.refuses, { t with code := n, count := 0 })) := by
  have c2 : w.cell? ⟨b, 2, none⟩ = some (.int .i32 (k : Nat)) := by rw [← hkc]; exact cellOf h.blk 2 rfl
  have f2 : w.frozen? ⟨b, 2, none⟩ = false := freeOf h.blk 2
  have c3 : w.cell? ⟨b, 3, none⟩ = some (.int .i64 (1 : Nat)) := by rw [← hmc]; exact cellOf h.blk 3 rfl
  have f3 : w.frozen? ⟨b, 3, none⟩ = false := freeOf h.blk 3
  have c4 : w.cell? ⟨b, 4, none⟩ = some (.int .i32 (g : Nat)) := by rw [← hgc]; exact cellOf h.blk 4 rfl
  have ez : (z : Int) - 48 = ((z - 48 : Nat) : Int) := by omega
  have hor : bits .or .i32 ((k : Int) * 16) ((z : Int) - 48) = (n : Int) := by rw [ez, or_digit k (z - 48) hk (by omega), hn]
  have hws : IntKind.i32.wrap ((k : Int) * 16) = (k : Int) * 16 := IntWalk.i32_in _ ⟨by omega, by omega⟩
  have hwu : IntKind.u8.wrap ((z : Int) - 48) = (z : Int) - 48 := IntWalk.u8_in _ ⟨by omega, by omega⟩
  have hwi : IntKind.i32.wrap ((z : Int) - 48) = (z : Int) - 48 := IntWalk.i32_in _ ⟨by omega, by omega⟩
  have y1 : (48 : Int) ≤ (z : Int) := by omega
  have y2 : (z : Int) ≤ 57 := by omega
  have w1 : (56320 : Int) ≤ (n : Int) := by omega
  have w3 : decide ((n : Int) < 57344) = false := by simp; omega
  have w2 : ((g : Int) != 0) = true := by simp; omega
  have h1 := (h.set 2 (.int .i32 (n : Nat)) { t with code := n } rfl rfl).set 3 (.int .i64 0) { t with code := n, count := 0 } rfl rfl
  have hf1 := ((Fr.refl (nfoot b vt) w).setCell (p := ⟨b, 2, none⟩) (.inl (.inl rfl)) (.int .i32 (n : Nat))).setCell (p := ⟨b, 3, none⟩) (.inl (.inl rfl)) (.int .i64 0)
  have H1 := Px.hid (And.intro h1 hf1)
  clear h h1 hf1 ez hn hk hz hz2 hkc hmc hgc hlo hg
  go_enter Try.func95, Try.ntmps95
  go_wp2
  go_ret
  exact ⟨rfl, _, H1.out.1, H1.out.2, Fresh.refl _ _⟩
set_option maxRecDepth 100000 in
set_option maxHeartbeats 4000000 in
theorem digit_a_s (b : Nat) (t : J6.Txt) (vt : Value) (z k n : Nat) (hz : 48 ≤ z) (hz2 : z ≤ 57) (hk : k ≤ 4095) (hn : n = k * 16 + (z - 48)) (hlo : 55296 ≤ n) (hhi : n < 56320) (w : World) (h : TxtAt w b t vt) (hkc : t.code = k) (hmc : t.count = 1) (hgc : t.high = 0) :
    Calls Try.prog 95 #[.pointer (some ⟨b, 0, none⟩), .int .u8 (z : Nat)] w (TxtPost w b vt (.takes, { t with code := n, count := 0, high := n, mode := 3 })) := by
  have c2 : w.cell? ⟨b, 2, none⟩ = some (.int .i32 (k : Nat)) := by rw [← hkc]; exact cellOf h.blk 2 rfl
  have f2 : w.frozen? ⟨b, 2, none⟩ = false := freeOf h.blk 2
  have c3 : w.cell? ⟨b, 3, none⟩ = some (.int .i64 (1 : Nat)) := by rw [← hmc]; exact cellOf h.blk 3 rfl
  have f3 : w.frozen? ⟨b, 3, none⟩ = false := freeOf h.blk 3
  have c4 : w.cell? ⟨b, 4, none⟩ = some (.int .i32 (0 : Nat)) := by rw [← hgc]; exact cellOf h.blk 4 rfl
  have c0 : w.cell? ⟨b, 0, none⟩ = some (.int .i64 (t.mode : Nat)) := cellOf h.blk 0 rfl
  have f0 : w.frozen? ⟨b, 0, none⟩ = false := freeOf h.blk 0
  have f4 : w.frozen? ⟨b, 4, none⟩ = false := freeOf h.blk 4
  have ez : (z : Int) - 48 = ((z - 48 : Nat) : Int) := by omega
  have hor : bits .or .i32 ((k : Int) * 16) ((z : Int) - 48) = (n : Int) := by rw [ez, or_digit k (z - 48) hk (by omega), hn]
  have hws : IntKind.i32.wrap ((k : Int) * 16) = (k : Int) * 16 := IntWalk.i32_in _ ⟨by omega, by omega⟩
  have hwu : IntKind.u8.wrap ((z : Int) - 48) = (z : Int) - 48 := IntWalk.u8_in _ ⟨by omega, by omega⟩
  have hwi : IntKind.i32.wrap ((z : Int) - 48) = (z : Int) - 48 := IntWalk.i32_in _ ⟨by omega, by omega⟩
  have y1 : (48 : Int) ≤ (z : Int) := by omega
  have y2 : (z : Int) ≤ 57 := by omega
  have w1 : decide ((56320 : Int) ≤ (n : Int)) = false := by simp; omega
  have w2 : (55296 : Int) ≤ (n : Int) := by omega
  have w3 : (n : Int) < 56320 := by omega
  have h1 := (((h.set 2 (.int .i32 (n : Nat)) { t with code := n } rfl rfl).set 3 (.int .i64 0) { t with code := n, count := 0 } rfl rfl).set 4 (.int .i32 (n : Nat)) { t with code := n, count := 0, high := n } rfl rfl).set 0 (.int .i64 3) { t with code := n, count := 0, high := n, mode := 3 } rfl rfl
  have hf1 := ((((Fr.refl (nfoot b vt) w).setCell (p := ⟨b, 2, none⟩) (.inl (.inl rfl)) (.int .i32 (n : Nat))).setCell (p := ⟨b, 3, none⟩) (.inl (.inl rfl)) (.int .i64 0)).setCell (p := ⟨b, 4, none⟩) (.inl (.inl rfl)) (.int .i32 (n : Nat))).setCell (p := ⟨b, 0, none⟩) (.inl (.inl rfl)) (.int .i64 3)
  have H1 := Px.hid (And.intro h1 hf1)
  clear h h1 hf1 ez hn hk hz hz2 hkc hmc hgc hlo hhi
  go_enter Try.func95, Try.ntmps95
  go_wp2
  go_ret
  exact ⟨rfl, _, H1.out.1, H1.out.2, Fresh.refl _ _⟩
set_option maxRecDepth 100000 in
set_option maxHeartbeats 4000000 in
theorem digit_b_t (b : Nat) (t : J6.Txt) (vt : Value) (z k n : Nat) (m : Nat) (g : Nat) (hz : 97 ≤ z) (hz2 : z ≤ 102) (hk : k ≤ 4095) (hn : n = k * 16 + (z - 87)) (hm : 1 < m) (hm4 : m ≤ 4) (w : World) (h : TxtAt w b t vt) (hkc : t.code = k) (hmc : t.count = m) (hgc : t.high = g) :
    Calls Try.prog 95 #[.pointer (some ⟨b, 0, none⟩), .int .u8 (z : Nat)] w (TxtPost w b vt (.takes, { t with code := n, count := m - 1 })) := by
  have c2 : w.cell? ⟨b, 2, none⟩ = some (.int .i32 (k : Nat)) := by rw [← hkc]; exact cellOf h.blk 2 rfl
  have f2 : w.frozen? ⟨b, 2, none⟩ = false := freeOf h.blk 2
  have c3 : w.cell? ⟨b, 3, none⟩ = some (.int .i64 (m : Nat)) := by rw [← hmc]; exact cellOf h.blk 3 rfl
  have f3 : w.frozen? ⟨b, 3, none⟩ = false := freeOf h.blk 3
  have c4 : w.cell? ⟨b, 4, none⟩ = some (.int .i32 (g : Nat)) := by rw [← hgc]; exact cellOf h.blk 4 rfl
  have ez : (z : Int) - 87 = ((z - 87 : Nat) : Int) := by omega
  have hor : bits .or .i32 ((k : Int) * 16) ((z : Int) - 87) = (n : Int) := by rw [ez, or_digit k (z - 87) hk (by omega), hn]
  have hws : IntKind.i32.wrap ((k : Int) * 16) = (k : Int) * 16 := IntWalk.i32_in _ ⟨by omega, by omega⟩
  have hwu : IntKind.u8.wrap ((z : Int) - 87) = (z : Int) - 87 := IntWalk.u8_in _ ⟨by omega, by omega⟩
  have hwi : IntKind.i32.wrap ((z : Int) - 87) = (z : Int) - 87 := IntWalk.i32_in _ ⟨by omega, by omega⟩
  have y1 : (48 : Int) ≤ (z : Int) := by omega
  have y2 : decide ((z : Int) ≤ 57) = false := by simp; omega
  have y3 : (97 : Int) ≤ (z : Int) := by omega
  have y4 : (z : Int) ≤ 102 := by omega
  have zc : (0 : Int) < (m : Int) - 1 := by omega
  have hwm : IntKind.i64.wrap ((m : Int) - 1) = (m : Int) - 1 := IntWalk.i64_in _ ⟨by omega, by omega⟩
  have em : ((m - 1 : Nat) : Int) = (m : Int) - 1 := by omega
  have h1 := (h.set 2 (.int .i32 (n : Nat)) { t with code := n } rfl rfl).set 3 (.int .i64 (m - 1 : Nat)) { t with code := n, count := m - 1 } rfl rfl
  have hf1 := ((Fr.refl (nfoot b vt) w).setCell (p := ⟨b, 2, none⟩) (.inl (.inl rfl)) (.int .i32 (n : Nat))).setCell (p := ⟨b, 3, none⟩) (.inl (.inl rfl)) (.int .i64 (m - 1 : Nat))
  rw [em] at h1 hf1
  have H1 := Px.hid (And.intro h1 hf1)
  clear h h1 hf1 ez hn hk hz hz2 hkc hmc hgc hm hm4 em
  go_enter Try.func95, Try.ntmps95
  go_wp2
  go_ret
  exact ⟨rfl, _, H1.out.1, H1.out.2, Fresh.refl _ _⟩
set_option maxRecDepth 100000 in
set_option maxHeartbeats 4000000 in
theorem digit_b_r1 (b : Nat) (t : J6.Txt) (vt : Value) (z k n : Nat) (hz : 97 ≤ z) (hz2 : z ≤ 102) (hk : k ≤ 4095) (hn : n = k * 16 + (z - 87)) (hlo : 56320 ≤ n) (hhi : n < 57344) (w : World) (h : TxtAt w b t vt) (hkc : t.code = k) (hmc : t.count = 1) (hgc : t.high = 0) :
    Calls Try.prog 95 #[.pointer (some ⟨b, 0, none⟩), .int .u8 (z : Nat)] w (TxtPost w b vt (.refuses, { t with code := n, count := 0 })) := by
  have c2 : w.cell? ⟨b, 2, none⟩ = some (.int .i32 (k : Nat)) := by rw [← hkc]; exact cellOf h.blk 2 rfl
  have f2 : w.frozen? ⟨b, 2, none⟩ = false := freeOf h.blk 2
  have c3 : w.cell? ⟨b, 3, none⟩ = some (.int .i64 (1 : Nat)) := by rw [← hmc]; exact cellOf h.blk 3 rfl
  have f3 : w.frozen? ⟨b, 3, none⟩ = false := freeOf h.blk 3
  have c4 : w.cell? ⟨b, 4, none⟩ = some (.int .i32 (0 : Nat)) := by rw [← hgc]; exact cellOf h.blk 4 rfl
  have ez : (z : Int) - 87 = ((z - 87 : Nat) : Int) := by omega
  have hor : bits .or .i32 ((k : Int) * 16) ((z : Int) - 87) = (n : Int) := by rw [ez, or_digit k (z - 87) hk (by omega), hn]
  have hws : IntKind.i32.wrap ((k : Int) * 16) = (k : Int) * 16 := IntWalk.i32_in _ ⟨by omega, by omega⟩
  have hwu : IntKind.u8.wrap ((z : Int) - 87) = (z : Int) - 87 := IntWalk.u8_in _ ⟨by omega, by omega⟩
  have hwi : IntKind.i32.wrap ((z : Int) - 87) = (z : Int) - 87 := IntWalk.i32_in _ ⟨by omega, by omega⟩
  have y1 : (48 : Int) ≤ (z : Int) := by omega
  have y2 : decide ((z : Int) ≤ 57) = false := by simp; omega
  have y3 : (97 : Int) ≤ (z : Int) := by omega
  have y4 : (z : Int) ≤ 102 := by omega
  have w1 : (56320 : Int) ≤ (n : Int) := by omega
  have w2 : (n : Int) < 57344 := by omega
  have h1 := (h.set 2 (.int .i32 (n : Nat)) { t with code := n } rfl rfl).set 3 (.int .i64 0) { t with code := n, count := 0 } rfl rfl
  have hf1 := ((Fr.refl (nfoot b vt) w).setCell (p := ⟨b, 2, none⟩) (.inl (.inl rfl)) (.int .i32 (n : Nat))).setCell (p := ⟨b, 3, none⟩) (.inl (.inl rfl)) (.int .i64 0)
  have H1 := Px.hid (And.intro h1 hf1)
  clear h h1 hf1 ez hn hk hz hz2 hkc hmc hgc hlo hhi
  go_enter Try.func95, Try.ntmps95
  go_wp2
  go_ret
  exact ⟨rfl, _, H1.out.1, H1.out.2, Fresh.refl _ _⟩
set_option maxRecDepth 100000 in
set_option maxHeartbeats 4000000 in
theorem digit_b_r2a (b : Nat) (t : J6.Txt) (vt : Value) (z k n : Nat) (g : Nat) (hz : 97 ≤ z) (hz2 : z ≤ 102) (hk : k ≤ 4095) (hn : n = k * 16 + (z - 87)) (hlo : n < 56320) (hg : g ≠ 0) (w : World) (h : TxtAt w b t vt) (hkc : t.code = k) (hmc : t.count = 1) (hgc : t.high = g) :
    Calls Try.prog 95 #[.pointer (some ⟨b, 0, none⟩), .int .u8 (z : Nat)] w (TxtPost w b vt (.refuses, { t with code := n, count := 0 })) := by
  have c2 : w.cell? ⟨b, 2, none⟩ = some (.int .i32 (k : Nat)) := by rw [← hkc]; exact cellOf h.blk 2 rfl
  have f2 : w.frozen? ⟨b, 2, none⟩ = false := freeOf h.blk 2
  have c3 : w.cell? ⟨b, 3, none⟩ = some (.int .i64 (1 : Nat)) := by rw [← hmc]; exact cellOf h.blk 3 rfl
  have f3 : w.frozen? ⟨b, 3, none⟩ = false := freeOf h.blk 3
  have c4 : w.cell? ⟨b, 4, none⟩ = some (.int .i32 (g : Nat)) := by rw [← hgc]; exact cellOf h.blk 4 rfl
  have ez : (z : Int) - 87 = ((z - 87 : Nat) : Int) := by omega
  have hor : bits .or .i32 ((k : Int) * 16) ((z : Int) - 87) = (n : Int) := by rw [ez, or_digit k (z - 87) hk (by omega), hn]
  have hws : IntKind.i32.wrap ((k : Int) * 16) = (k : Int) * 16 := IntWalk.i32_in _ ⟨by omega, by omega⟩
  have hwu : IntKind.u8.wrap ((z : Int) - 87) = (z : Int) - 87 := IntWalk.u8_in _ ⟨by omega, by omega⟩
  have hwi : IntKind.i32.wrap ((z : Int) - 87) = (z : Int) - 87 := IntWalk.i32_in _ ⟨by omega, by omega⟩
  have y1 : (48 : Int) ≤ (z : Int) := by omega
  have y2 : decide ((z : Int) ≤ 57) = false := by simp; omega
  have y3 : (97 : Int) ≤ (z : Int) := by omega
  have y4 : (z : Int) ≤ 102 := by omega
  have w1 : decide ((56320 : Int) ≤ (n : Int)) = false := by simp; omega
  have w2 : ((g : Int) != 0) = true := by simp; omega
  have h1 := (h.set 2 (.int .i32 (n : Nat)) { t with code := n } rfl rfl).set 3 (.int .i64 0) { t with code := n, count := 0 } rfl rfl
  have hf1 := ((Fr.refl (nfoot b vt) w).setCell (p := ⟨b, 2, none⟩) (.inl (.inl rfl)) (.int .i32 (n : Nat))).setCell (p := ⟨b, 3, none⟩) (.inl (.inl rfl)) (.int .i64 0)
  have H1 := Px.hid (And.intro h1 hf1)
  clear h h1 hf1 ez hn hk hz hz2 hkc hmc hgc hlo hg
  go_enter Try.func95, Try.ntmps95
  go_wp2
  go_ret
  exact ⟨rfl, _, H1.out.1, H1.out.2, Fresh.refl _ _⟩
set_option maxRecDepth 100000 in
set_option maxHeartbeats 4000000 in
theorem digit_b_r2b (b : Nat) (t : J6.Txt) (vt : Value) (z k n : Nat) (g : Nat) (hz : 97 ≤ z) (hz2 : z ≤ 102) (hk : k ≤ 4095) (hn : n = k * 16 + (z - 87)) (hlo : 57344 ≤ n) (hg : g ≠ 0) (w : World) (h : TxtAt w b t vt) (hkc : t.code = k) (hmc : t.count = 1) (hgc : t.high = g) :
    Calls Try.prog 95 #[.pointer (some ⟨b, 0, none⟩), .int .u8 (z : Nat)] w (TxtPost w b vt (.refuses, { t with code := n, count := 0 })) := by
  have c2 : w.cell? ⟨b, 2, none⟩ = some (.int .i32 (k : Nat)) := by rw [← hkc]; exact cellOf h.blk 2 rfl
  have f2 : w.frozen? ⟨b, 2, none⟩ = false := freeOf h.blk 2
  have c3 : w.cell? ⟨b, 3, none⟩ = some (.int .i64 (1 : Nat)) := by rw [← hmc]; exact cellOf h.blk 3 rfl
  have f3 : w.frozen? ⟨b, 3, none⟩ = false := freeOf h.blk 3
  have c4 : w.cell? ⟨b, 4, none⟩ = some (.int .i32 (g : Nat)) := by rw [← hgc]; exact cellOf h.blk 4 rfl
  have ez : (z : Int) - 87 = ((z - 87 : Nat) : Int) := by omega
  have hor : bits .or .i32 ((k : Int) * 16) ((z : Int) - 87) = (n : Int) := by rw [ez, or_digit k (z - 87) hk (by omega), hn]
  have hws : IntKind.i32.wrap ((k : Int) * 16) = (k : Int) * 16 := IntWalk.i32_in _ ⟨by omega, by omega⟩
  have hwu : IntKind.u8.wrap ((z : Int) - 87) = (z : Int) - 87 := IntWalk.u8_in _ ⟨by omega, by omega⟩
  have hwi : IntKind.i32.wrap ((z : Int) - 87) = (z : Int) - 87 := IntWalk.i32_in _ ⟨by omega, by omega⟩
  have y1 : (48 : Int) ≤ (z : Int) := by omega
  have y2 : decide ((z : Int) ≤ 57) = false := by simp; omega
  have y3 : (97 : Int) ≤ (z : Int) := by omega
  have y4 : (z : Int) ≤ 102 := by omega
  have w1 : (56320 : Int) ≤ (n : Int) := by omega
  have w3 : decide ((n : Int) < 57344) = false := by simp; omega
  have w2 : ((g : Int) != 0) = true := by simp; omega
  have h1 := (h.set 2 (.int .i32 (n : Nat)) { t with code := n } rfl rfl).set 3 (.int .i64 0) { t with code := n, count := 0 } rfl rfl
  have hf1 := ((Fr.refl (nfoot b vt) w).setCell (p := ⟨b, 2, none⟩) (.inl (.inl rfl)) (.int .i32 (n : Nat))).setCell (p := ⟨b, 3, none⟩) (.inl (.inl rfl)) (.int .i64 0)
  have H1 := Px.hid (And.intro h1 hf1)
  clear h h1 hf1 ez hn hk hz hz2 hkc hmc hgc hlo hg
  go_enter Try.func95, Try.ntmps95
  go_wp2
  go_ret
  exact ⟨rfl, _, H1.out.1, H1.out.2, Fresh.refl _ _⟩
set_option maxRecDepth 100000 in
set_option maxHeartbeats 4000000 in
theorem digit_b_s (b : Nat) (t : J6.Txt) (vt : Value) (z k n : Nat) (hz : 97 ≤ z) (hz2 : z ≤ 102) (hk : k ≤ 4095) (hn : n = k * 16 + (z - 87)) (hlo : 55296 ≤ n) (hhi : n < 56320) (w : World) (h : TxtAt w b t vt) (hkc : t.code = k) (hmc : t.count = 1) (hgc : t.high = 0) :
    Calls Try.prog 95 #[.pointer (some ⟨b, 0, none⟩), .int .u8 (z : Nat)] w (TxtPost w b vt (.takes, { t with code := n, count := 0, high := n, mode := 3 })) := by
  have c2 : w.cell? ⟨b, 2, none⟩ = some (.int .i32 (k : Nat)) := by rw [← hkc]; exact cellOf h.blk 2 rfl
  have f2 : w.frozen? ⟨b, 2, none⟩ = false := freeOf h.blk 2
  have c3 : w.cell? ⟨b, 3, none⟩ = some (.int .i64 (1 : Nat)) := by rw [← hmc]; exact cellOf h.blk 3 rfl
  have f3 : w.frozen? ⟨b, 3, none⟩ = false := freeOf h.blk 3
  have c4 : w.cell? ⟨b, 4, none⟩ = some (.int .i32 (0 : Nat)) := by rw [← hgc]; exact cellOf h.blk 4 rfl
  have c0 : w.cell? ⟨b, 0, none⟩ = some (.int .i64 (t.mode : Nat)) := cellOf h.blk 0 rfl
  have f0 : w.frozen? ⟨b, 0, none⟩ = false := freeOf h.blk 0
  have f4 : w.frozen? ⟨b, 4, none⟩ = false := freeOf h.blk 4
  have ez : (z : Int) - 87 = ((z - 87 : Nat) : Int) := by omega
  have hor : bits .or .i32 ((k : Int) * 16) ((z : Int) - 87) = (n : Int) := by rw [ez, or_digit k (z - 87) hk (by omega), hn]
  have hws : IntKind.i32.wrap ((k : Int) * 16) = (k : Int) * 16 := IntWalk.i32_in _ ⟨by omega, by omega⟩
  have hwu : IntKind.u8.wrap ((z : Int) - 87) = (z : Int) - 87 := IntWalk.u8_in _ ⟨by omega, by omega⟩
  have hwi : IntKind.i32.wrap ((z : Int) - 87) = (z : Int) - 87 := IntWalk.i32_in _ ⟨by omega, by omega⟩
  have y1 : (48 : Int) ≤ (z : Int) := by omega
  have y2 : decide ((z : Int) ≤ 57) = false := by simp; omega
  have y3 : (97 : Int) ≤ (z : Int) := by omega
  have y4 : (z : Int) ≤ 102 := by omega
  have w1 : decide ((56320 : Int) ≤ (n : Int)) = false := by simp; omega
  have w2 : (55296 : Int) ≤ (n : Int) := by omega
  have w3 : (n : Int) < 56320 := by omega
  have h1 := (((h.set 2 (.int .i32 (n : Nat)) { t with code := n } rfl rfl).set 3 (.int .i64 0) { t with code := n, count := 0 } rfl rfl).set 4 (.int .i32 (n : Nat)) { t with code := n, count := 0, high := n } rfl rfl).set 0 (.int .i64 3) { t with code := n, count := 0, high := n, mode := 3 } rfl rfl
  have hf1 := ((((Fr.refl (nfoot b vt) w).setCell (p := ⟨b, 2, none⟩) (.inl (.inl rfl)) (.int .i32 (n : Nat))).setCell (p := ⟨b, 3, none⟩) (.inl (.inl rfl)) (.int .i64 0)).setCell (p := ⟨b, 4, none⟩) (.inl (.inl rfl)) (.int .i32 (n : Nat))).setCell (p := ⟨b, 0, none⟩) (.inl (.inl rfl)) (.int .i64 3)
  have H1 := Px.hid (And.intro h1 hf1)
  clear h h1 hf1 ez hn hk hz hz2 hkc hmc hgc hlo hhi
  go_enter Try.func95, Try.ntmps95
  go_wp2
  go_ret
  exact ⟨rfl, _, H1.out.1, H1.out.2, Fresh.refl _ _⟩
set_option maxRecDepth 100000 in
set_option maxHeartbeats 4000000 in
theorem digit_c_t (b : Nat) (t : J6.Txt) (vt : Value) (z k n : Nat) (m : Nat) (g : Nat) (hz : 65 ≤ z) (hz2 : z ≤ 70) (hk : k ≤ 4095) (hn : n = k * 16 + (z - 55)) (hm : 1 < m) (hm4 : m ≤ 4) (w : World) (h : TxtAt w b t vt) (hkc : t.code = k) (hmc : t.count = m) (hgc : t.high = g) :
    Calls Try.prog 95 #[.pointer (some ⟨b, 0, none⟩), .int .u8 (z : Nat)] w (TxtPost w b vt (.takes, { t with code := n, count := m - 1 })) := by
  have c2 : w.cell? ⟨b, 2, none⟩ = some (.int .i32 (k : Nat)) := by rw [← hkc]; exact cellOf h.blk 2 rfl
  have f2 : w.frozen? ⟨b, 2, none⟩ = false := freeOf h.blk 2
  have c3 : w.cell? ⟨b, 3, none⟩ = some (.int .i64 (m : Nat)) := by rw [← hmc]; exact cellOf h.blk 3 rfl
  have f3 : w.frozen? ⟨b, 3, none⟩ = false := freeOf h.blk 3
  have c4 : w.cell? ⟨b, 4, none⟩ = some (.int .i32 (g : Nat)) := by rw [← hgc]; exact cellOf h.blk 4 rfl
  have ez : (z : Int) - 55 = ((z - 55 : Nat) : Int) := by omega
  have hor : bits .or .i32 ((k : Int) * 16) ((z : Int) - 55) = (n : Int) := by rw [ez, or_digit k (z - 55) hk (by omega), hn]
  have hws : IntKind.i32.wrap ((k : Int) * 16) = (k : Int) * 16 := IntWalk.i32_in _ ⟨by omega, by omega⟩
  have hwu : IntKind.u8.wrap ((z : Int) - 55) = (z : Int) - 55 := IntWalk.u8_in _ ⟨by omega, by omega⟩
  have hwi : IntKind.i32.wrap ((z : Int) - 55) = (z : Int) - 55 := IntWalk.i32_in _ ⟨by omega, by omega⟩
  have y1 : (48 : Int) ≤ (z : Int) := by omega
  have y2 : decide ((z : Int) ≤ 57) = false := by simp; omega
  have y3 : decide ((97 : Int) ≤ (z : Int)) = false := by simp; omega
  have y4 : (65 : Int) ≤ (z : Int) := by omega
  have y5 : (z : Int) ≤ 70 := by omega
  have zc : (0 : Int) < (m : Int) - 1 := by omega
  have hwm : IntKind.i64.wrap ((m : Int) - 1) = (m : Int) - 1 := IntWalk.i64_in _ ⟨by omega, by omega⟩
  have em : ((m - 1 : Nat) : Int) = (m : Int) - 1 := by omega
  have h1 := (h.set 2 (.int .i32 (n : Nat)) { t with code := n } rfl rfl).set 3 (.int .i64 (m - 1 : Nat)) { t with code := n, count := m - 1 } rfl rfl
  have hf1 := ((Fr.refl (nfoot b vt) w).setCell (p := ⟨b, 2, none⟩) (.inl (.inl rfl)) (.int .i32 (n : Nat))).setCell (p := ⟨b, 3, none⟩) (.inl (.inl rfl)) (.int .i64 (m - 1 : Nat))
  rw [em] at h1 hf1
  have H1 := Px.hid (And.intro h1 hf1)
  clear h h1 hf1 ez hn hk hz hz2 hkc hmc hgc hm hm4 em
  go_enter Try.func95, Try.ntmps95
  go_wp2
  go_ret
  exact ⟨rfl, _, H1.out.1, H1.out.2, Fresh.refl _ _⟩
set_option maxRecDepth 100000 in
set_option maxHeartbeats 4000000 in
theorem digit_c_r1 (b : Nat) (t : J6.Txt) (vt : Value) (z k n : Nat) (hz : 65 ≤ z) (hz2 : z ≤ 70) (hk : k ≤ 4095) (hn : n = k * 16 + (z - 55)) (hlo : 56320 ≤ n) (hhi : n < 57344) (w : World) (h : TxtAt w b t vt) (hkc : t.code = k) (hmc : t.count = 1) (hgc : t.high = 0) :
    Calls Try.prog 95 #[.pointer (some ⟨b, 0, none⟩), .int .u8 (z : Nat)] w (TxtPost w b vt (.refuses, { t with code := n, count := 0 })) := by
  have c2 : w.cell? ⟨b, 2, none⟩ = some (.int .i32 (k : Nat)) := by rw [← hkc]; exact cellOf h.blk 2 rfl
  have f2 : w.frozen? ⟨b, 2, none⟩ = false := freeOf h.blk 2
  have c3 : w.cell? ⟨b, 3, none⟩ = some (.int .i64 (1 : Nat)) := by rw [← hmc]; exact cellOf h.blk 3 rfl
  have f3 : w.frozen? ⟨b, 3, none⟩ = false := freeOf h.blk 3
  have c4 : w.cell? ⟨b, 4, none⟩ = some (.int .i32 (0 : Nat)) := by rw [← hgc]; exact cellOf h.blk 4 rfl
  have ez : (z : Int) - 55 = ((z - 55 : Nat) : Int) := by omega
  have hor : bits .or .i32 ((k : Int) * 16) ((z : Int) - 55) = (n : Int) := by rw [ez, or_digit k (z - 55) hk (by omega), hn]
  have hws : IntKind.i32.wrap ((k : Int) * 16) = (k : Int) * 16 := IntWalk.i32_in _ ⟨by omega, by omega⟩
  have hwu : IntKind.u8.wrap ((z : Int) - 55) = (z : Int) - 55 := IntWalk.u8_in _ ⟨by omega, by omega⟩
  have hwi : IntKind.i32.wrap ((z : Int) - 55) = (z : Int) - 55 := IntWalk.i32_in _ ⟨by omega, by omega⟩
  have y1 : (48 : Int) ≤ (z : Int) := by omega
  have y2 : decide ((z : Int) ≤ 57) = false := by simp; omega
  have y3 : decide ((97 : Int) ≤ (z : Int)) = false := by simp; omega
  have y4 : (65 : Int) ≤ (z : Int) := by omega
  have y5 : (z : Int) ≤ 70 := by omega
  have w1 : (56320 : Int) ≤ (n : Int) := by omega
  have w2 : (n : Int) < 57344 := by omega
  have h1 := (h.set 2 (.int .i32 (n : Nat)) { t with code := n } rfl rfl).set 3 (.int .i64 0) { t with code := n, count := 0 } rfl rfl
  have hf1 := ((Fr.refl (nfoot b vt) w).setCell (p := ⟨b, 2, none⟩) (.inl (.inl rfl)) (.int .i32 (n : Nat))).setCell (p := ⟨b, 3, none⟩) (.inl (.inl rfl)) (.int .i64 0)
  have H1 := Px.hid (And.intro h1 hf1)
  clear h h1 hf1 ez hn hk hz hz2 hkc hmc hgc hlo hhi
  go_enter Try.func95, Try.ntmps95
  go_wp2
  go_ret
  exact ⟨rfl, _, H1.out.1, H1.out.2, Fresh.refl _ _⟩
set_option maxRecDepth 100000 in
set_option maxHeartbeats 4000000 in
theorem digit_c_r2a (b : Nat) (t : J6.Txt) (vt : Value) (z k n : Nat) (g : Nat) (hz : 65 ≤ z) (hz2 : z ≤ 70) (hk : k ≤ 4095) (hn : n = k * 16 + (z - 55)) (hlo : n < 56320) (hg : g ≠ 0) (w : World) (h : TxtAt w b t vt) (hkc : t.code = k) (hmc : t.count = 1) (hgc : t.high = g) :
    Calls Try.prog 95 #[.pointer (some ⟨b, 0, none⟩), .int .u8 (z : Nat)] w (TxtPost w b vt (.refuses, { t with code := n, count := 0 })) := by
  have c2 : w.cell? ⟨b, 2, none⟩ = some (.int .i32 (k : Nat)) := by rw [← hkc]; exact cellOf h.blk 2 rfl
  have f2 : w.frozen? ⟨b, 2, none⟩ = false := freeOf h.blk 2
  have c3 : w.cell? ⟨b, 3, none⟩ = some (.int .i64 (1 : Nat)) := by rw [← hmc]; exact cellOf h.blk 3 rfl
  have f3 : w.frozen? ⟨b, 3, none⟩ = false := freeOf h.blk 3
  have c4 : w.cell? ⟨b, 4, none⟩ = some (.int .i32 (g : Nat)) := by rw [← hgc]; exact cellOf h.blk 4 rfl
  have ez : (z : Int) - 55 = ((z - 55 : Nat) : Int) := by omega
  have hor : bits .or .i32 ((k : Int) * 16) ((z : Int) - 55) = (n : Int) := by rw [ez, or_digit k (z - 55) hk (by omega), hn]
  have hws : IntKind.i32.wrap ((k : Int) * 16) = (k : Int) * 16 := IntWalk.i32_in _ ⟨by omega, by omega⟩
  have hwu : IntKind.u8.wrap ((z : Int) - 55) = (z : Int) - 55 := IntWalk.u8_in _ ⟨by omega, by omega⟩
  have hwi : IntKind.i32.wrap ((z : Int) - 55) = (z : Int) - 55 := IntWalk.i32_in _ ⟨by omega, by omega⟩
  have y1 : (48 : Int) ≤ (z : Int) := by omega
  have y2 : decide ((z : Int) ≤ 57) = false := by simp; omega
  have y3 : decide ((97 : Int) ≤ (z : Int)) = false := by simp; omega
  have y4 : (65 : Int) ≤ (z : Int) := by omega
  have y5 : (z : Int) ≤ 70 := by omega
  have w1 : decide ((56320 : Int) ≤ (n : Int)) = false := by simp; omega
  have w2 : ((g : Int) != 0) = true := by simp; omega
  have h1 := (h.set 2 (.int .i32 (n : Nat)) { t with code := n } rfl rfl).set 3 (.int .i64 0) { t with code := n, count := 0 } rfl rfl
  have hf1 := ((Fr.refl (nfoot b vt) w).setCell (p := ⟨b, 2, none⟩) (.inl (.inl rfl)) (.int .i32 (n : Nat))).setCell (p := ⟨b, 3, none⟩) (.inl (.inl rfl)) (.int .i64 0)
  have H1 := Px.hid (And.intro h1 hf1)
  clear h h1 hf1 ez hn hk hz hz2 hkc hmc hgc hlo hg
  go_enter Try.func95, Try.ntmps95
  go_wp2
  go_ret
  exact ⟨rfl, _, H1.out.1, H1.out.2, Fresh.refl _ _⟩
set_option maxRecDepth 100000 in
set_option maxHeartbeats 4000000 in
theorem digit_c_r2b (b : Nat) (t : J6.Txt) (vt : Value) (z k n : Nat) (g : Nat) (hz : 65 ≤ z) (hz2 : z ≤ 70) (hk : k ≤ 4095) (hn : n = k * 16 + (z - 55)) (hlo : 57344 ≤ n) (hg : g ≠ 0) (w : World) (h : TxtAt w b t vt) (hkc : t.code = k) (hmc : t.count = 1) (hgc : t.high = g) :
    Calls Try.prog 95 #[.pointer (some ⟨b, 0, none⟩), .int .u8 (z : Nat)] w (TxtPost w b vt (.refuses, { t with code := n, count := 0 })) := by
  have c2 : w.cell? ⟨b, 2, none⟩ = some (.int .i32 (k : Nat)) := by rw [← hkc]; exact cellOf h.blk 2 rfl
  have f2 : w.frozen? ⟨b, 2, none⟩ = false := freeOf h.blk 2
  have c3 : w.cell? ⟨b, 3, none⟩ = some (.int .i64 (1 : Nat)) := by rw [← hmc]; exact cellOf h.blk 3 rfl
  have f3 : w.frozen? ⟨b, 3, none⟩ = false := freeOf h.blk 3
  have c4 : w.cell? ⟨b, 4, none⟩ = some (.int .i32 (g : Nat)) := by rw [← hgc]; exact cellOf h.blk 4 rfl
  have ez : (z : Int) - 55 = ((z - 55 : Nat) : Int) := by omega
  have hor : bits .or .i32 ((k : Int) * 16) ((z : Int) - 55) = (n : Int) := by rw [ez, or_digit k (z - 55) hk (by omega), hn]
  have hws : IntKind.i32.wrap ((k : Int) * 16) = (k : Int) * 16 := IntWalk.i32_in _ ⟨by omega, by omega⟩
  have hwu : IntKind.u8.wrap ((z : Int) - 55) = (z : Int) - 55 := IntWalk.u8_in _ ⟨by omega, by omega⟩
  have hwi : IntKind.i32.wrap ((z : Int) - 55) = (z : Int) - 55 := IntWalk.i32_in _ ⟨by omega, by omega⟩
  have y1 : (48 : Int) ≤ (z : Int) := by omega
  have y2 : decide ((z : Int) ≤ 57) = false := by simp; omega
  have y3 : decide ((97 : Int) ≤ (z : Int)) = false := by simp; omega
  have y4 : (65 : Int) ≤ (z : Int) := by omega
  have y5 : (z : Int) ≤ 70 := by omega
  have w1 : (56320 : Int) ≤ (n : Int) := by omega
  have w3 : decide ((n : Int) < 57344) = false := by simp; omega
  have w2 : ((g : Int) != 0) = true := by simp; omega
  have h1 := (h.set 2 (.int .i32 (n : Nat)) { t with code := n } rfl rfl).set 3 (.int .i64 0) { t with code := n, count := 0 } rfl rfl
  have hf1 := ((Fr.refl (nfoot b vt) w).setCell (p := ⟨b, 2, none⟩) (.inl (.inl rfl)) (.int .i32 (n : Nat))).setCell (p := ⟨b, 3, none⟩) (.inl (.inl rfl)) (.int .i64 0)
  have H1 := Px.hid (And.intro h1 hf1)
  clear h h1 hf1 ez hn hk hz hz2 hkc hmc hgc hlo hg
  go_enter Try.func95, Try.ntmps95
  go_wp2
  go_ret
  exact ⟨rfl, _, H1.out.1, H1.out.2, Fresh.refl _ _⟩
set_option maxRecDepth 100000 in
set_option maxHeartbeats 4000000 in
theorem digit_c_s (b : Nat) (t : J6.Txt) (vt : Value) (z k n : Nat) (hz : 65 ≤ z) (hz2 : z ≤ 70) (hk : k ≤ 4095) (hn : n = k * 16 + (z - 55)) (hlo : 55296 ≤ n) (hhi : n < 56320) (w : World) (h : TxtAt w b t vt) (hkc : t.code = k) (hmc : t.count = 1) (hgc : t.high = 0) :
    Calls Try.prog 95 #[.pointer (some ⟨b, 0, none⟩), .int .u8 (z : Nat)] w (TxtPost w b vt (.takes, { t with code := n, count := 0, high := n, mode := 3 })) := by
  have c2 : w.cell? ⟨b, 2, none⟩ = some (.int .i32 (k : Nat)) := by rw [← hkc]; exact cellOf h.blk 2 rfl
  have f2 : w.frozen? ⟨b, 2, none⟩ = false := freeOf h.blk 2
  have c3 : w.cell? ⟨b, 3, none⟩ = some (.int .i64 (1 : Nat)) := by rw [← hmc]; exact cellOf h.blk 3 rfl
  have f3 : w.frozen? ⟨b, 3, none⟩ = false := freeOf h.blk 3
  have c4 : w.cell? ⟨b, 4, none⟩ = some (.int .i32 (0 : Nat)) := by rw [← hgc]; exact cellOf h.blk 4 rfl
  have c0 : w.cell? ⟨b, 0, none⟩ = some (.int .i64 (t.mode : Nat)) := cellOf h.blk 0 rfl
  have f0 : w.frozen? ⟨b, 0, none⟩ = false := freeOf h.blk 0
  have f4 : w.frozen? ⟨b, 4, none⟩ = false := freeOf h.blk 4
  have ez : (z : Int) - 55 = ((z - 55 : Nat) : Int) := by omega
  have hor : bits .or .i32 ((k : Int) * 16) ((z : Int) - 55) = (n : Int) := by rw [ez, or_digit k (z - 55) hk (by omega), hn]
  have hws : IntKind.i32.wrap ((k : Int) * 16) = (k : Int) * 16 := IntWalk.i32_in _ ⟨by omega, by omega⟩
  have hwu : IntKind.u8.wrap ((z : Int) - 55) = (z : Int) - 55 := IntWalk.u8_in _ ⟨by omega, by omega⟩
  have hwi : IntKind.i32.wrap ((z : Int) - 55) = (z : Int) - 55 := IntWalk.i32_in _ ⟨by omega, by omega⟩
  have y1 : (48 : Int) ≤ (z : Int) := by omega
  have y2 : decide ((z : Int) ≤ 57) = false := by simp; omega
  have y3 : decide ((97 : Int) ≤ (z : Int)) = false := by simp; omega
  have y4 : (65 : Int) ≤ (z : Int) := by omega
  have y5 : (z : Int) ≤ 70 := by omega
  have w1 : decide ((56320 : Int) ≤ (n : Int)) = false := by simp; omega
  have w2 : (55296 : Int) ≤ (n : Int) := by omega
  have w3 : (n : Int) < 56320 := by omega
  have h1 := (((h.set 2 (.int .i32 (n : Nat)) { t with code := n } rfl rfl).set 3 (.int .i64 0) { t with code := n, count := 0 } rfl rfl).set 4 (.int .i32 (n : Nat)) { t with code := n, count := 0, high := n } rfl rfl).set 0 (.int .i64 3) { t with code := n, count := 0, high := n, mode := 3 } rfl rfl
  have hf1 := ((((Fr.refl (nfoot b vt) w).setCell (p := ⟨b, 2, none⟩) (.inl (.inl rfl)) (.int .i32 (n : Nat))).setCell (p := ⟨b, 3, none⟩) (.inl (.inl rfl)) (.int .i64 0)).setCell (p := ⟨b, 4, none⟩) (.inl (.inl rfl)) (.int .i32 (n : Nat))).setCell (p := ⟨b, 0, none⟩) (.inl (.inl rfl)) (.int .i64 3)
  have H1 := Px.hid (And.intro h1 hf1)
  clear h h1 hf1 ez hn hk hz hz2 hkc hmc hgc hlo hhi
  go_enter Try.func95, Try.ntmps95
  go_wp2
  go_ret
  exact ⟨rfl, _, H1.out.1, H1.out.2, Fresh.refl _ _⟩
end Go.Proofs.Ytahojodgmjmpnaa
