/-
  The walk over jsonfeed's text.take inside a sign (mode 5).
-/
import Derived.Test.YtahojodgmjmpnaaWkJ
namespace Go.Proofs.Ytahojodgmjmpnaa
open Go.RowKit Go.Px

set_option maxRecDepth 100000 in
set_option maxHeartbeats 4000000 in
theorem take_5no (b : Nat) (t : J6.Txt) (vt : Value) (c : UInt8) (hm : t.mode = 5) (hc : c < t.least ∨ t.most < c) (w : World) (h : TxtAt w b t vt) :
    Calls Try.prog 93 #[.pointer (some ⟨b, 0, none⟩), .int .u8 c.toNat] w (TxtPost w b vt (.refuses, t)) := by
  have c0 : w.cell? ⟨b, 0, none⟩ = some (.int .i64 5) := by have := cellOf h.blk 0 (v := .int .i64 (t.mode : Nat)) rfl; rw [hm] at this; exact this
  obtain ⟨z, hz⟩ : ∃ z, z = c.toNat := ⟨_, rfl⟩
  obtain ⟨x, hx⟩ : ∃ x, x = t.least.toNat := ⟨_, rfl⟩
  obtain ⟨y, hy⟩ : ∃ y, y = t.most.toNat := ⟨_, rfl⟩
  have c5 : w.cell? ⟨b, 5, none⟩ = some (.int .u8 (x : Nat)) := by rw [hx]; exact cellOf h.blk 5 rfl
  have c6 : w.cell? ⟨b, 6, none⟩ = some (.int .u8 (y : Nat)) := by rw [hy]; exact cellOf h.blk 6 rfl
  have hd : (z : Int) < (x : Int) ∨ (decide ((z : Int) < (x : Int)) = false ∧ (y : Int) < (z : Int)) := by
    have e1 : c < t.least ↔ z < x := by rw [hz, hx]; exact UInt8.lt_iff_toNat_lt
    have e2 : t.most < c ↔ y < z := by rw [hz, hy]; exact UInt8.lt_iff_toNat_lt
    rw [e1, e2] at hc
    simp only [decide_eq_false_iff_not]
    omega
  rw [← hz]
  have H := Px.hid h
  clear h hm hc hz hx hy
  rcases hd with d1 | ⟨d1, d2⟩
  · go_enter Try.func93, Try.ntmps93
    go_wp2
    go_ret
    exact ⟨rfl, _, H.out, Fr.refl _ w, Fresh.refl _ _⟩
  · go_enter Try.func93, Try.ntmps93
    go_wp2
    all_goals
      go_ret
      exact ⟨rfl, _, H.out, Fr.refl _ w, Fresh.refl _ _⟩
end Go.Proofs.Ytahojodgmjmpnaa
