/-
  The walk over jsonfeed's text.take: a further byte of a sign (printed by gen_wm.py).
-/
import Derived.Test.YtahojodgmjmpnaaWlJ
namespace Go.Proofs.Ytahojodgmjmpnaa
open Go.RowKit Go.Px
set_option maxRecDepth 100000 in
set_option maxHeartbeats 4000000 in
theorem take_5last (b : Nat) (t : J6.Txt) (vt : Value) (c : UInt8) (hm : t.mode = 5) (h1 : ¬ c < t.least) (h2 : ¬ t.most < c) (hcn : t.count = 1) (hl : t.out.length ≤ 1000000) (w : World) (h : TxtAt w b t vt) :
    Calls Try.prog 93 #[.pointer (some ⟨b, 0, none⟩), .int .u8 c.toNat] w (TxtPost w b vt (.takes, { t with out := t.out ++ [c], least := 128, most := 191, count := 0, mode := 0 })) := by
  have c0 : w.cell? ⟨b, 0, none⟩ = some (.int .i64 5) := by have := cellOf h.blk 0 (v := .int .i64 (t.mode : Nat)) rfl; rw [hm] at this; exact this
  have f0 : w.frozen? ⟨b, 0, none⟩ = false := freeOf h.blk 0
  obtain ⟨z, hz⟩ : ∃ z, z = c.toNat := ⟨_, rfl⟩
  obtain ⟨x, hx⟩ : ∃ x, x = t.least.toNat := ⟨_, rfl⟩
  obtain ⟨y, hy⟩ : ∃ y, y = t.most.toNat := ⟨_, rfl⟩
  have c5 : w.cell? ⟨b, 5, none⟩ = some (.int .u8 (x : Nat)) := by rw [hx]; exact cellOf h.blk 5 rfl
  have c6 : w.cell? ⟨b, 6, none⟩ = some (.int .u8 (y : Nat)) := by rw [hy]; exact cellOf h.blk 6 rfl
  have d1 : decide (z < x) = false := by
    have e1 : c < t.least ↔ z < x := by rw [hz, hx]; exact UInt8.lt_iff_toNat_lt
    rw [e1] at h1; simp; omega
  have d2 : decide (y < z) = false := by
    have e2 : t.most < c ↔ y < z := by rw [hz, hy]; exact UInt8.lt_iff_toNat_lt
    rw [e2] at h2; simp; omega
  have hcell : [Value.int .u8 (z : Nat)] = [c].flatMap cByte := by rw [hz]; rfl
  obtain ⟨va, vc, hv, _⟩ := h.text.len
  subst hv
  have c1 : w.cell? ⟨b, 1, none⟩ = some (.slice va t.out.length vc) := cellOf h.blk 1 rfl
  rw [← hz]
  have H := Px.hid (And.intro h hcell)
  have HM := Px.hid hm
  have HC := Px.hid hcn
  obtain ⟨i0, hi0, hz0, hz1, hz2⟩ := info_parts Try.infoU8
  clear h hm hz hx hy h1 h2 hcell hcn
  go_enter Try.func93, Try.ntmps93
  go_wp2_with (at_builtin; go_must (refine wpList_append_lies _ rfl _ _ _ rfl 0 5 i0 _ 1 1 Try.underlying60 hi0 hz0 hz1 hz2 rfl (by omega) (.slice va t.out.length vc) t.out.length (t.out.flatMap cByte) rfl (Owns.alloc H.out.1.text _) ⟨w.heap.size, 0, none⟩ 1 1 [.int .u8 (z : Nat)] rfl rfl (World.news_of_block (cs := #[.int .u8 (z : Nat)]) (t := 5) (fr := (0, 0)) (news_at _ _ _ (by simp))) (by simp [Value.oneCell']) (by omega) (by unfold maxLen; omega) (by omega) (by omega) (w.heap.size + 1) (by simp) ?_))
  all_goals
    intro gg cap w1 hown1 hgrow hat hlt
    obtain ⟨k1, k2, k3, k4⟩ := H.out.1.put (grown_put H.out.2 rfl hown1 (grown_alloc1 hgrow) (hat.imp id (fun e => by omega)))
    have e0 : w1.cell? ⟨b, 0, none⟩ = some (.int .i64 5) := by have := cellOf k1 0 (v := .int .i64 (t.mode : Nat)) rfl; rw [HM.out] at this; exact this
    have g0 : w1.frozen? ⟨b, 0, none⟩ = false := freeOf k1 0
    have e1 : w1.cell? ⟨b, 1, none⟩ = some (.slice va t.out.length vc) := cellOf k1 1 rfl
    have g1 : w1.frozen? ⟨b, 1, none⟩ = false := freeOf k1 1
    have e3 : w1.cell? ⟨b, 3, none⟩ = some (.int .i64 (1 : Nat)) := by rw [← HC.out]; exact cellOf k1 3 rfl
    have g3 : w1.frozen? ⟨b, 3, none⟩ = false := freeOf k1 3
    have e5 : w1.cell? ⟨b, 5, none⟩ = some (.int .u8 t.least.toNat) := cellOf k1 5 rfl
    have g5 : w1.frozen? ⟨b, 5, none⟩ = false := freeOf k1 5
    have e6 : w1.cell? ⟨b, 6, none⟩ = some (.int .u8 t.most.toNat) := cellOf k1 6 rfl
    have g6 : w1.frozen? ⟨b, 6, none⟩ = false := freeOf k1 6
    have HK := Px.hid (And.intro ((((k2.set 5 (.int .u8 128) { t with out := t.out ++ [c], least := 128 } rfl rfl).set 6 (.int .u8 191) { t with out := t.out ++ [c], least := 128, most := 191 } rfl rfl).set 3 (.int .i64 0) { t with out := t.out ++ [c], least := 128, most := 191, count := 0 } rfl rfl).set 0 (.int .i64 0) { t with out := t.out ++ [c], least := 128, most := 191, count := 0, mode := 0 } rfl rfl) (And.intro ((((k3.setCell (p := ⟨b, 5, none⟩) (.inl (.inl rfl)) (.int .u8 128)).setCell (p := ⟨b, 6, none⟩) (.inl (.inl rfl)) (.int .u8 191)).setCell (p := ⟨b, 3, none⟩) (.inl (.inl rfl)) (.int .i64 0)).setCell (p := ⟨b, 0, none⟩) (.inl (.inl rfl)) (.int .i64 0)) k4))
    clear k1 k2 k3 k4 hown1 hgrow hat
    go_wp2
    go_ret
    exact ⟨rfl, _, HK.out.1, HK.out.2.1, HK.out.2.2⟩
set_option maxRecDepth 100000 in
set_option maxHeartbeats 4000000 in
theorem take_5more (b : Nat) (t : J6.Txt) (vt : Value) (c : UInt8) (hm : t.mode = 5) (h1 : ¬ c < t.least) (h2 : ¬ t.most < c) (m : Nat) (hm1 : 1 < m) (hm3 : m ≤ 3) (hcn : t.count = m) (hl : t.out.length ≤ 1000000) (w : World) (h : TxtAt w b t vt) :
    Calls Try.prog 93 #[.pointer (some ⟨b, 0, none⟩), .int .u8 c.toNat] w (TxtPost w b vt (.takes, { t with out := t.out ++ [c], least := 128, most := 191, count := m - 1 })) := by
  have c0 : w.cell? ⟨b, 0, none⟩ = some (.int .i64 5) := by have := cellOf h.blk 0 (v := .int .i64 (t.mode : Nat)) rfl; rw [hm] at this; exact this
  have f0 : w.frozen? ⟨b, 0, none⟩ = false := freeOf h.blk 0
  obtain ⟨z, hz⟩ : ∃ z, z = c.toNat := ⟨_, rfl⟩
  obtain ⟨x, hx⟩ : ∃ x, x = t.least.toNat := ⟨_, rfl⟩
  obtain ⟨y, hy⟩ : ∃ y, y = t.most.toNat := ⟨_, rfl⟩
  have c5 : w.cell? ⟨b, 5, none⟩ = some (.int .u8 (x : Nat)) := by rw [hx]; exact cellOf h.blk 5 rfl
  have c6 : w.cell? ⟨b, 6, none⟩ = some (.int .u8 (y : Nat)) := by rw [hy]; exact cellOf h.blk 6 rfl
  have d1 : decide (z < x) = false := by
    have e1 : c < t.least ↔ z < x := by rw [hz, hx]; exact UInt8.lt_iff_toNat_lt
    rw [e1] at h1; simp; omega
  have d2 : decide (y < z) = false := by
    have e2 : t.most < c ↔ y < z := by rw [hz, hy]; exact UInt8.lt_iff_toNat_lt
    rw [e2] at h2; simp; omega
  have hwm : IntKind.i64.wrap ((m : Int) - 1) = (m : Int) - 1 := IntWalk.i64_in _ ⟨by omega, by omega⟩
  have em : ((m - 1 : Nat) : Int) = (m : Int) - 1 := by omega
  have zm : ((m : Int) - 1 == 0) = false := by simp; omega
  have EM := Px.hid em
  clear em
  have hcell : [Value.int .u8 (z : Nat)] = [c].flatMap cByte := by rw [hz]; rfl
  obtain ⟨va, vc, hv, _⟩ := h.text.len
  subst hv
  have c1 : w.cell? ⟨b, 1, none⟩ = some (.slice va t.out.length vc) := cellOf h.blk 1 rfl
  rw [← hz]
  have H := Px.hid (And.intro h hcell)
  have HM := Px.hid hm
  have HC := Px.hid hcn
  obtain ⟨i0, hi0, hz0, hz1, hz2⟩ := info_parts Try.infoU8
  clear h hm hz hx hy h1 h2 hcell hcn
  go_enter Try.func93, Try.ntmps93
  go_wp2_with (at_builtin; go_must (refine wpList_append_lies _ rfl _ _ _ rfl 0 5 i0 _ 1 1 Try.underlying60 hi0 hz0 hz1 hz2 rfl (by omega) (.slice va t.out.length vc) t.out.length (t.out.flatMap cByte) rfl (Owns.alloc H.out.1.text _) ⟨w.heap.size, 0, none⟩ 1 1 [.int .u8 (z : Nat)] rfl rfl (World.news_of_block (cs := #[.int .u8 (z : Nat)]) (t := 5) (fr := (0, 0)) (news_at _ _ _ (by simp))) (by simp [Value.oneCell']) (by omega) (by unfold maxLen; omega) (by omega) (by omega) (w.heap.size + 1) (by simp) ?_))
  all_goals
    intro gg cap w1 hown1 hgrow hat hlt
    obtain ⟨k1, k2, k3, k4⟩ := H.out.1.put (grown_put H.out.2 rfl hown1 (grown_alloc1 hgrow) (hat.imp id (fun e => by omega)))
    have e0 : w1.cell? ⟨b, 0, none⟩ = some (.int .i64 5) := by have := cellOf k1 0 (v := .int .i64 (t.mode : Nat)) rfl; rw [HM.out] at this; exact this
    have g0 : w1.frozen? ⟨b, 0, none⟩ = false := freeOf k1 0
    have e1 : w1.cell? ⟨b, 1, none⟩ = some (.slice va t.out.length vc) := cellOf k1 1 rfl
    have g1 : w1.frozen? ⟨b, 1, none⟩ = false := freeOf k1 1
    have e3 : w1.cell? ⟨b, 3, none⟩ = some (.int .i64 (m : Nat)) := by rw [← HC.out]; exact cellOf k1 3 rfl
    have g3 : w1.frozen? ⟨b, 3, none⟩ = false := freeOf k1 3
    have e5 : w1.cell? ⟨b, 5, none⟩ = some (.int .u8 t.least.toNat) := cellOf k1 5 rfl
    have g5 : w1.frozen? ⟨b, 5, none⟩ = false := freeOf k1 5
    have e6 : w1.cell? ⟨b, 6, none⟩ = some (.int .u8 t.most.toNat) := cellOf k1 6 rfl
    have g6 : w1.frozen? ⟨b, 6, none⟩ = false := freeOf k1 6
    have em := EM.out
    have HK := Px.hid (And.intro (((k2.set 5 (.int .u8 128) { t with out := t.out ++ [c], least := 128 } rfl rfl).set 6 (.int .u8 191) { t with out := t.out ++ [c], least := 128, most := 191 } rfl rfl).set 3 (.int .i64 ((m : Int) - 1)) { t with out := t.out ++ [c], least := 128, most := 191, count := m - 1 } (by rw [← em]; rfl) rfl) (And.intro (((k3.setCell (p := ⟨b, 5, none⟩) (.inl (.inl rfl)) (.int .u8 128)).setCell (p := ⟨b, 6, none⟩) (.inl (.inl rfl)) (.int .u8 191)).setCell (p := ⟨b, 3, none⟩) (.inl (.inl rfl)) (.int .i64 ((m : Int) - 1))) k4))
    clear k1 k2 k3 k4 hown1 hgrow hat em
    go_wp2
    go_ret
    exact ⟨rfl, _, HK.out.1, HK.out.2.1, HK.out.2.2⟩
end Go.Proofs.Ytahojodgmjmpnaa
