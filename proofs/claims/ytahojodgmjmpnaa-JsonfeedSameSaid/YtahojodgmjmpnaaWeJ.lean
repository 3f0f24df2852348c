/-
  The walk over jsonfeed's text.begins (printed by gen_we.py).
-/
import Derived.Test.YtahojodgmjmpnaaWdJ
namespace Go.Proofs.Ytahojodgmjmpnaa
open Go.RowKit Go.Px

set_option maxRecDepth 100000 in
set_option maxHeartbeats 4000000 in
theorem begins_a (b : Nat) (t : J6.Txt) (vt : Value) (z : Nat) (hz : 194 ≤ z ∧ z < 224) (hl : t.out.length ≤ 1000000) (w : World) (h : TxtAt w b t vt) :
    Calls Try.prog 92 #[.pointer (some ⟨b, 0, none⟩), .int .u8 (z : Nat)] w (TxtPost w b vt (J6.signBegin t z)) := by
  have c0 : w.cell? ⟨b, 0, none⟩ = some (.int .i64 (t.mode : Nat)) := cellOf h.blk 0 rfl
  have f0 : w.frozen? ⟨b, 0, none⟩ = false := freeOf h.blk 0
  have c3 : w.cell? ⟨b, 3, none⟩ = some (.int .i64 (t.count : Nat)) := cellOf h.blk 3 rfl
  have f3 : w.frozen? ⟨b, 3, none⟩ = false := freeOf h.blk 3
  have c5 : w.cell? ⟨b, 5, none⟩ = some (.int .u8 t.least.toNat) := cellOf h.blk 5 rfl
  have f5 : w.frozen? ⟨b, 5, none⟩ = false := freeOf h.blk 5
  have c6 : w.cell? ⟨b, 6, none⟩ = some (.int .u8 t.most.toNat) := cellOf h.blk 6 rfl
  have f6 : w.frozen? ⟨b, 6, none⟩ = false := freeOf h.blk 6
  have h1 := ((((h).set 0 (.int .i64 5) { t with mode := 5 } rfl rfl).set 5 (.int .u8 128) { t with mode := 5, least := 128 } rfl rfl).set 6 (.int .u8 191) { t with mode := 5, least := 128, most := 191 } rfl rfl).set 3 (.int .i64 1) { t with mode := 5, least := 128, most := 191, count := 1 } rfl rfl
  have hf1 := ((((Fr.refl (nfoot b vt) w).setCell (p := ⟨b, 0, none⟩) (.inl (.inl rfl)) (.int .i64 5)).setCell (p := ⟨b, 5, none⟩) (.inl (.inl rfl)) (.int .u8 128)).setCell (p := ⟨b, 6, none⟩) (.inl (.inl rfl)) (.int .u8 191)).setCell (p := ⟨b, 3, none⟩) (.inl (.inl rfl)) (.int .i64 1)
  have HR := Px.hid (show J6.signBegin t z = (.takes, { t with mode := 5, count := 1, least := 128, most := 191, out := t.out ++ [UInt8.ofNat z] }) from by
    have q0 : (z == 224) = false := by simp; omega
    have q1 : (z == 237) = false := by simp; omega
    have q2 : (z == 240) = false := by simp; omega
    have q3 : (z == 244) = false := by simp; omega
    have p : (if decide (194 ≤ z) && decide (z < 224) then 1 else if decide (224 ≤ z) && decide (z < 240) then 2 else if decide (240 ≤ z) && decide (z < 245) then 3 else 0) = 1 := by
      simp only [Bool.and_eq_true, decide_eq_true_eq]
      (repeat' split) <;> omega
    unfold J6.signBegin
    simp only [p, q0, q1, q2, q3]
    rfl)
  have hcell : [Value.int .u8 (z : Nat)] = [UInt8.ofNat z].flatMap cByte := by show _ = [Value.int .u8 _]; rw [byte_cell z (by omega)]
  have z1 : (194 : Int) ≤ (z : Int) := by omega
  have z2 : (z : Int) < 224 := by omega
  have y0 : ((z : Int) == 224) = false := by simp; omega
  have y1 : ((z : Int) == 237) = false := by simp; omega
  have y2 : ((z : Int) == 240) = false := by simp; omega
  have y3 : ((z : Int) == 244) = false := by simp; omega
  obtain ⟨va, vc, hv, _⟩ := h.text.len
  subst hv
  have H1 := Px.hid (And.intro h1 (And.intro hf1 hcell))
  have HO := Px.hid h1.text
  have c1 : w.cell? ⟨b, 1, none⟩ = some (.slice va t.out.length vc) := cellOf h.blk 1 rfl
  obtain ⟨i0, hi0, hz0, hz1, hz2⟩ := info_parts Try.infoU8
  clear h h1 hf1 hcell hz
  go_enter Try.func92, Try.ntmps92
  go_wp2_with (at_builtin; go_must (refine wpList_append_lies _ rfl _ _ _ rfl 0 5 i0 _ 1 1 Try.underlying60 hi0 hz0 hz1 hz2 rfl (by omega) (.slice va t.out.length vc) t.out.length (t.out.flatMap cByte) rfl (Owns.alloc HO.out _) ⟨w.heap.size, 0, none⟩ 1 1 [.int .u8 (z : Nat)] rfl rfl (World.news_of_block (cs := #[.int .u8 (z : Nat)]) (t := 5) (fr := (0, 0)) (news_at _ _ _ (by simp))) (by simp [Value.oneCell']) (by omega) (by unfold maxLen; omega) (by omega) (by omega) (w.heap.size + 1) (by simp) ?_))
  intro gg cap w1 hown1 hgrow hat hlt
  obtain ⟨k1, k2, k3, k4⟩ := H1.out.1.put (grown_put (L := [UInt8.ofNat z]) H1.out.2.2 rfl hown1 (grown_alloc1 hgrow) (hat.imp id (fun e => by simp; omega)))
  have d1 : w1.cell? ⟨b, 1, none⟩ = some (.slice va t.out.length vc) := cellOf k1 1 rfl
  have e1 : w1.frozen? ⟨b, 1, none⟩ = false := freeOf k1 1
  have HK := Px.hid (And.intro k2 (And.intro k3 k4))
  clear k1 k2 k3 k4 hown1 hgrow hat
  go_wp2
  go_ret
  rw [HR.out]
  exact ⟨rfl, Fr.post H1.out.2.1 HK.out.1 HK.out.2.1 HK.out.2.2⟩
set_option maxRecDepth 100000 in
set_option maxHeartbeats 4000000 in
theorem begins_b (b : Nat) (t : J6.Txt) (vt : Value) (hl : t.out.length ≤ 1000000) (w : World) (h : TxtAt w b t vt) :
    Calls Try.prog 92 #[.pointer (some ⟨b, 0, none⟩), .int .u8 224] w (TxtPost w b vt (J6.signBegin t 224)) := by
  have c0 : w.cell? ⟨b, 0, none⟩ = some (.int .i64 (t.mode : Nat)) := cellOf h.blk 0 rfl
  have f0 : w.frozen? ⟨b, 0, none⟩ = false := freeOf h.blk 0
  have c3 : w.cell? ⟨b, 3, none⟩ = some (.int .i64 (t.count : Nat)) := cellOf h.blk 3 rfl
  have f3 : w.frozen? ⟨b, 3, none⟩ = false := freeOf h.blk 3
  have c5 : w.cell? ⟨b, 5, none⟩ = some (.int .u8 t.least.toNat) := cellOf h.blk 5 rfl
  have f5 : w.frozen? ⟨b, 5, none⟩ = false := freeOf h.blk 5
  have c6 : w.cell? ⟨b, 6, none⟩ = some (.int .u8 t.most.toNat) := cellOf h.blk 6 rfl
  have f6 : w.frozen? ⟨b, 6, none⟩ = false := freeOf h.blk 6
  have h1 := (((((h).set 0 (.int .i64 5) { t with mode := 5 } rfl rfl).set 5 (.int .u8 128) { t with mode := 5, least := 128 } rfl rfl).set 6 (.int .u8 191) { t with mode := 5, least := 128, most := 191 } rfl rfl).set 3 (.int .i64 2) { t with mode := 5, least := 128, most := 191, count := 2 } rfl rfl).set 5 (.int .u8 160) { t with mode := 5, least := 160, most := 191, count := 2 } rfl rfl
  have hf1 := (((((Fr.refl (nfoot b vt) w).setCell (p := ⟨b, 0, none⟩) (.inl (.inl rfl)) (.int .i64 5)).setCell (p := ⟨b, 5, none⟩) (.inl (.inl rfl)) (.int .u8 128)).setCell (p := ⟨b, 6, none⟩) (.inl (.inl rfl)) (.int .u8 191)).setCell (p := ⟨b, 3, none⟩) (.inl (.inl rfl)) (.int .i64 2)).setCell (p := ⟨b, 5, none⟩) (.inl (.inl rfl)) (.int .u8 160)
  have HR := Px.hid (show J6.signBegin t 224 = (.takes, { t with mode := 5, count := 2, least := 160, most := 191, out := t.out ++ [224] }) from rfl)
  have hcell : [Value.int .u8 224] = [(224 : UInt8)].flatMap cByte := rfl
  obtain ⟨va, vc, hv, _⟩ := h.text.len
  subst hv
  have H1 := Px.hid (And.intro h1 (And.intro hf1 hcell))
  have HO := Px.hid h1.text
  have c1 : w.cell? ⟨b, 1, none⟩ = some (.slice va t.out.length vc) := cellOf h.blk 1 rfl
  obtain ⟨i0, hi0, hz0, hz1, hz2⟩ := info_parts Try.infoU8
  clear h h1 hf1 hcell
  go_enter Try.func92, Try.ntmps92
  go_wp2_with (at_builtin; go_must (refine wpList_append_lies _ rfl _ _ _ rfl 0 5 i0 _ 1 1 Try.underlying60 hi0 hz0 hz1 hz2 rfl (by omega) (.slice va t.out.length vc) t.out.length (t.out.flatMap cByte) rfl (Owns.alloc HO.out _) ⟨w.heap.size, 0, none⟩ 1 1 [.int .u8 224] rfl rfl (World.news_of_block (cs := #[.int .u8 224]) (t := 5) (fr := (0, 0)) (news_at _ _ _ (by simp))) (by simp [Value.oneCell']) (by omega) (by unfold maxLen; omega) (by omega) (by omega) (w.heap.size + 1) (by simp) ?_))
  intro gg cap w1 hown1 hgrow hat hlt
  obtain ⟨k1, k2, k3, k4⟩ := H1.out.1.put (grown_put (L := [224]) H1.out.2.2 rfl hown1 (grown_alloc1 hgrow) (hat.imp id (fun e => by simp; omega)))
  have d1 : w1.cell? ⟨b, 1, none⟩ = some (.slice va t.out.length vc) := cellOf k1 1 rfl
  have e1 : w1.frozen? ⟨b, 1, none⟩ = false := freeOf k1 1
  have HK := Px.hid (And.intro k2 (And.intro k3 k4))
  clear k1 k2 k3 k4 hown1 hgrow hat
  go_wp2
  go_ret
  rw [HR.out]
  exact ⟨rfl, Fr.post H1.out.2.1 HK.out.1 HK.out.2.1 HK.out.2.2⟩
set_option maxRecDepth 100000 in
set_option maxHeartbeats 4000000 in
theorem begins_c (b : Nat) (t : J6.Txt) (vt : Value) (hl : t.out.length ≤ 1000000) (w : World) (h : TxtAt w b t vt) :
    Calls Try.prog 92 #[.pointer (some ⟨b, 0, none⟩), .int .u8 237] w (TxtPost w b vt (J6.signBegin t 237)) := by
  have c0 : w.cell? ⟨b, 0, none⟩ = some (.int .i64 (t.mode : Nat)) := cellOf h.blk 0 rfl
  have f0 : w.frozen? ⟨b, 0, none⟩ = false := freeOf h.blk 0
  have c3 : w.cell? ⟨b, 3, none⟩ = some (.int .i64 (t.count : Nat)) := cellOf h.blk 3 rfl
  have f3 : w.frozen? ⟨b, 3, none⟩ = false := freeOf h.blk 3
  have c5 : w.cell? ⟨b, 5, none⟩ = some (.int .u8 t.least.toNat) := cellOf h.blk 5 rfl
  have f5 : w.frozen? ⟨b, 5, none⟩ = false := freeOf h.blk 5
  have c6 : w.cell? ⟨b, 6, none⟩ = some (.int .u8 t.most.toNat) := cellOf h.blk 6 rfl
  have f6 : w.frozen? ⟨b, 6, none⟩ = false := freeOf h.blk 6
  have h1 := (((((h).set 0 (.int .i64 5) { t with mode := 5 } rfl rfl).set 5 (.int .u8 128) { t with mode := 5, least := 128 } rfl rfl).set 6 (.int .u8 191) { t with mode := 5, least := 128, most := 191 } rfl rfl).set 3 (.int .i64 2) { t with mode := 5, least := 128, most := 191, count := 2 } rfl rfl).set 6 (.int .u8 159) { t with mode := 5, least := 128, most := 159, count := 2 } rfl rfl
  have hf1 := (((((Fr.refl (nfoot b vt) w).setCell (p := ⟨b, 0, none⟩) (.inl (.inl rfl)) (.int .i64 5)).setCell (p := ⟨b, 5, none⟩) (.inl (.inl rfl)) (.int .u8 128)).setCell (p := ⟨b, 6, none⟩) (.inl (.inl rfl)) (.int .u8 191)).setCell (p := ⟨b, 3, none⟩) (.inl (.inl rfl)) (.int .i64 2)).setCell (p := ⟨b, 6, none⟩) (.inl (.inl rfl)) (.int .u8 159)
  have HR := Px.hid (show J6.signBegin t 237 = (.takes, { t with mode := 5, count := 2, least := 128, most := 159, out := t.out ++ [237] }) from rfl)
  have hcell : [Value.int .u8 237] = [(237 : UInt8)].flatMap cByte := rfl
  obtain ⟨va, vc, hv, _⟩ := h.text.len
  subst hv
  have H1 := Px.hid (And.intro h1 (And.intro hf1 hcell))
  have HO := Px.hid h1.text
  have c1 : w.cell? ⟨b, 1, none⟩ = some (.slice va t.out.length vc) := cellOf h.blk 1 rfl
  obtain ⟨i0, hi0, hz0, hz1, hz2⟩ := info_parts Try.infoU8
  clear h h1 hf1 hcell
  go_enter Try.func92, Try.ntmps92
  go_wp2_with (at_builtin; go_must (refine wpList_append_lies _ rfl _ _ _ rfl 0 5 i0 _ 1 1 Try.underlying60 hi0 hz0 hz1 hz2 rfl (by omega) (.slice va t.out.length vc) t.out.length (t.out.flatMap cByte) rfl (Owns.alloc HO.out _) ⟨w.heap.size, 0, none⟩ 1 1 [.int .u8 237] rfl rfl (World.news_of_block (cs := #[.int .u8 237]) (t := 5) (fr := (0, 0)) (news_at _ _ _ (by simp))) (by simp [Value.oneCell']) (by omega) (by unfold maxLen; omega) (by omega) (by omega) (w.heap.size + 1) (by simp) ?_))
  intro gg cap w1 hown1 hgrow hat hlt
  obtain ⟨k1, k2, k3, k4⟩ := H1.out.1.put (grown_put (L := [237]) H1.out.2.2 rfl hown1 (grown_alloc1 hgrow) (hat.imp id (fun e => by simp; omega)))
  have d1 : w1.cell? ⟨b, 1, none⟩ = some (.slice va t.out.length vc) := cellOf k1 1 rfl
  have e1 : w1.frozen? ⟨b, 1, none⟩ = false := freeOf k1 1
  have HK := Px.hid (And.intro k2 (And.intro k3 k4))
  clear k1 k2 k3 k4 hown1 hgrow hat
  go_wp2
  go_ret
  rw [HR.out]
  exact ⟨rfl, Fr.post H1.out.2.1 HK.out.1 HK.out.2.1 HK.out.2.2⟩
set_option maxRecDepth 100000 in
set_option maxHeartbeats 4000000 in
theorem begins_d (b : Nat) (t : J6.Txt) (vt : Value) (z : Nat) (hz : 224 < z ∧ z < 240 ∧ z ≠ 237) (hl : t.out.length ≤ 1000000) (w : World) (h : TxtAt w b t vt) :
    Calls Try.prog 92 #[.pointer (some ⟨b, 0, none⟩), .int .u8 (z : Nat)] w (TxtPost w b vt (J6.signBegin t z)) := by
  have c0 : w.cell? ⟨b, 0, none⟩ = some (.int .i64 (t.mode : Nat)) := cellOf h.blk 0 rfl
  have f0 : w.frozen? ⟨b, 0, none⟩ = false := freeOf h.blk 0
  have c3 : w.cell? ⟨b, 3, none⟩ = some (.int .i64 (t.count : Nat)) := cellOf h.blk 3 rfl
  have f3 : w.frozen? ⟨b, 3, none⟩ = false := freeOf h.blk 3
  have c5 : w.cell? ⟨b, 5, none⟩ = some (.int .u8 t.least.toNat) := cellOf h.blk 5 rfl
  have f5 : w.frozen? ⟨b, 5, none⟩ = false := freeOf h.blk 5
  have c6 : w.cell? ⟨b, 6, none⟩ = some (.int .u8 t.most.toNat) := cellOf h.blk 6 rfl
  have f6 : w.frozen? ⟨b, 6, none⟩ = false := freeOf h.blk 6
  have h1 := ((((h).set 0 (.int .i64 5) { t with mode := 5 } rfl rfl).set 5 (.int .u8 128) { t with mode := 5, least := 128 } rfl rfl).set 6 (.int .u8 191) { t with mode := 5, least := 128, most := 191 } rfl rfl).set 3 (.int .i64 2) { t with mode := 5, least := 128, most := 191, count := 2 } rfl rfl
  have hf1 := ((((Fr.refl (nfoot b vt) w).setCell (p := ⟨b, 0, none⟩) (.inl (.inl rfl)) (.int .i64 5)).setCell (p := ⟨b, 5, none⟩) (.inl (.inl rfl)) (.int .u8 128)).setCell (p := ⟨b, 6, none⟩) (.inl (.inl rfl)) (.int .u8 191)).setCell (p := ⟨b, 3, none⟩) (.inl (.inl rfl)) (.int .i64 2)
  have HR := Px.hid (show J6.signBegin t z = (.takes, { t with mode := 5, count := 2, least := 128, most := 191, out := t.out ++ [UInt8.ofNat z] }) from by
    have q0 : (z == 224) = false := by simp; omega
    have q1 : (z == 237) = false := by simp; omega
    have q2 : (z == 240) = false := by simp; omega
    have q3 : (z == 244) = false := by simp; omega
    have p : (if decide (194 ≤ z) && decide (z < 224) then 1 else if decide (224 ≤ z) && decide (z < 240) then 2 else if decide (240 ≤ z) && decide (z < 245) then 3 else 0) = 2 := by
      simp only [Bool.and_eq_true, decide_eq_true_eq]
      (repeat' split) <;> omega
    unfold J6.signBegin
    simp only [p, q0, q1, q2, q3]
    rfl)
  have hcell : [Value.int .u8 (z : Nat)] = [UInt8.ofNat z].flatMap cByte := by show _ = [Value.int .u8 _]; rw [byte_cell z (by omega)]
  have z1 : (194 : Int) ≤ (z : Int) := by omega
  have z2 : decide ((z : Int) < 224) = false := by simp; omega
  have z3 : (224 : Int) ≤ (z : Int) := by omega
  have z4 : (z : Int) < 240 := by omega
  have y0 : ((z : Int) == 224) = false := by simp; omega
  have y1 : ((z : Int) == 237) = false := by simp; omega
  have y2 : ((z : Int) == 240) = false := by simp; omega
  have y3 : ((z : Int) == 244) = false := by simp; omega
  obtain ⟨va, vc, hv, _⟩ := h.text.len
  subst hv
  have H1 := Px.hid (And.intro h1 (And.intro hf1 hcell))
  have HO := Px.hid h1.text
  have c1 : w.cell? ⟨b, 1, none⟩ = some (.slice va t.out.length vc) := cellOf h.blk 1 rfl
  obtain ⟨i0, hi0, hz0, hz1, hz2⟩ := info_parts Try.infoU8
  clear h h1 hf1 hcell hz
  go_enter Try.func92, Try.ntmps92
  go_wp2_with (at_builtin; go_must (refine wpList_append_lies _ rfl _ _ _ rfl 0 5 i0 _ 1 1 Try.underlying60 hi0 hz0 hz1 hz2 rfl (by omega) (.slice va t.out.length vc) t.out.length (t.out.flatMap cByte) rfl (Owns.alloc HO.out _) ⟨w.heap.size, 0, none⟩ 1 1 [.int .u8 (z : Nat)] rfl rfl (World.news_of_block (cs := #[.int .u8 (z : Nat)]) (t := 5) (fr := (0, 0)) (news_at _ _ _ (by simp))) (by simp [Value.oneCell']) (by omega) (by unfold maxLen; omega) (by omega) (by omega) (w.heap.size + 1) (by simp) ?_))
  intro gg cap w1 hown1 hgrow hat hlt
  obtain ⟨k1, k2, k3, k4⟩ := H1.out.1.put (grown_put (L := [UInt8.ofNat z]) H1.out.2.2 rfl hown1 (grown_alloc1 hgrow) (hat.imp id (fun e => by simp; omega)))
  have d1 : w1.cell? ⟨b, 1, none⟩ = some (.slice va t.out.length vc) := cellOf k1 1 rfl
  have e1 : w1.frozen? ⟨b, 1, none⟩ = false := freeOf k1 1
  have HK := Px.hid (And.intro k2 (And.intro k3 k4))
  clear k1 k2 k3 k4 hown1 hgrow hat
  go_wp2
  go_ret
  rw [HR.out]
  exact ⟨rfl, Fr.post H1.out.2.1 HK.out.1 HK.out.2.1 HK.out.2.2⟩
set_option maxRecDepth 100000 in
set_option maxHeartbeats 4000000 in
theorem begins_e (b : Nat) (t : J6.Txt) (vt : Value) (hl : t.out.length ≤ 1000000) (w : World) (h : TxtAt w b t vt) :
    Calls Try.prog 92 #[.pointer (some ⟨b, 0, none⟩), .int .u8 240] w (TxtPost w b vt (J6.signBegin t 240)) := by
  have c0 : w.cell? ⟨b, 0, none⟩ = some (.int .i64 (t.mode : Nat)) := cellOf h.blk 0 rfl
  have f0 : w.frozen? ⟨b, 0, none⟩ = false := freeOf h.blk 0
  have c3 : w.cell? ⟨b, 3, none⟩ = some (.int .i64 (t.count : Nat)) := cellOf h.blk 3 rfl
  have f3 : w.frozen? ⟨b, 3, none⟩ = false := freeOf h.blk 3
  have c5 : w.cell? ⟨b, 5, none⟩ = some (.int .u8 t.least.toNat) := cellOf h.blk 5 rfl
  have f5 : w.frozen? ⟨b, 5, none⟩ = false := freeOf h.blk 5
  have c6 : w.cell? ⟨b, 6, none⟩ = some (.int .u8 t.most.toNat) := cellOf h.blk 6 rfl
  have f6 : w.frozen? ⟨b, 6, none⟩ = false := freeOf h.blk 6
  have h1 := (((((h).set 0 (.int .i64 5) { t with mode := 5 } rfl rfl).set 5 (.int .u8 128) { t with mode := 5, least := 128 } rfl rfl).set 6 (.int .u8 191) { t with mode := 5, least := 128, most := 191 } rfl rfl).set 3 (.int .i64 3) { t with mode := 5, least := 128, most := 191, count := 3 } rfl rfl).set 5 (.int .u8 144) { t with mode := 5, least := 144, most := 191, count := 3 } rfl rfl
  have hf1 := (((((Fr.refl (nfoot b vt) w).setCell (p := ⟨b, 0, none⟩) (.inl (.inl rfl)) (.int .i64 5)).setCell (p := ⟨b, 5, none⟩) (.inl (.inl rfl)) (.int .u8 128)).setCell (p := ⟨b, 6, none⟩) (.inl (.inl rfl)) (.int .u8 191)).setCell (p := ⟨b, 3, none⟩) (.inl (.inl rfl)) (.int .i64 3)).setCell (p := ⟨b, 5, none⟩) (.inl (.inl rfl)) (.int .u8 144)
  have HR := Px.hid (show J6.signBegin t 240 = (.takes, { t with mode := 5, count := 3, least := 144, most := 191, out := t.out ++ [240] }) from rfl)
  have hcell : [Value.int .u8 240] = [(240 : UInt8)].flatMap cByte := rfl
  obtain ⟨va, vc, hv, _⟩ := h.text.len
  subst hv
  have H1 := Px.hid (And.intro h1 (And.intro hf1 hcell))
  have HO := Px.hid h1.text
  have c1 : w.cell? ⟨b, 1, none⟩ = some (.slice va t.out.length vc) := cellOf h.blk 1 rfl
  obtain ⟨i0, hi0, hz0, hz1, hz2⟩ := info_parts Try.infoU8
  clear h h1 hf1 hcell
  go_enter Try.func92, Try.ntmps92
  go_wp2_with (at_builtin; go_must (refine wpList_append_lies _ rfl _ _ _ rfl 0 5 i0 _ 1 1 Try.underlying60 hi0 hz0 hz1 hz2 rfl (by omega) (.slice va t.out.length vc) t.out.length (t.out.flatMap cByte) rfl (Owns.alloc HO.out _) ⟨w.heap.size, 0, none⟩ 1 1 [.int .u8 240] rfl rfl (World.news_of_block (cs := #[.int .u8 240]) (t := 5) (fr := (0, 0)) (news_at _ _ _ (by simp))) (by simp [Value.oneCell']) (by omega) (by unfold maxLen; omega) (by omega) (by omega) (w.heap.size + 1) (by simp) ?_))
  intro gg cap w1 hown1 hgrow hat hlt
  obtain ⟨k1, k2, k3, k4⟩ := H1.out.1.put (grown_put (L := [240]) H1.out.2.2 rfl hown1 (grown_alloc1 hgrow) (hat.imp id (fun e => by simp; omega)))
  have d1 : w1.cell? ⟨b, 1, none⟩ = some (.slice va t.out.length vc) := cellOf k1 1 rfl
  have e1 : w1.frozen? ⟨b, 1, none⟩ = false := freeOf k1 1
  have HK := Px.hid (And.intro k2 (And.intro k3 k4))
  clear k1 k2 k3 k4 hown1 hgrow hat
  go_wp2
  go_ret
  rw [HR.out]
  exact ⟨rfl, Fr.post H1.out.2.1 HK.out.1 HK.out.2.1 HK.out.2.2⟩
set_option maxRecDepth 100000 in
set_option maxHeartbeats 4000000 in
theorem begins_f (b : Nat) (t : J6.Txt) (vt : Value) (hl : t.out.length ≤ 1000000) (w : World) (h : TxtAt w b t vt) :
    Calls Try.prog 92 #[.pointer (some ⟨b, 0, none⟩), .int .u8 244] w (TxtPost w b vt (J6.signBegin t 244)) := by
  have c0 : w.cell? ⟨b, 0, none⟩ = some (.int .i64 (t.mode : Nat)) := cellOf h.blk 0 rfl
  have f0 : w.frozen? ⟨b, 0, none⟩ = false := freeOf h.blk 0
  have c3 : w.cell? ⟨b, 3, none⟩ = some (.int .i64 (t.count : Nat)) := cellOf h.blk 3 rfl
  have f3 : w.frozen? ⟨b, 3, none⟩ = false := freeOf h.blk 3
  have c5 : w.cell? ⟨b, 5, none⟩ = some (.int .u8 t.least.toNat) := cellOf h.blk 5 rfl
  have f5 : w.frozen? ⟨b, 5, none⟩ = false := freeOf h.blk 5
  have c6 : w.cell? ⟨b, 6, none⟩ = some (.int .u8 t.most.toNat) := cellOf h.blk 6 rfl
  have f6 : w.frozen? ⟨b, 6, none⟩ = false := freeOf h.blk 6
  have h1 := (((((h).set 0 (.int .i64 5) { t with mode := 5 } rfl rfl).set 5 (.int .u8 128) { t with mode := 5, least := 128 } rfl rfl).set 6 (.int .u8 191) { t with mode := 5, least := 128, most := 191 } rfl rfl).set 3 (.int .i64 3) { t with mode := 5, least := 128, most := 191, count := 3 } rfl rfl).set 6 (.int .u8 143) { t with mode := 5, least := 128, most := 143, count := 3 } rfl rfl
  have hf1 := (((((Fr.refl (nfoot b vt) w).setCell (p := ⟨b, 0, none⟩) (.inl (.inl rfl)) (.int .i64 5)).setCell (p := ⟨b, 5, none⟩) (.inl (.inl rfl)) (.int .u8 128)).setCell (p := ⟨b, 6, none⟩) (.inl (.inl rfl)) (.int .u8 191)).setCell (p := ⟨b, 3, none⟩) (.inl (.inl rfl)) (.int .i64 3)).setCell (p := ⟨b, 6, none⟩) (.inl (.inl rfl)) (.int .u8 143)
  have HR := Px.hid (show J6.signBegin t 244 = (.takes, { t with mode := 5, count := 3, least := 128, most := 143, out := t.out ++ [244] }) from rfl)
  have hcell : [Value.int .u8 244] = [(244 : UInt8)].flatMap cByte := rfl
  obtain ⟨va, vc, hv, _⟩ := h.text.len
  subst hv
  have H1 := Px.hid (And.intro h1 (And.intro hf1 hcell))
  have HO := Px.hid h1.text
  have c1 : w.cell? ⟨b, 1, none⟩ = some (.slice va t.out.length vc) := cellOf h.blk 1 rfl
  obtain ⟨i0, hi0, hz0, hz1, hz2⟩ := info_parts Try.infoU8
  clear h h1 hf1 hcell
  go_enter Try.func92, Try.ntmps92
  go_wp2_with (at_builtin; go_must (refine wpList_append_lies _ rfl _ _ _ rfl 0 5 i0 _ 1 1 Try.underlying60 hi0 hz0 hz1 hz2 rfl (by omega) (.slice va t.out.length vc) t.out.length (t.out.flatMap cByte) rfl (Owns.alloc HO.out _) ⟨w.heap.size, 0, none⟩ 1 1 [.int .u8 244] rfl rfl (World.news_of_block (cs := #[.int .u8 244]) (t := 5) (fr := (0, 0)) (news_at _ _ _ (by simp))) (by simp [Value.oneCell']) (by omega) (by unfold maxLen; omega) (by omega) (by omega) (w.heap.size + 1) (by simp) ?_))
  intro gg cap w1 hown1 hgrow hat hlt
  obtain ⟨k1, k2, k3, k4⟩ := H1.out.1.put (grown_put (L := [244]) H1.out.2.2 rfl hown1 (grown_alloc1 hgrow) (hat.imp id (fun e => by simp; omega)))
  have d1 : w1.cell? ⟨b, 1, none⟩ = some (.slice va t.out.length vc) := cellOf k1 1 rfl
  have e1 : w1.frozen? ⟨b, 1, none⟩ = false := freeOf k1 1
  have HK := Px.hid (And.intro k2 (And.intro k3 k4))
  clear k1 k2 k3 k4 hown1 hgrow hat
  go_wp2
  go_ret
  rw [HR.out]
  exact ⟨rfl, Fr.post H1.out.2.1 HK.out.1 HK.out.2.1 HK.out.2.2⟩
set_option maxRecDepth 100000 in
set_option maxHeartbeats 4000000 in
theorem begins_g (b : Nat) (t : J6.Txt) (vt : Value) (z : Nat) (hz : 240 < z ∧ z < 244) (hl : t.out.length ≤ 1000000) (w : World) (h : TxtAt w b t vt) :
    Calls Try.prog 92 #[.pointer (some ⟨b, 0, none⟩), .int .u8 (z : Nat)] w (TxtPost w b vt (J6.signBegin t z)) := by
  have c0 : w.cell? ⟨b, 0, none⟩ = some (.int .i64 (t.mode : Nat)) := cellOf h.blk 0 rfl
  have f0 : w.frozen? ⟨b, 0, none⟩ = false := freeOf h.blk 0
  have c3 : w.cell? ⟨b, 3, none⟩ = some (.int .i64 (t.count : Nat)) := cellOf h.blk 3 rfl
  have f3 : w.frozen? ⟨b, 3, none⟩ = false := freeOf h.blk 3
  have c5 : w.cell? ⟨b, 5, none⟩ = some (.int .u8 t.least.toNat) := cellOf h.blk 5 rfl
  have f5 : w.frozen? ⟨b, 5, none⟩ = false := freeOf h.blk 5
  have c6 : w.cell? ⟨b, 6, none⟩ = some (.int .u8 t.most.toNat) := cellOf h.blk 6 rfl
  have f6 : w.frozen? ⟨b, 6, none⟩ = false := freeOf h.blk 6
  have h1 := ((((h).set 0 (.int .i64 5) { t with mode := 5 } rfl rfl).set 5 (.int .u8 128) { t with mode := 5, least := 128 } rfl rfl).set 6 (.int .u8 191) { t with mode := 5, least := 128, most := 191 } rfl rfl).set 3 (.int .i64 3) { t with mode := 5, least := 128, most := 191, count := 3 } rfl rfl
  have hf1 := ((((Fr.refl (nfoot b vt) w).setCell (p := ⟨b, 0, none⟩) (.inl (.inl rfl)) (.int .i64 5)).setCell (p := ⟨b, 5, none⟩) (.inl (.inl rfl)) (.int .u8 128)).setCell (p := ⟨b, 6, none⟩) (.inl (.inl rfl)) (.int .u8 191)).setCell (p := ⟨b, 3, none⟩) (.inl (.inl rfl)) (.int .i64 3)
  have HR := Px.hid (show J6.signBegin t z = (.takes, { t with mode := 5, count := 3, least := 128, most := 191, out := t.out ++ [UInt8.ofNat z] }) from by
    have q0 : (z == 224) = false := by simp; omega
    have q1 : (z == 237) = false := by simp; omega
    have q2 : (z == 240) = false := by simp; omega
    have q3 : (z == 244) = false := by simp; omega
    have p : (if decide (194 ≤ z) && decide (z < 224) then 1 else if decide (224 ≤ z) && decide (z < 240) then 2 else if decide (240 ≤ z) && decide (z < 245) then 3 else 0) = 3 := by
      simp only [Bool.and_eq_true, decide_eq_true_eq]
      (repeat' split) <;> omega
    unfold J6.signBegin
    simp only [p, q0, q1, q2, q3]
    rfl)
  have hcell : [Value.int .u8 (z : Nat)] = [UInt8.ofNat z].flatMap cByte := by show _ = [Value.int .u8 _]; rw [byte_cell z (by omega)]
  have z1 : (194 : Int) ≤ (z : Int) := by omega
  have z2 : decide ((z : Int) < 224) = false := by simp; omega
  have z3 : (224 : Int) ≤ (z : Int) := by omega
  have z4 : decide ((z : Int) < 240) = false := by simp; omega
  have z5 : (240 : Int) ≤ (z : Int) := by omega
  have z6 : (z : Int) < 245 := by omega
  have y0 : ((z : Int) == 224) = false := by simp; omega
  have y1 : ((z : Int) == 237) = false := by simp; omega
  have y2 : ((z : Int) == 240) = false := by simp; omega
  have y3 : ((z : Int) == 244) = false := by simp; omega
  obtain ⟨va, vc, hv, _⟩ := h.text.len
  subst hv
  have H1 := Px.hid (And.intro h1 (And.intro hf1 hcell))
  have HO := Px.hid h1.text
  have c1 : w.cell? ⟨b, 1, none⟩ = some (.slice va t.out.length vc) := cellOf h.blk 1 rfl
  obtain ⟨i0, hi0, hz0, hz1, hz2⟩ := info_parts Try.infoU8
  clear h h1 hf1 hcell hz
  go_enter Try.func92, Try.ntmps92
  go_wp2_with (at_builtin; go_must (refine wpList_append_lies _ rfl _ _ _ rfl 0 5 i0 _ 1 1 Try.underlying60 hi0 hz0 hz1 hz2 rfl (by omega) (.slice va t.out.length vc) t.out.length (t.out.flatMap cByte) rfl (Owns.alloc HO.out _) ⟨w.heap.size, 0, none⟩ 1 1 [.int .u8 (z : Nat)] rfl rfl (World.news_of_block (cs := #[.int .u8 (z : Nat)]) (t := 5) (fr := (0, 0)) (news_at _ _ _ (by simp))) (by simp [Value.oneCell']) (by omega) (by unfold maxLen; omega) (by omega) (by omega) (w.heap.size + 1) (by simp) ?_))
  intro gg cap w1 hown1 hgrow hat hlt
  obtain ⟨k1, k2, k3, k4⟩ := H1.out.1.put (grown_put (L := [UInt8.ofNat z]) H1.out.2.2 rfl hown1 (grown_alloc1 hgrow) (hat.imp id (fun e => by simp; omega)))
  have d1 : w1.cell? ⟨b, 1, none⟩ = some (.slice va t.out.length vc) := cellOf k1 1 rfl
  have e1 : w1.frozen? ⟨b, 1, none⟩ = false := freeOf k1 1
  have HK := Px.hid (And.intro k2 (And.intro k3 k4))
  clear k1 k2 k3 k4 hown1 hgrow hat
  go_wp2
  go_ret
  rw [HR.out]
  exact ⟨rfl, Fr.post H1.out.2.1 HK.out.1 HK.out.2.1 HK.out.2.2⟩
set_option maxRecDepth 100000 in
set_option maxHeartbeats 4000000 in
theorem begins_no (b : Nat) (t : J6.Txt) (vt : Value) (z : Nat) (hz : z < 194 ∨ 245 ≤ z) (w : World) (h : TxtAt w b t vt) :
    Calls Try.prog 92 #[.pointer (some ⟨b, 0, none⟩), .int .u8 (z : Nat)] w (TxtPost w b vt (J6.signBegin t z)) := by
  have c0 : w.cell? ⟨b, 0, none⟩ = some (.int .i64 (t.mode : Nat)) := cellOf h.blk 0 rfl
  have f0 : w.frozen? ⟨b, 0, none⟩ = false := freeOf h.blk 0
  have c5 : w.cell? ⟨b, 5, none⟩ = some (.int .u8 t.least.toNat) := cellOf h.blk 5 rfl
  have f5 : w.frozen? ⟨b, 5, none⟩ = false := freeOf h.blk 5
  have c6 : w.cell? ⟨b, 6, none⟩ = some (.int .u8 t.most.toNat) := cellOf h.blk 6 rfl
  have f6 : w.frozen? ⟨b, 6, none⟩ = false := freeOf h.blk 6
  have h1 := ((h.set 0 (.int .i64 5) { t with mode := 5 } rfl rfl).set 5 (.int .u8 128) { t with mode := 5, least := 128 } rfl rfl).set 6 (.int .u8 191) { t with mode := 5, least := 128, most := 191 } rfl rfl
  have hf1 := (((Fr.refl (nfoot b vt) w).setCell (p := ⟨b, 0, none⟩) (.inl (.inl rfl)) (.int .i64 5)).setCell (p := ⟨b, 5, none⟩) (.inl (.inl rfl)) (.int .u8 128)).setCell (p := ⟨b, 6, none⟩) (.inl (.inl rfl)) (.int .u8 191)
  have HR := Px.hid (show J6.signBegin t z = (.refuses, { t with mode := 5, least := 128, most := 191 }) from by
    have p : (if decide (194 ≤ z) && decide (z < 224) then 1 else if decide (224 ≤ z) && decide (z < 240) then 2 else if decide (240 ≤ z) && decide (z < 245) then 3 else 0) = 0 := by
      simp only [Bool.and_eq_true, decide_eq_true_eq]
      (repeat' split) <;> omega
    unfold J6.signBegin
    simp only [p]
    rfl)
  have H1 := Px.hid (And.intro h1 hf1)
  clear h h1 hf1
  rcases hz with hz | hz
  · have z1 : decide ((194 : Int) ≤ (z : Int)) = false := by simp; omega
    have z2 : decide ((224 : Int) ≤ (z : Int)) = false := by simp; omega
    have z3 : decide ((240 : Int) ≤ (z : Int)) = false := by simp; omega
    clear hz
    go_enter Try.func92, Try.ntmps92
    go_wp2
    go_ret
    rw [HR.out]
    exact ⟨rfl, _, H1.out.1, H1.out.2, Fresh.refl _ _⟩
  · have z1 : (194 : Int) ≤ (z : Int) := by omega
    have z2 : (224 : Int) ≤ (z : Int) := by omega
    have z3 : (240 : Int) ≤ (z : Int) := by omega
    have y1 : decide ((z : Int) < 224) = false := by simp; omega
    have y2 : decide ((z : Int) < 240) = false := by simp; omega
    have y3 : decide ((z : Int) < 245) = false := by simp; omega
    clear hz
    go_enter Try.func92, Try.ntmps92
    go_wp2
    go_ret
    rw [HR.out]
    exact ⟨rfl, _, H1.out.1, H1.out.2, Fresh.refl _ _⟩
theorem text_begins (b : Nat) (t : J6.Txt) (vt : Value) (z : Nat) (hl : t.out.length ≤ 1000000) (w : World) (h : TxtAt w b t vt) :
    Calls Try.prog 92 #[.pointer (some ⟨b, 0, none⟩), .int .u8 (z : Nat)] w (TxtPost w b vt (J6.signBegin t z)) := by
  by_cases h0 : z < 194 ∨ 245 ≤ z
  · exact begins_no b t vt z h0 w h
  by_cases ha : z < 224
  · exact begins_a b t vt z (by omega) hl w h
  by_cases hb : z = 224
  · subst hb; exact begins_b b t vt hl w h
  by_cases hc : z = 237
  · subst hc; exact begins_c b t vt hl w h
  by_cases hd : z < 240
  · exact begins_d b t vt z (by omega) hl w h
  by_cases he : z = 240
  · subst he; exact begins_e b t vt hl w h
  by_cases hf : z = 244
  · subst hf; exact begins_f b t vt hl w h
  · exact begins_g b t vt z (by omega) hl w h
end Go.Proofs.Ytahojodgmjmpnaa
