/-
  The walk over the reference's element (layer 15) behind its head.
-/
import Derived.Test.YtceffhkgnifmeaaDoorRfV
namespace Go.Proofs.YtceffhkgnifmeaaDoor
open Go.RowKit Go.Px Go.Px.R5

set_option maxRecDepth 100000 in
set_option maxHeartbeats 4000000 in
theorem el_all (s : Bytes) (lim : Lim) (hs : s.length ≤ 140737488355327) (hm : lim.may = true) (b p dp : Nat) (E : Int) (x : St) (vo : Value) (w : World) (h : RdRep w b s lim x vo) (hok : D5.Ok s lim x p) (y : St) (hv : R5.want s lim x p = (true, y)) (hi : ¬ lim.i ≤ x.out.length) (ht : tagE (s.getD p 0).toNat = 0) (hin : inner (s.getD p 0).toNat = false) (n q : Nat) (z : St) (hl : R5.length s lim y (p + 1) = (some (n, q), z)) (hqn : q ≤ 262144 ∧ n < 4294967296 ∧ q ≤ s.length) (hE : ¬ 0 ≤ E ∨ (0 ≤ E ∧ ¬ E < (q : Int) + n)) (u : St) (ha : (if n = 0 then (true, z) else R5.want s lim z (q + n - 1)) = (false, u)) :
    Calls Tryd.prog 45 #[.pointer (some ⟨b, 0, none⟩), .int .i64 (p : Nat), .int .i64 (dp : Nat), .int .i64 E] w fun r w' => r = .returned (itemV none) ∧ Did w b s lim (rfoot b vo) u w' := by
  have hmay := E5.may_of hm
  have hb1 := hmay.2.2.2.2.1
  have hb2 := hmay.2.2.2.2.2.1
  have hp : p ≤ 262144 := by have := hok.pb; omega
  have hsm : s.length ≤ maxLen := by unfold maxLen; omega
  have hol : x.out.length ≤ 1000000 := by have := hok.out; omega
  have hsz : (ByteArray.mk s.toArray).size = s.length := size_S s
  have hwt := want_any b _ p s lim x vo [] w h.rd hsm hb1 hb2 (by unfold maxLen; omega)
  rw [hv] at hwt
  have HW := Px.hid hwt
  have HH := Px.hid h
  have HYO := Px.hid (show y.out = x.out by have := rwant_out s lim x p; rw [hv] at this; exact this)
  have hpl := (rwant_true hv).1
  have ip := idx_S s p hpl
  obtain ⟨t, htt⟩ : ∃ t, t = s.getD p 0 := ⟨_, rfl⟩
  rw [← htt] at ip ht hin
  have hcb : t.toNat < 256 := UInt8.toNat_lt _
  obtain ⟨oa, oc, hov, _⟩ := h.out.len
  have HOV := Px.hid hov
  have HTT := Px.hid htt
  clear hov hwt htt
  have hid2 : decide (lim.i ≤ (x.out.length : Int)) = false := decide_eq_false (by omega)
  have HT := Px.hid ht
  have HL := Px.hid hl
  have HZO := Px.hid (show z.out = y.out by have := rlength_out s lim y (p + 1); rw [hl] at this; exact this)
  have hbt : ((t.toNat : Int) / 32 % 2 == 1) = false := by
    unfold inner at hin
    rw [beq_eq_false_iff_ne] at hin ⊢
    omega
  have hq1 := hqn.1
  have hn1 := hqn.2.1
  have HA := Px.hid ha
  have HUO := Px.hid (show u.out = z.out by
    by_cases h0 : n = 0
    · rw [if_pos h0] at ha
      simp only [Prod.mk.injEq] at ha
      rw [← ha.2]
    · rw [if_neg h0] at ha
      have := rwant_out s lim z (q + n - 1)
      rw [ha] at this
      exact this)
  clear hv h hok hi hmay hm ht hin hl hqn ha
  go_enter Tryd.func45, Tryd.ntmps45
  go_wp2_with fail
  refine HW.out.mono ?_
  rintro r w1 ⟨rfl, hr, hf⟩
  have HR := Px.hid (show RdRep w1 b s lim y vo ∧ Fr (rfoot b vo) w w1 from ⟨HH.out.step hr hf HYO.out, It.foot hf⟩)
  clear hr hf
  have c2 := HR.out.1.rd.cells.2.2.1
  have c5 := HR.out.1.cell5
  rw [HOV.out] at c5
  go_wp2_with fail
  go_quiet (fail)
  obtain ⟨w2, hw2⟩ : ∃ w2, w2 = w1.drewN nq := ⟨_, rfl⟩
  rw [← hw2]
  have HR2 := Px.hid (show RdRep w2 b s lim y vo ∧ Fr (rfoot b vo) w w2 from by rw [hw2]; exact ⟨HR.out.1.drewN nq, HR.out.2.drewN nq⟩)
  clear hw2 c2 c5 HR
  have c0 := HR2.out.1.rd.cells.1
  go_wp2_with fail
  refine (rtag_any t.toNat hcb _).mono ?_
  rintro r w2x ⟨rfl, hw2x⟩
  subst hw2x
  rw [HT.out]
  have c1 := HR2.out.1.rd.cells.2.1
  have hp1 : ((p + 1 : Nat) : Int) = (p : Int) + 1 := by omega
  have hcl := rlength_any b _ (p + 1) s lim y vo [] w2 HR2.out.1.rd hs hb1 hb2 (by omega)
  rw [hp1] at hcl
  have HCL := Px.hid hcl
  clear hcl hp1
  go_wp2_with fail
  refine HCL.out.mono ?_
  intro r w3 hpost
  unfold RLen at hpost
  rw [HL.out] at hpost
  obtain ⟨rfl, hr, hf⟩ := hpost
  have HR3 := Px.hid (show RdRep w3 b s lim z vo ∧ Fr (rfoot b vo) w w3 from ⟨HR2.out.1.step hr hf HZO.out, Fr.trans HR2.out.2 (It.foot hf) (fun _ _ e => e)⟩)
  clear hr hf c0 c1
  unfold lenV
  go_upto_region 15 with fail
  go_cut [83] (fun t83 wx => t83 = .bool false ∧ wx = w3)
  case first =>
    rcases hE with hE | ⟨hE, hE2⟩
    all_goals
      go_wp2_with fail
      go_meet
      first
        | exact ⟨rfl, rfl⟩
        | exact ⟨by rw [decide_eq_false (by omega)], rfl⟩
  case rest =>
    obtain ⟨rfl, hwc⟩ := hcut
    subst hwc
    clear hE
    go_wp2_with fail
    have hall := all_any b _ q n s lim z vo [] wc HR3.out.1.rd hsm hb1 hb2 (by omega) hn1
    rw [HA.out] at hall
    refine hall.mono ?_
    clear hall
    rintro r w4 ⟨rfl, hr, hf⟩
    have HR4 := Px.hid (show RdRep w4 b s lim u vo ∧ Fr (rfoot b vo) w w4 from ⟨HR3.out.1.step hr hf HUO.out, Fr.trans HR3.out.2 (It.foot hf) (fun _ _ e => e)⟩)
    clear hr hf HR3
    go_wp2
    go_ret2
    exact ⟨rfl, _, ⟨vo, HR4.out.1, rfl⟩, HR4.out.2, Fresh.refl _ _⟩
set_option maxRecDepth 100000 in
set_option maxHeartbeats 4000000 in
theorem el_body (s : Bytes) (lim : Lim) (hs : s.length ≤ 140737488355327) (hm : lim.may = true) (b p dp : Nat) (E : Int) (x : St) (vo : Value) (w : World) (h : RdRep w b s lim x vo) (hok : D5.Ok s lim x p) (y : St) (hv : R5.want s lim x p = (true, y)) (hi : ¬ lim.i ≤ x.out.length) (ht : tagE (s.getD p 0).toNat = 0) (hin : inner (s.getD p 0).toNat = false) (n q : Nat) (z : St) (hl : R5.length s lim y (p + 1) = (some (n, q), z)) (hqn : q ≤ 262144 ∧ n < 4294967296 ∧ q ≤ s.length) (hE : ¬ 0 ≤ E ∨ (0 ≤ E ∧ ¬ E < (q : Int) + n)) (u : St) (ha : (if n = 0 then (true, z) else R5.want s lim z (q + n - 1)) = (true, u)) (hbd : R5.body (s.getD p 0).toNat ((s.take (q + n)).drop q) = false) :
    Calls Tryd.prog 45 #[.pointer (some ⟨b, 0, none⟩), .int .i64 (p : Nat), .int .i64 (dp : Nat), .int .i64 E] w fun r w' => r = .returned (itemV none) ∧ Did w b s lim (rfoot b vo) (fault u p 9) w' := by
  have hmay := E5.may_of hm
  have hb1 := hmay.2.2.2.2.1
  have hb2 := hmay.2.2.2.2.2.1
  have hp : p ≤ 262144 := by have := hok.pb; omega
  have hsm : s.length ≤ maxLen := by unfold maxLen; omega
  have hol : x.out.length ≤ 1000000 := by have := hok.out; omega
  have hsz : (ByteArray.mk s.toArray).size = s.length := size_S s
  have hwt := want_any b _ p s lim x vo [] w h.rd hsm hb1 hb2 (by unfold maxLen; omega)
  rw [hv] at hwt
  have HW := Px.hid hwt
  have HH := Px.hid h
  have HYO := Px.hid (show y.out = x.out by have := rwant_out s lim x p; rw [hv] at this; exact this)
  have hpl := (rwant_true hv).1
  have ip := idx_S s p hpl
  obtain ⟨t, htt⟩ : ∃ t, t = s.getD p 0 := ⟨_, rfl⟩
  rw [← htt] at ip ht hin hbd
  have hcb : t.toNat < 256 := UInt8.toNat_lt _
  obtain ⟨oa, oc, hov, _⟩ := h.out.len
  have HOV := Px.hid hov
  have HTT := Px.hid htt
  clear hov hwt htt
  have hid2 : decide (lim.i ≤ (x.out.length : Int)) = false := decide_eq_false (by omega)
  have HT := Px.hid ht
  have HL := Px.hid hl
  have HZO := Px.hid (show z.out = y.out by have := rlength_out s lim y (p + 1); rw [hl] at this; exact this)
  have hbt : ((t.toNat : Int) / 32 % 2 == 1) = false := by
    unfold inner at hin
    rw [beq_eq_false_iff_ne] at hin ⊢
    omega
  have hq1 := hqn.1
  have hn1 := hqn.2.1
  have HA := Px.hid ha
  have HUO := Px.hid (show u.out = z.out by
    by_cases h0 : n = 0
    · rw [if_pos h0] at ha
      simp only [Prod.mk.injEq] at ha
      rw [← ha.2]
    · rw [if_neg h0] at ha
      have := rwant_out s lim z (q + n - 1)
      rw [ha] at this
      exact this)
  have hqs : q + n ≤ s.length := by
    by_cases h0 : n = 0
    · omega
    · rw [if_neg h0] at ha
      have := (rwant_true ha).1
      omega
  obtain ⟨bb, hbb⟩ : ∃ bb, bb = (s.take (q + n)).drop q := ⟨_, rfl⟩
  have hslc := fun w => slice_S s q (q + n) (Nat.le_add_right _ _) hqs w
  rw [show ((q + n : Nat) : Int) = (q : Int) + n by omega] at hslc
  rw [← hbb] at hslc hbd
  have hbl : bb.length ≤ 140737488355327 := by rw [hbb, List.length_drop, List.length_take]; omega
  have hszb : (ByteArray.mk bb.toArray).size = bb.length := size_S bb
  have hwn : IntKind.i64.wrap ((q : Int) + n) = (q : Int) + n := IntWalk.i64_in _ ⟨by omega, by omega⟩
  have HBD := Px.hid hbd
  have HBL := Px.hid hbl
  clear hbb hbd hqs hbl
  clear hv h hok hi hmay hm ht hin hl hqn ha 
  go_enter Tryd.func45, Tryd.ntmps45
  go_wp2_with fail
  refine HW.out.mono ?_
  rintro r w1 ⟨rfl, hr, hf⟩
  have HR := Px.hid (show RdRep w1 b s lim y vo ∧ Fr (rfoot b vo) w w1 from ⟨HH.out.step hr hf HYO.out, It.foot hf⟩)
  clear hr hf
  have c2 := HR.out.1.rd.cells.2.2.1
  have c5 := HR.out.1.cell5
  rw [HOV.out] at c5
  go_wp2_with fail
  go_quiet (fail)
  obtain ⟨w2, hw2⟩ : ∃ w2, w2 = w1.drewN nq := ⟨_, rfl⟩
  rw [← hw2]
  have HR2 := Px.hid (show RdRep w2 b s lim y vo ∧ Fr (rfoot b vo) w w2 from by rw [hw2]; exact ⟨HR.out.1.drewN nq, HR.out.2.drewN nq⟩)
  clear hw2 c2 c5 HR
  have c0 := HR2.out.1.rd.cells.1
  go_wp2_with fail
  refine (rtag_any t.toNat hcb _).mono ?_
  rintro r w2x ⟨rfl, hw2x⟩
  subst hw2x
  rw [HT.out]
  have c1 := HR2.out.1.rd.cells.2.1
  have hp1 : ((p + 1 : Nat) : Int) = (p : Int) + 1 := by omega
  have hcl := rlength_any b _ (p + 1) s lim y vo [] w2 HR2.out.1.rd hs hb1 hb2 (by omega)
  rw [hp1] at hcl
  have HCL := Px.hid hcl
  clear hcl hp1
  go_wp2_with fail
  refine HCL.out.mono ?_
  intro r w3 hpost
  unfold RLen at hpost
  rw [HL.out] at hpost
  obtain ⟨rfl, hr, hf⟩ := hpost
  have HR3 := Px.hid (show RdRep w3 b s lim z vo ∧ Fr (rfoot b vo) w w3 from ⟨HR2.out.1.step hr hf HZO.out, Fr.trans HR2.out.2 (It.foot hf) (fun _ _ e => e)⟩)
  clear hr hf c0 c1
  unfold lenV
  go_upto_region 15 with fail
  go_cut [83] (fun t83 wx => t83 = .bool false ∧ wx = w3)
  case first =>
    rcases hE with hE | ⟨hE, hE2⟩
    all_goals
      go_wp2_with fail
      go_meet
      first
        | exact ⟨rfl, rfl⟩
        | exact ⟨by rw [decide_eq_false (by omega)], rfl⟩
  case rest =>
    obtain ⟨rfl, hwc⟩ := hcut
    subst hwc
    clear hE
    go_wp2_with fail
    have hall := all_any b _ q n s lim z vo [] wc HR3.out.1.rd hsm hb1 hb2 (by omega) hn1
    rw [HA.out] at hall
    refine hall.mono ?_
    clear hall
    rintro r w4 ⟨rfl, hr, hf⟩
    have HR4 := Px.hid (show RdRep w4 b s lim u vo ∧ Fr (rfoot b vo) w w4 from ⟨HR3.out.1.step hr hf HUO.out, Fr.trans HR3.out.2 (It.foot hf) (fun _ _ e => e)⟩)
    clear hr hf HR3
    have c0 := HR4.out.1.rd.cells.1
    go_wp2_with fail
    refine (rbody_any t.toNat bb HBL.out _).mono ?_
    rintro r w5 ⟨rfl, hs5⟩
    rw [HBD.out]
    have HR5 := Px.hid (show RdRep w5 b s lim u vo ∧ Fr (rfoot b vo) w w5 from ⟨HR4.out.1.same hs5, Fr.trans HR4.out.2 (hs5.fr _) (fun _ _ e => e)⟩)
    clear hs5 HR4 c0
    go_wp2_with fail
    refine (rfault_any b _ p 9 s lim u vo [] _ HR5.out.1.rd).mono ?_
    rintro r wf ⟨rfl, hr, hf⟩
    have HF := Px.hid (show RdRep wf b s lim (fault u p 9) vo ∧ Fr (rfoot b vo) w wf from ⟨HR5.out.1.step hr hf rfl, Fr.trans HR5.out.2 (It.foot hf) (fun _ _ e => e)⟩)
    clear hr hf
    go_wp2
    go_ret2
    exact ⟨rfl, _, ⟨vo, HF.out.1, rfl⟩, HF.out.2, Fresh.refl _ _⟩
set_option maxRecDepth 100000 in
set_option maxHeartbeats 4000000 in
theorem el_leaf (s : Bytes) (lim : Lim) (hs : s.length ≤ 140737488355327) (hm : lim.may = true) (b p dp : Nat) (E : Int) (x : St) (vo : Value) (w : World) (h : RdRep w b s lim x vo) (hok : D5.Ok s lim x p) (y : St) (hv : R5.want s lim x p = (true, y)) (hi : ¬ lim.i ≤ x.out.length) (ht : tagE (s.getD p 0).toNat = 0) (hin : inner (s.getD p 0).toNat = false) (n q : Nat) (z : St) (hl : R5.length s lim y (p + 1) = (some (n, q), z)) (hqn : q ≤ 262144 ∧ n < 4294967296 ∧ q ≤ s.length) (hE : ¬ 0 ≤ E ∨ (0 ≤ E ∧ ¬ E < (q : Int) + n)) (u : St) (ha : (if n = 0 then (true, z) else R5.want s lim z (q + n - 1)) = (true, u)) (hbd : R5.body (s.getD p 0).toNat ((s.take (q + n)).drop q) = true) :
    Calls Tryd.prog 45 #[.pointer (some ⟨b, 0, none⟩), .int .i64 (p : Nat), .int .i64 (dp : Nat), .int .i64 E] w fun r w' => r = .returned (itemV (some (q + n))) ∧ Did w b s lim (rfoot b vo) { u with out := u.out ++ [⟨s.getD p 0, -1, (s.take (q + n)).drop q⟩] } w' := by
  have hmay := E5.may_of hm
  have hb1 := hmay.2.2.2.2.1
  have hb2 := hmay.2.2.2.2.2.1
  have hp : p ≤ 262144 := by have := hok.pb; omega
  have hsm : s.length ≤ maxLen := by unfold maxLen; omega
  have hol : x.out.length ≤ 1000000 := by have := hok.out; omega
  have hsz : (ByteArray.mk s.toArray).size = s.length := size_S s
  have hwt := want_any b _ p s lim x vo [] w h.rd hsm hb1 hb2 (by unfold maxLen; omega)
  rw [hv] at hwt
  have HW := Px.hid hwt
  have HH := Px.hid h
  have HYO := Px.hid (show y.out = x.out by have := rwant_out s lim x p; rw [hv] at this; exact this)
  have hpl := (rwant_true hv).1
  have ip := idx_S s p hpl
  obtain ⟨t, htt⟩ : ∃ t, t = s.getD p 0 := ⟨_, rfl⟩
  rw [← htt] at ip ht hin hbd ⊢
  have hcb : t.toNat < 256 := UInt8.toNat_lt _
  obtain ⟨oa, oc, hov, _⟩ := h.out.len
  have HOV := Px.hid hov
  have HTT := Px.hid htt
  clear hov hwt htt
  have hid2 : decide (lim.i ≤ (x.out.length : Int)) = false := decide_eq_false (by omega)
  have HT := Px.hid ht
  have HL := Px.hid hl
  have HZO := Px.hid (show z.out = y.out by have := rlength_out s lim y (p + 1); rw [hl] at this; exact this)
  have hbt : ((t.toNat : Int) / 32 % 2 == 1) = false := by
    unfold inner at hin
    rw [beq_eq_false_iff_ne] at hin ⊢
    omega
  have hq1 := hqn.1
  have hn1 := hqn.2.1
  have HA := Px.hid ha
  have HUO := Px.hid (show u.out = z.out by
    by_cases h0 : n = 0
    · rw [if_pos h0] at ha
      simp only [Prod.mk.injEq] at ha
      rw [← ha.2]
    · rw [if_neg h0] at ha
      have := rwant_out s lim z (q + n - 1)
      rw [ha] at this
      exact this)
  have hqs : q + n ≤ s.length := by
    by_cases h0 : n = 0
    · omega
    · rw [if_neg h0] at ha
      have := (rwant_true ha).1
      omega
  obtain ⟨bb, hbb⟩ : ∃ bb, bb = (s.take (q + n)).drop q := ⟨_, rfl⟩
  have hslc := fun w => slice_S s q (q + n) (Nat.le_add_right _ _) hqs w
  rw [show ((q + n : Nat) : Int) = (q : Int) + n by omega] at hslc
  rw [← hbb] at hslc hbd ⊢
  have hbl : bb.length ≤ 140737488355327 := by rw [hbb, List.length_drop, List.length_take]; omega
  have hszb : (ByteArray.mk bb.toArray).size = bb.length := size_S bb
  have hwn : IntKind.i64.wrap ((q : Int) + n) = (q : Int) + n := IntWalk.i64_in _ ⟨by omega, by omega⟩
  have HBD := Px.hid hbd
  have HBL := Px.hid hbl
  clear hbb hbd hqs hbl
  clear hv h hok hi hmay hm ht hin hl hqn ha 
  go_enter Tryd.func45, Tryd.ntmps45
  go_wp2_with fail
  refine HW.out.mono ?_
  rintro r w1 ⟨rfl, hr, hf⟩
  have HR := Px.hid (show RdRep w1 b s lim y vo ∧ Fr (rfoot b vo) w w1 from ⟨HH.out.step hr hf HYO.out, It.foot hf⟩)
  clear hr hf
  have c2 := HR.out.1.rd.cells.2.2.1
  have c5 := HR.out.1.cell5
  rw [HOV.out] at c5
  go_wp2_with fail
  go_quiet (fail)
  obtain ⟨w2, hw2⟩ : ∃ w2, w2 = w1.drewN nq := ⟨_, rfl⟩
  rw [← hw2]
  have HR2 := Px.hid (show RdRep w2 b s lim y vo ∧ Fr (rfoot b vo) w w2 from by rw [hw2]; exact ⟨HR.out.1.drewN nq, HR.out.2.drewN nq⟩)
  clear hw2 c2 c5 HR
  have c0 := HR2.out.1.rd.cells.1
  go_wp2_with fail
  refine (rtag_any t.toNat hcb _).mono ?_
  rintro r w2x ⟨rfl, hw2x⟩
  subst hw2x
  rw [HT.out]
  have c1 := HR2.out.1.rd.cells.2.1
  have hp1 : ((p + 1 : Nat) : Int) = (p : Int) + 1 := by omega
  have hcl := rlength_any b _ (p + 1) s lim y vo [] w2 HR2.out.1.rd hs hb1 hb2 (by omega)
  rw [hp1] at hcl
  have HCL := Px.hid hcl
  clear hcl hp1
  go_wp2_with fail
  refine HCL.out.mono ?_
  intro r w3 hpost
  unfold RLen at hpost
  rw [HL.out] at hpost
  obtain ⟨rfl, hr, hf⟩ := hpost
  have HR3 := Px.hid (show RdRep w3 b s lim z vo ∧ Fr (rfoot b vo) w w3 from ⟨HR2.out.1.step hr hf HZO.out, Fr.trans HR2.out.2 (It.foot hf) (fun _ _ e => e)⟩)
  clear hr hf c0 c1
  unfold lenV
  go_upto_region 15 with fail
  go_cut [83] (fun t83 wx => t83 = .bool false ∧ wx = w3)
  case first =>
    rcases hE with hE | ⟨hE, hE2⟩
    all_goals
      go_wp2_with fail
      go_meet
      first
        | exact ⟨rfl, rfl⟩
        | exact ⟨by rw [decide_eq_false (by omega)], rfl⟩
  case rest =>
    obtain ⟨rfl, hwc⟩ := hcut
    subst hwc
    clear hE
    go_wp2_with fail
    have hall := all_any b _ q n s lim z vo [] wc HR3.out.1.rd hsm hb1 hb2 (by omega) hn1
    rw [HA.out] at hall
    refine hall.mono ?_
    clear hall
    rintro r w4 ⟨rfl, hr, hf⟩
    have HR4 := Px.hid (show RdRep w4 b s lim u vo ∧ Fr (rfoot b vo) w w4 from ⟨HR3.out.1.step hr hf HUO.out, Fr.trans HR3.out.2 (It.foot hf) (fun _ _ e => e)⟩)
    clear hr hf HR3
    have c0 := HR4.out.1.rd.cells.1
    go_wp2_with fail
    refine (rbody_any t.toNat bb HBL.out _).mono ?_
    rintro r w5 ⟨rfl, hs5⟩
    rw [HBD.out]
    have HR5 := Px.hid (show RdRep w5 b s lim u vo ∧ Fr (rfoot b vo) w w5 from ⟨HR4.out.1.same hs5, Fr.trans HR4.out.2 (hs5.fr _) (fun _ _ e => e)⟩)
    clear hs5 HR4 c0
    have c0 := HR5.out.1.rd.cells.1
    have c5 := HR5.out.1.cell5
    have f5 := HR5.out.1.rd.free 5
    have hb : b < w5.heap.size := HR5.out.1.rd.lt
    have hou : u.out.length ≤ 1000000 := by rw [HUO.out, HZO.out, HYO.out]; exact hol
    obtain ⟨i0, hi0, hz0, hz1, hz2⟩ := info_parts Tryd.infoNode
    go_upto_region 22 with fail
    go_cut [] (fun wx => RAfter w5 wx b s lim u ⟨t, -1, bb⟩ vo)
    case first =>
      go_region_law
        ((refine step_append_lies _ (by rfl) _ _ _ (by rfl) 0 63 i0 _ 3 32 Tryd.underlying25 hi0 hz0 hz1 hz2 rfl (by omega) vo u.out.length (u.out.flatMap cNode) (by rfl) ((HR5.out.1.out.alloc _).drew) ⟨w5.heap.size, 0, none⟩ 1 1 (cNode ⟨t, -1, bb⟩) (by rfl) (by rfl) (World.news_of_block (cs := #[.int .u8 t.toNat, .int .i64 (-1), S bb]) (t := 63) (fr := (0, 0)) (heap_alloc_new w5 _)) (by simp [cNode, Value.oneCell']) (by omega) (by unfold maxLen; omega) (by omega) (by simp) (w5.heap.size + 1) (by simp) ?_; intro gg cap w1x hown1 hgrow hat hlt; have k5 := grown_cell hgrow c5 HR5.out.1.ob.ne; have e5 := grown_free hgrow c5 f5 HR5.out.1.ob.ne))
      all_goals (go_wp2_with fail; go_meet; exact HR5.out.1.afterOut hown1 (grown_alloc hgrow) (hat.elim .inl (fun e => .inr (by omega))))
    case rest =>
      obtain ⟨vo', hy, hyf, hyn⟩ := hcut
      have HY := Px.hid (And.intro hy (And.intro hyf hyn))
      clear hy hyf hyn c0 c5 f5
      go_wp2
      go_ret2
      exact ⟨rfl, _, ⟨vo', HY.out.1, rfl⟩, HR5.out.2.step (Fresh.refl _ _) HY.out.2.1, Fresh.trans (Fresh.refl _ _) HR5.out.2.size HY.out.2.2⟩
/-- What inside does, at so many levels within. -/
def InsideC (s : Bytes) (lim : Lim) (d : Nat) : Prop := ∀ (b q e dp : Nat) (t : UInt8) (x : St) (F : Nat → Prop) (w : World), RdAt w b s lim x F → D5.Ok s lim x q → x.frames ≤ dp → ((dp + 1 + d : Nat) : Int) = lim.d → q ≤ e → e ≤ 5000000000 → (x.out.length : Int) < lim.i →
  Calls Tryd.prog 56 #[.pointer (some ⟨b, 0, none⟩), .int .u8 t.toNat, .int .i64 (q : Nat), .int .i64 (e : Nat), .int .i64 (dp : Nat)] w fun r w' => r = .returned (itemV (R5.inside s (fun x p => R5.elem s lim d x p (some e)) x t q e).1) ∧ Did w b s lim F (R5.inside s (fun x p => R5.elem s lim d x p (some e)) x t q e).2 w'
set_option maxRecDepth 100000 in
set_option maxHeartbeats 4000000 in
theorem el_inner (s : Bytes) (lim : Lim) (hs : s.length ≤ 140737488355327) (hm : lim.may = true) (b p dp : Nat) (E : Int) (x : St) (vo : Value) (w : World) (h : RdRep w b s lim x vo) (hok : D5.Ok s lim x p) (y : St) (hv : R5.want s lim x p = (true, y)) (hi : ¬ lim.i ≤ x.out.length) (ht : tagE (s.getD p 0).toNat = 0) (hin : inner (s.getD p 0).toNat = true) (hd : ¬ lim.d ≤ (dp : Int)) (n q : Nat) (z : St) (hl : R5.length s lim y (p + 1) = (some (n, q), z)) (hqn : q ≤ 262144 ∧ n < 4294967296 ∧ q ≤ s.length) (hE : ¬ 0 ≤ E ∨ (0 ≤ E ∧ ¬ E < (q : Int) + n)) (d : Nat) (hI : InsideC s lim d) (hdl : ((dp + 1 + d : Nat) : Int) = lim.d) (hfr : z.frames ≤ dp) (hz : D5.Ok s lim z q) (hzl : (z.out.length : Int) < lim.i) :
    Calls Tryd.prog 45 #[.pointer (some ⟨b, 0, none⟩), .int .i64 (p : Nat), .int .i64 (dp : Nat), .int .i64 E] w fun r w' => r = .returned (itemV (R5.inside s (fun x p => R5.elem s lim d x p (some (q + n))) z (s.getD p 0) q (q + n)).1) ∧ Did w b s lim (rfoot b vo) (R5.inside s (fun x p => R5.elem s lim d x p (some (q + n))) z (s.getD p 0) q (q + n)).2 w' := by
  have hmay := E5.may_of hm
  have hb1 := hmay.2.2.2.2.1
  have hb2 := hmay.2.2.2.2.2.1
  have hp : p ≤ 262144 := by have := hok.pb; omega
  have hsm : s.length ≤ maxLen := by unfold maxLen; omega
  have hol : x.out.length ≤ 1000000 := by have := hok.out; omega
  have hsz : (ByteArray.mk s.toArray).size = s.length := size_S s
  have hwt := want_any b _ p s lim x vo [] w h.rd hsm hb1 hb2 (by unfold maxLen; omega)
  rw [hv] at hwt
  have HW := Px.hid hwt
  have HH := Px.hid h
  have HYO := Px.hid (show y.out = x.out by have := rwant_out s lim x p; rw [hv] at this; exact this)
  have hpl := (rwant_true hv).1
  have ip := idx_S s p hpl
  obtain ⟨t, htt⟩ : ∃ t, t = s.getD p 0 := ⟨_, rfl⟩
  rw [← htt] at ip ht hin ⊢
  have hcb : t.toNat < 256 := UInt8.toNat_lt _
  obtain ⟨oa, oc, hov, _⟩ := h.out.len
  have HOV := Px.hid hov
  have HTT := Px.hid htt
  clear hov hwt htt
  have hid2 : decide (lim.i ≤ (x.out.length : Int)) = false := decide_eq_false (by omega)
  have HT := Px.hid ht
  have HL := Px.hid hl
  have HZO := Px.hid (show z.out = y.out by have := rlength_out s lim y (p + 1); rw [hl] at this; exact this)
  have hbt : ((t.toNat : Int) / 32 % 2 == 1) = true := by
    unfold inner at hin
    rw [beq_iff_eq] at hin ⊢
    omega
  have hdd : decide (lim.d ≤ (dp : Int)) = false := decide_eq_false hd
  clear hd
  have hq1 := hqn.1
  have hn1 := hqn.2.1
  have HIN := Px.hid (And.intro hI (And.intro hdl (And.intro hfr (And.intro hz hzl))))
  have hqn2 : ((q + n : Nat) : Int) = (q : Int) + n := by omega
  have HQN := Px.hid hqn2
  obtain ⟨RES, hRES⟩ : ∃ RES, RES = (R5.inside s (fun x p => R5.elem s lim d x p (some (q + n))) z t q (q + n)) := ⟨_, rfl⟩
  rw [← hRES]
  have HRES := Px.hid hRES
  clear hv h hok hi hmay hm ht hin hl hqn hI hdl hfr hz hzl hqn2 hRES
  go_enter Tryd.func45, Tryd.ntmps45
  go_wp2_with fail
  refine HW.out.mono ?_
  rintro r w1 ⟨rfl, hr, hf⟩
  have HR := Px.hid (show RdRep w1 b s lim y vo ∧ Fr (rfoot b vo) w w1 from ⟨HH.out.step hr hf HYO.out, It.foot hf⟩)
  clear hr hf
  have c2 := HR.out.1.rd.cells.2.2.1
  have c5 := HR.out.1.cell5
  rw [HOV.out] at c5
  go_wp2_with fail
  go_quiet (fail)
  obtain ⟨w2, hw2⟩ : ∃ w2, w2 = w1.drewN nq := ⟨_, rfl⟩
  rw [← hw2]
  have HR2 := Px.hid (show RdRep w2 b s lim y vo ∧ Fr (rfoot b vo) w w2 from by rw [hw2]; exact ⟨HR.out.1.drewN nq, HR.out.2.drewN nq⟩)
  clear hw2 c2 c5 HR
  have c0 := HR2.out.1.rd.cells.1
  go_wp2_with fail
  refine (rtag_any t.toNat hcb _).mono ?_
  rintro r w2x ⟨rfl, hw2x⟩
  subst hw2x
  rw [HT.out]
  have c1 := HR2.out.1.rd.cells.2.1
  have hp1 : ((p + 1 : Nat) : Int) = (p : Int) + 1 := by omega
  have hcl := rlength_any b _ (p + 1) s lim y vo [] w2 HR2.out.1.rd hs hb1 hb2 (by omega)
  rw [hp1] at hcl
  have HCL := Px.hid hcl
  clear hcl hp1
  go_wp2_with fail
  refine HCL.out.mono ?_
  intro r w3 hpost
  unfold RLen at hpost
  rw [HL.out] at hpost
  obtain ⟨rfl, hr, hf⟩ := hpost
  have HR3 := Px.hid (show RdRep w3 b s lim z vo ∧ Fr (rfoot b vo) w w3 from ⟨HR2.out.1.step hr hf HZO.out, Fr.trans HR2.out.2 (It.foot hf) (fun _ _ e => e)⟩)
  clear hr hf c0 c1
  unfold lenV
  go_upto_region 15 with fail
  go_cut [83] (fun t83 wx => t83 = .bool false ∧ wx = w3)
  case first =>
    rcases hE with hE | ⟨hE, hE2⟩
    all_goals
      go_wp2_with fail
      go_meet
      first
        | exact ⟨rfl, rfl⟩
        | exact ⟨by rw [decide_eq_false (by omega)], rfl⟩
  case rest =>
    obtain ⟨rfl, hwc⟩ := hcut
    subst hwc
    clear hE
    have hcall := HIN.out.1 b q (q + n) dp t z (rfoot b vo) wc ⟨vo, HR3.out.1, rfl⟩ HIN.out.2.2.2.1 HIN.out.2.2.1 HIN.out.2.1 (Nat.le_add_right _ _) (by omega) HIN.out.2.2.2.2
    rw [← HRES.out, HQN.out] at hcall
    have HCALL := Px.hid hcall
    clear hcall
    go_wp2_with fail
    refine HCALL.out.mono ?_
    rintro r w4 ⟨rfl, hd4⟩
    have HD := Px.hid (Did.trans HR3.out.2 (Fresh.refl _ _) hd4)
    clear hd4
    cases hres : RES.1 with
    | none =>
      have HE := Px.hid hres
      clear hres
      unfold itemV
      go_wp2
      go_ret2
      rw [HE.out]
      exact ⟨rfl, HD.out⟩
    | some v =>
      have HE := Px.hid hres
      clear hres
      unfold itemV
      go_wp2
      go_ret2
      rw [HE.out]
      exact ⟨rfl, HD.out⟩
end Go.Proofs.YtceffhkgnifmeaaDoor
