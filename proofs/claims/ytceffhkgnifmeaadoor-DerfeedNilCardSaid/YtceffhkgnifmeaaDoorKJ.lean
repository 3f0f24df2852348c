/-
  Several texts in one: The walk over the reference's element (layer 15) behind its head. The walk over the reference's inside; its element, whole (layer 15). The reference's element, whole (layer 15). The walks over the reference's Read and Decode (layer 15).
-/
import Derived.Test.YtceffhkgnifmeaaDoorRfV
import Derived.Test.YtceffhkgnifmeaaDoorKF
/-! The walk over the reference's element (layer 15) behind its head. -/
namespace Go.Proofs.YtceffhkgnifmeaaDoor
open Go.RowKit Go.Px Go.Px.R5

set_option maxRecDepth 100000 in
set_option maxHeartbeats 4000000 in
theorem el_all (s : Bytes) (lim : Lim) (hs : s.length ≤ 140737488355327) (hm : lim.may = true) (b p dp : Nat) (E : Int) (x : St) (vo : Value) (w : World) (h : RdRep w b s lim x vo) (hok : D5.Ok s lim x p) (y : St) (hv : R5.want s lim x p = (true, y)) (hi : ¬ lim.i ≤ x.out.length) (ht : tagE (s.getD p 0).toNat = 0) (hin : inner (s.getD p 0).toNat = false) (n q : Nat) (z : St) (hl : R5.length s lim y (p + 1) = (some (n, q), z)) (hqn : q ≤ 262144 ∧ n < 4294967296 ∧ q ≤ s.length) (hE : ¬ 0 ≤ E ∨ (0 ≤ E ∧ ¬ E < (q : Int) + n)) (u : St) (ha : (if n = 0 then (true, z) else R5.want s lim z (q + n - 1)) = (false, u)) :
    Calls Tryd.prog 45 #[.pointer (some ⟨b, 0, none⟩), .int .i64 (p : Nat), .int .i64 (dp : Nat), .int .i64 E] w fun r w' => r = .returned (itemV none) ∧ Did w b s lim (rfoot b vo) u w' := by
  have hmay := E5.may_of hm
  have hb1 := hmay.2.2.2.2.1
  have hb2 := hmay.2.2.2.2.2.1
  have hp : p ≤ 262144 := by have := hok.pb; omega
  have hsm : s.length ≤ maxLen := by unfold maxLen; omega
  have hol : x.out.length ≤ 1000000 := by have := hok.out; omega
  have hsz : (ByteArray.mk s.toArray).size = s.length := size_S s
  have hwt := want_any b _ p s lim x vo [] w h.rd hsm hb1 hb2 (by unfold maxLen; omega)
  rw [hv] at hwt
  have HW := Px.hid hwt
  have HH := Px.hid h
  have HYO := Px.hid (show y.out = x.out by have := rwant_out s lim x p; rw [hv] at this; exact this)
  have hpl := (rwant_true hv).1
  have ip := idx_S s p hpl
  obtain ⟨t, htt⟩ : ∃ t, t = s.getD p 0 := ⟨_, rfl⟩
  rw [← htt] at ip ht hin
  have hcb : t.toNat < 256 := UInt8.toNat_lt _
  obtain ⟨oa, oc, hov, _⟩ := h.out.len
  have HOV := Px.hid hov
  have HTT := Px.hid htt
  clear hov hwt htt
  have hid2 : decide (lim.i ≤ (x.out.length : Int)) = false := decide_eq_false (by omega)
  have HT := Px.hid ht
  have HL := Px.hid hl
  have HZO := Px.hid (show z.out = y.out by have := rlength_out s lim y (p + 1); rw [hl] at this; exact this)
  have hbt : ((t.toNat : Int) / 32 % 2 == 1) = false := by
    unfold inner at hin
    rw [beq_eq_false_iff_ne] at hin ⊢
    omega
  have hq1 := hqn.1
  have hn1 := hqn.2.1
  have HA := Px.hid ha
  have HUO := Px.hid (show u.out = z.out by
    by_cases h0 : n = 0
    · rw [if_pos h0] at ha
      simp only [Prod.mk.injEq] at ha
      rw [← ha.2]
    · rw [if_neg h0] at ha
      have := rwant_out s lim z (q + n - 1)
      rw [ha] at this
      exact this)
  clear hv h hok hi hmay hm ht hin hl hqn ha
  go_enter Tryd.func45, Tryd.ntmps45
  go_wp2_with fail
  refine HW.out.mono ?_
  rintro r w1 ⟨rfl, hr, hf⟩
  have HR := Px.hid (show RdRep w1 b s lim y vo ∧ Fr (rfoot b vo) w w1 from ⟨HH.out.step hr hf HYO.out, It.foot hf⟩)
  clear hr hf
  have c2 := HR.out.1.rd.cells.2.2.1
  have c5 := HR.out.1.cell5
  rw [HOV.out] at c5
  go_wp2_with fail
  go_quiet (fail)
  obtain ⟨w2, hw2⟩ : ∃ w2, w2 = w1.drewN nq := ⟨_, rfl⟩
  rw [← hw2]
  have HR2 := Px.hid (show RdRep w2 b s lim y vo ∧ Fr (rfoot b vo) w w2 from by rw [hw2]; exact ⟨HR.out.1.drewN nq, HR.out.2.drewN nq⟩)
  clear hw2 c2 c5 HR
  have c0 := HR2.out.1.rd.cells.1
  go_wp2_with fail
  refine (rtag_any t.toNat hcb _).mono ?_
  rintro r w2x ⟨rfl, hw2x⟩
  subst hw2x
  rw [HT.out]
  have c1 := HR2.out.1.rd.cells.2.1
  have hp1 : ((p + 1 : Nat) : Int) = (p : Int) + 1 := by omega
  have hcl := rlength_any b _ (p + 1) s lim y vo [] w2 HR2.out.1.rd hs hb1 hb2 (by omega)
  rw [hp1] at hcl
  have HCL := Px.hid hcl
  clear hcl hp1
  go_wp2_with fail
  refine HCL.out.mono ?_
  intro r w3 hpost
  unfold RLen at hpost
  rw [HL.out] at hpost
  obtain ⟨rfl, hr, hf⟩ := hpost
  have HR3 := Px.hid (show RdRep w3 b s lim z vo ∧ Fr (rfoot b vo) w w3 from ⟨HR2.out.1.step hr hf HZO.out, Fr.trans HR2.out.2 (It.foot hf) (fun _ _ e => e)⟩)
  clear hr hf c0 c1
  unfold lenV
  go_upto_region 15 with fail
  go_cut [83] (fun t83 wx => t83 = .bool false ∧ wx = w3)
  case first =>
    rcases hE with hE | ⟨hE, hE2⟩
    all_goals
      go_wp2_with fail
      go_meet
      first
        | exact ⟨rfl, rfl⟩
        | exact ⟨by rw [decide_eq_false (by omega)], rfl⟩
  case rest =>
    obtain ⟨rfl, hwc⟩ := hcut
    subst hwc
    clear hE
    go_wp2_with fail
    have hall := all_any b _ q n s lim z vo [] wc HR3.out.1.rd hsm hb1 hb2 (by omega) hn1
    rw [HA.out] at hall
    refine hall.mono ?_
    clear hall
    rintro r w4 ⟨rfl, hr, hf⟩
    have HR4 := Px.hid (show RdRep w4 b s lim u vo ∧ Fr (rfoot b vo) w w4 from ⟨HR3.out.1.step hr hf HUO.out, Fr.trans HR3.out.2 (It.foot hf) (fun _ _ e => e)⟩)
    clear hr hf HR3
    go_wp2
    go_ret2
    exact ⟨rfl, _, ⟨vo, HR4.out.1, rfl⟩, HR4.out.2, Fresh.refl _ _⟩
set_option maxRecDepth 100000 in
set_option maxHeartbeats 4000000 in
theorem el_body (s : Bytes) (lim : Lim) (hs : s.length ≤ 140737488355327) (hm : lim.may = true) (b p dp : Nat) (E : Int) (x : St) (vo : Value) (w : World) (h : RdRep w b s lim x vo) (hok : D5.Ok s lim x p) (y : St) (hv : R5.want s lim x p = (true, y)) (hi : ¬ lim.i ≤ x.out.length) (ht : tagE (s.getD p 0).toNat = 0) (hin : inner (s.getD p 0).toNat = false) (n q : Nat) (z : St) (hl : R5.length s lim y (p + 1) = (some (n, q), z)) (hqn : q ≤ 262144 ∧ n < 4294967296 ∧ q ≤ s.length) (hE : ¬ 0 ≤ E ∨ (0 ≤ E ∧ ¬ E < (q : Int) + n)) (u : St) (ha : (if n = 0 then (true, z) else R5.want s lim z (q + n - 1)) = (true, u)) (hbd : R5.body (s.getD p 0).toNat ((s.take (q + n)).drop q) = false) :
    Calls Tryd.prog 45 #[.pointer (some ⟨b, 0, none⟩), .int .i64 (p : Nat), .int .i64 (dp : Nat), .int .i64 E] w fun r w' => r = .returned (itemV none) ∧ Did w b s lim (rfoot b vo) (fault u p 9) w' := by
  have hmay := E5.may_of hm
  have hb1 := hmay.2.2.2.2.1
  have hb2 := hmay.2.2.2.2.2.1
  have hp : p ≤ 262144 := by have := hok.pb; omega
  have hsm : s.length ≤ maxLen := by unfold maxLen; omega
  have hol : x.out.length ≤ 1000000 := by have := hok.out; omega
  have hsz : (ByteArray.mk s.toArray).size = s.length := size_S s
  have hwt := want_any b _ p s lim x vo [] w h.rd hsm hb1 hb2 (by unfold maxLen; omega)
  rw [hv] at hwt
  have HW := Px.hid hwt
  have HH := Px.hid h
  have HYO := Px.hid (show y.out = x.out by have := rwant_out s lim x p; rw [hv] at this; exact this)
  have hpl := (rwant_true hv).1
  have ip := idx_S s p hpl
  obtain ⟨t, htt⟩ : ∃ t, t = s.getD p 0 := ⟨_, rfl⟩
  rw [← htt] at ip ht hin hbd
  have hcb : t.toNat < 256 := UInt8.toNat_lt _
  obtain ⟨oa, oc, hov, _⟩ := h.out.len
  have HOV := Px.hid hov
  have HTT := Px.hid htt
  clear hov hwt htt
  have hid2 : decide (lim.i ≤ (x.out.length : Int)) = false := decide_eq_false (by omega)
  have HT := Px.hid ht
  have HL := Px.hid hl
  have HZO := Px.hid (show z.out = y.out by have := rlength_out s lim y (p + 1); rw [hl] at this; exact this)
  have hbt : ((t.toNat : Int) / 32 % 2 == 1) = false := by
    unfold inner at hin
    rw [beq_eq_false_iff_ne] at hin ⊢
    omega
  have hq1 := hqn.1
  have hn1 := hqn.2.1
  have HA := Px.hid ha
  have HUO := Px.hid (show u.out = z.out by
    by_cases h0 : n = 0
    · rw [if_pos h0] at ha
      simp only [Prod.mk.injEq] at ha
      rw [← ha.2]
    · rw [if_neg h0] at ha
      have := rwant_out s lim z (q + n - 1)
      rw [ha] at this
      exact this)
  have hqs : q + n ≤ s.length := by
    by_cases h0 : n = 0
    · omega
    · rw [if_neg h0] at ha
      have := (rwant_true ha).1
      omega
  obtain ⟨bb, hbb⟩ : ∃ bb, bb = (s.take (q + n)).drop q := ⟨_, rfl⟩
  have hslc := fun w => slice_S s q (q + n) (Nat.le_add_right _ _) hqs w
  rw [show ((q + n : Nat) : Int) = (q : Int) + n by omega] at hslc
  rw [← hbb] at hslc hbd
  have hbl : bb.length ≤ 140737488355327 := by rw [hbb, List.length_drop, List.length_take]; omega
  have hszb : (ByteArray.mk bb.toArray).size = bb.length := size_S bb
  have hwn : IntKind.i64.wrap ((q : Int) + n) = (q : Int) + n := IntWalk.i64_in _ ⟨by omega, by omega⟩
  have HBD := Px.hid hbd
  have HBL := Px.hid hbl
  clear hbb hbd hqs hbl
  clear hv h hok hi hmay hm ht hin hl hqn ha 
  go_enter Tryd.func45, Tryd.ntmps45
  go_wp2_with fail
  refine HW.out.mono ?_
  rintro r w1 ⟨rfl, hr, hf⟩
  have HR := Px.hid (show RdRep w1 b s lim y vo ∧ Fr (rfoot b vo) w w1 from ⟨HH.out.step hr hf HYO.out, It.foot hf⟩)
  clear hr hf
  have c2 := HR.out.1.rd.cells.2.2.1
  have c5 := HR.out.1.cell5
  rw [HOV.out] at c5
  go_wp2_with fail
  go_quiet (fail)
  obtain ⟨w2, hw2⟩ : ∃ w2, w2 = w1.drewN nq := ⟨_, rfl⟩
  rw [← hw2]
  have HR2 := Px.hid (show RdRep w2 b s lim y vo ∧ Fr (rfoot b vo) w w2 from by rw [hw2]; exact ⟨HR.out.1.drewN nq, HR.out.2.drewN nq⟩)
  clear hw2 c2 c5 HR
  have c0 := HR2.out.1.rd.cells.1
  go_wp2_with fail
  refine (rtag_any t.toNat hcb _).mono ?_
  rintro r w2x ⟨rfl, hw2x⟩
  subst hw2x
  rw [HT.out]
  have c1 := HR2.out.1.rd.cells.2.1
  have hp1 : ((p + 1 : Nat) : Int) = (p : Int) + 1 := by omega
  have hcl := rlength_any b _ (p + 1) s lim y vo [] w2 HR2.out.1.rd hs hb1 hb2 (by omega)
  rw [hp1] at hcl
  have HCL := Px.hid hcl
  clear hcl hp1
  go_wp2_with fail
  refine HCL.out.mono ?_
  intro r w3 hpost
  unfold RLen at hpost
  rw [HL.out] at hpost
  obtain ⟨rfl, hr, hf⟩ := hpost
  have HR3 := Px.hid (show RdRep w3 b s lim z vo ∧ Fr (rfoot b vo) w w3 from ⟨HR2.out.1.step hr hf HZO.out, Fr.trans HR2.out.2 (It.foot hf) (fun _ _ e => e)⟩)
  clear hr hf c0 c1
  unfold lenV
  go_upto_region 15 with fail
  go_cut [83] (fun t83 wx => t83 = .bool false ∧ wx = w3)
  case first =>
    rcases hE with hE | ⟨hE, hE2⟩
    all_goals
      go_wp2_with fail
      go_meet
      first
        | exact ⟨rfl, rfl⟩
        | exact ⟨by rw [decide_eq_false (by omega)], rfl⟩
  case rest =>
    obtain ⟨rfl, hwc⟩ := hcut
    subst hwc
    clear hE
    go_wp2_with fail
    have hall := all_any b _ q n s lim z vo [] wc HR3.out.1.rd hsm hb1 hb2 (by omega) hn1
    rw [HA.out] at hall
    refine hall.mono ?_
    clear hall
    rintro r w4 ⟨rfl, hr, hf⟩
    have HR4 := Px.hid (show RdRep w4 b s lim u vo ∧ Fr (rfoot b vo) w w4 from ⟨HR3.out.1.step hr hf HUO.out, Fr.trans HR3.out.2 (It.foot hf) (fun _ _ e => e)⟩)
    clear hr hf HR3
    have c0 := HR4.out.1.rd.cells.1
    go_wp2_with fail
    refine (rbody_any t.toNat bb HBL.out _).mono ?_
    rintro r w5 ⟨rfl, hs5⟩
    rw [HBD.out]
    have HR5 := Px.hid (show RdRep w5 b s lim u vo ∧ Fr (rfoot b vo) w w5 from ⟨HR4.out.1.same hs5, Fr.trans HR4.out.2 (hs5.fr _) (fun _ _ e => e)⟩)
    clear hs5 HR4 c0
    go_wp2_with fail
    refine (rfault_any b _ p 9 s lim u vo [] _ HR5.out.1.rd).mono ?_
    rintro r wf ⟨rfl, hr, hf⟩
    have HF := Px.hid (show RdRep wf b s lim (fault u p 9) vo ∧ Fr (rfoot b vo) w wf from ⟨HR5.out.1.step hr hf rfl, Fr.trans HR5.out.2 (It.foot hf) (fun _ _ e => e)⟩)
    clear hr hf
    go_wp2
    go_ret2
    exact ⟨rfl, _, ⟨vo, HF.out.1, rfl⟩, HF.out.2, Fresh.refl _ _⟩
set_option maxRecDepth 100000 in
set_option maxHeartbeats 4000000 in
theorem el_leaf (s : Bytes) (lim : Lim) (hs : s.length ≤ 140737488355327) (hm : lim.may = true) (b p dp : Nat) (E : Int) (x : St) (vo : Value) (w : World) (h : RdRep w b s lim x vo) (hok : D5.Ok s lim x p) (y : St) (hv : R5.want s lim x p = (true, y)) (hi : ¬ lim.i ≤ x.out.length) (ht : tagE (s.getD p 0).toNat = 0) (hin : inner (s.getD p 0).toNat = false) (n q : Nat) (z : St) (hl : R5.length s lim y (p + 1) = (some (n, q), z)) (hqn : q ≤ 262144 ∧ n < 4294967296 ∧ q ≤ s.length) (hE : ¬ 0 ≤ E ∨ (0 ≤ E ∧ ¬ E < (q : Int) + n)) (u : St) (ha : (if n = 0 then (true, z) else R5.want s lim z (q + n - 1)) = (true, u)) (hbd : R5.body (s.getD p 0).toNat ((s.take (q + n)).drop q) = true) :
    Calls Tryd.prog 45 #[.pointer (some ⟨b, 0, none⟩), .int .i64 (p : Nat), .int .i64 (dp : Nat), .int .i64 E] w fun r w' => r = .returned (itemV (some (q + n))) ∧ Did w b s lim (rfoot b vo) { u with out := u.out ++ [⟨s.getD p 0, -1, (s.take (q + n)).drop q⟩] } w' := by
  have hmay := E5.may_of hm
  have hb1 := hmay.2.2.2.2.1
  have hb2 := hmay.2.2.2.2.2.1
  have hp : p ≤ 262144 := by have := hok.pb; omega
  have hsm : s.length ≤ maxLen := by unfold maxLen; omega
  have hol : x.out.length ≤ 1000000 := by have := hok.out; omega
  have hsz : (ByteArray.mk s.toArray).size = s.length := size_S s
  have hwt := want_any b _ p s lim x vo [] w h.rd hsm hb1 hb2 (by unfold maxLen; omega)
  rw [hv] at hwt
  have HW := Px.hid hwt
  have HH := Px.hid h
  have HYO := Px.hid (show y.out = x.out by have := rwant_out s lim x p; rw [hv] at this; exact this)
  have hpl := (rwant_true hv).1
  have ip := idx_S s p hpl
  obtain ⟨t, htt⟩ : ∃ t, t = s.getD p 0 := ⟨_, rfl⟩
  rw [← htt] at ip ht hin hbd ⊢
  have hcb : t.toNat < 256 := UInt8.toNat_lt _
  obtain ⟨oa, oc, hov, _⟩ := h.out.len
  have HOV := Px.hid hov
  have HTT := Px.hid htt
  clear hov hwt htt
  have hid2 : decide (lim.i ≤ (x.out.length : Int)) = false := decide_eq_false (by omega)
  have HT := Px.hid ht
  have HL := Px.hid hl
  have HZO := Px.hid (show z.out = y.out by have := rlength_out s lim y (p + 1); rw [hl] at this; exact this)
  have hbt : ((t.toNat : Int) / 32 % 2 == 1) = false := by
    unfold inner at hin
    rw [beq_eq_false_iff_ne] at hin ⊢
    omega
  have hq1 := hqn.1
  have hn1 := hqn.2.1
  have HA := Px.hid ha
  have HUO := Px.hid (show u.out = z.out by
    by_cases h0 : n = 0
    · rw [if_pos h0] at ha
      simp only [Prod.mk.injEq] at ha
      rw [← ha.2]
    · rw [if_neg h0] at ha
      have := rwant_out s lim z (q + n - 1)
      rw [ha] at this
      exact this)
  have hqs : q + n ≤ s.length := by
    by_cases h0 : n = 0
    · omega
    · rw [if_neg h0] at ha
      have := (rwant_true ha).1
      omega
  obtain ⟨bb, hbb⟩ : ∃ bb, bb = (s.take (q + n)).drop q := ⟨_, rfl⟩
  have hslc := fun w => slice_S s q (q + n) (Nat.le_add_right _ _) hqs w
  rw [show ((q + n : Nat) : Int) = (q : Int) + n by omega] at hslc
  rw [← hbb] at hslc hbd ⊢
  have hbl : bb.length ≤ 140737488355327 := by rw [hbb, List.length_drop, List.length_take]; omega
  have hszb : (ByteArray.mk bb.toArray).size = bb.length := size_S bb
  have hwn : IntKind.i64.wrap ((q : Int) + n) = (q : Int) + n := IntWalk.i64_in _ ⟨by omega, by omega⟩
  have HBD := Px.hid hbd
  have HBL := Px.hid hbl
  clear hbb hbd hqs hbl
  clear hv h hok hi hmay hm ht hin hl hqn ha 
  go_enter Tryd.func45, Tryd.ntmps45
  go_wp2_with fail
  refine HW.out.mono ?_
  rintro r w1 ⟨rfl, hr, hf⟩
  have HR := Px.hid (show RdRep w1 b s lim y vo ∧ Fr (rfoot b vo) w w1 from ⟨HH.out.step hr hf HYO.out, It.foot hf⟩)
  clear hr hf
  have c2 := HR.out.1.rd.cells.2.2.1
  have c5 := HR.out.1.cell5
  rw [HOV.out] at c5
  go_wp2_with fail
  go_quiet (fail)
  obtain ⟨w2, hw2⟩ : ∃ w2, w2 = w1.drewN nq := ⟨_, rfl⟩
  rw [← hw2]
  have HR2 := Px.hid (show RdRep w2 b s lim y vo ∧ Fr (rfoot b vo) w w2 from by rw [hw2]; exact ⟨HR.out.1.drewN nq, HR.out.2.drewN nq⟩)
  clear hw2 c2 c5 HR
  have c0 := HR2.out.1.rd.cells.1
  go_wp2_with fail
  refine (rtag_any t.toNat hcb _).mono ?_
  rintro r w2x ⟨rfl, hw2x⟩
  subst hw2x
  rw [HT.out]
  have c1 := HR2.out.1.rd.cells.2.1
  have hp1 : ((p + 1 : Nat) : Int) = (p : Int) + 1 := by omega
  have hcl := rlength_any b _ (p + 1) s lim y vo [] w2 HR2.out.1.rd hs hb1 hb2 (by omega)
  rw [hp1] at hcl
  have HCL := Px.hid hcl
  clear hcl hp1
  go_wp2_with fail
  refine HCL.out.mono ?_
  intro r w3 hpost
  unfold RLen at hpost
  rw [HL.out] at hpost
  obtain ⟨rfl, hr, hf⟩ := hpost
  have HR3 := Px.hid (show RdRep w3 b s lim z vo ∧ Fr (rfoot b vo) w w3 from ⟨HR2.out.1.step hr hf HZO.out, Fr.trans HR2.out.2 (It.foot hf) (fun _ _ e => e)⟩)
  clear hr hf c0 c1
  unfold lenV
  go_upto_region 15 with fail
  go_cut [83] (fun t83 wx => t83 = .bool false ∧ wx = w3)
  case first =>
    rcases hE with hE | ⟨hE, hE2⟩
    all_goals
      go_wp2_with fail
      go_meet
      first
        | exact ⟨rfl, rfl⟩
        | exact ⟨by rw [decide_eq_false (by omega)], rfl⟩
  case rest =>
    obtain ⟨rfl, hwc⟩ := hcut
    subst hwc
    clear hE
    go_wp2_with fail
    have hall := all_any b _ q n s lim z vo [] wc HR3.out.1.rd hsm hb1 hb2 (by omega) hn1
    rw [HA.out] at hall
    refine hall.mono ?_
    clear hall
    rintro r w4 ⟨rfl, hr, hf⟩
    have HR4 := Px.hid (show RdRep w4 b s lim u vo ∧ Fr (rfoot b vo) w w4 from ⟨HR3.out.1.step hr hf HUO.out, Fr.trans HR3.out.2 (It.foot hf) (fun _ _ e => e)⟩)
    clear hr hf HR3
    have c0 := HR4.out.1.rd.cells.1
    go_wp2_with fail
    refine (rbody_any t.toNat bb HBL.out _).mono ?_
    rintro r w5 ⟨rfl, hs5⟩
    rw [HBD.out]
    have HR5 := Px.hid (show RdRep w5 b s lim u vo ∧ Fr (rfoot b vo) w w5 from ⟨HR4.out.1.same hs5, Fr.trans HR4.out.2 (hs5.fr _) (fun _ _ e => e)⟩)
    clear hs5 HR4 c0
    have c0 := HR5.out.1.rd.cells.1
    have c5 := HR5.out.1.cell5
    have f5 := HR5.out.1.rd.free 5
    have hb : b < w5.heap.size := HR5.out.1.rd.lt
    have hou : u.out.length ≤ 1000000 := by rw [HUO.out, HZO.out, HYO.out]; exact hol
    obtain ⟨i0, hi0, hz0, hz1, hz2⟩ := info_parts Tryd.infoNode
    go_upto_region 22 with fail
    go_cut [] (fun wx => RAfter w5 wx b s lim u ⟨t, -1, bb⟩ vo)
    case first =>
      go_region_law
        ((refine step_append_lies _ (by rfl) _ _ _ (by rfl) 0 63 i0 _ 3 32 Tryd.underlying25 hi0 hz0 hz1 hz2 rfl (by omega) vo u.out.length (u.out.flatMap cNode) (by rfl) ((HR5.out.1.out.alloc _).drew) ⟨w5.heap.size, 0, none⟩ 1 1 (cNode ⟨t, -1, bb⟩) (by rfl) (by rfl) (World.news_of_block (cs := #[.int .u8 t.toNat, .int .i64 (-1), S bb]) (t := 63) (fr := (0, 0)) (heap_alloc_new w5 _)) (by simp [cNode, Value.oneCell']) (by omega) (by unfold maxLen; omega) (by omega) (by simp) (w5.heap.size + 1) (by simp) ?_; intro gg cap w1x hown1 hgrow hat hlt; have k5 := grown_cell hgrow c5 HR5.out.1.ob.ne; have e5 := grown_free hgrow c5 f5 HR5.out.1.ob.ne))
      all_goals (go_wp2_with fail; go_meet; exact HR5.out.1.afterOut hown1 (grown_alloc hgrow) (hat.elim .inl (fun e => .inr (by omega))))
    case rest =>
      obtain ⟨vo', hy, hyf, hyn⟩ := hcut
      have HY := Px.hid (And.intro hy (And.intro hyf hyn))
      clear hy hyf hyn c0 c5 f5
      go_wp2
      go_ret2
      exact ⟨rfl, _, ⟨vo', HY.out.1, rfl⟩, HR5.out.2.step (Fresh.refl _ _) HY.out.2.1, Fresh.trans (Fresh.refl _ _) HR5.out.2.size HY.out.2.2⟩
/-- What inside does, at so many levels within. -/
def InsideC (s : Bytes) (lim : Lim) (d : Nat) : Prop := ∀ (b q e dp : Nat) (t : UInt8) (x : St) (F : Nat → Prop) (w : World), RdAt w b s lim x F → D5.Ok s lim x q → x.frames ≤ dp → ((dp + 1 + d : Nat) : Int) = lim.d → q ≤ e → e ≤ 5000000000 → (x.out.length : Int) < lim.i →
  Calls Tryd.prog 56 #[.pointer (some ⟨b, 0, none⟩), .int .u8 t.toNat, .int .i64 (q : Nat), .int .i64 (e : Nat), .int .i64 (dp : Nat)] w fun r w' => r = .returned (itemV (R5.inside s (fun x p => R5.elem s lim d x p (some e)) x t q e).1) ∧ Did w b s lim F (R5.inside s (fun x p => R5.elem s lim d x p (some e)) x t q e).2 w'
set_option maxRecDepth 100000 in
set_option maxHeartbeats 4000000 in
theorem el_inner (s : Bytes) (lim : Lim) (hs : s.length ≤ 140737488355327) (hm : lim.may = true) (b p dp : Nat) (E : Int) (x : St) (vo : Value) (w : World) (h : RdRep w b s lim x vo) (hok : D5.Ok s lim x p) (y : St) (hv : R5.want s lim x p = (true, y)) (hi : ¬ lim.i ≤ x.out.length) (ht : tagE (s.getD p 0).toNat = 0) (hin : inner (s.getD p 0).toNat = true) (hd : ¬ lim.d ≤ (dp : Int)) (n q : Nat) (z : St) (hl : R5.length s lim y (p + 1) = (some (n, q), z)) (hqn : q ≤ 262144 ∧ n < 4294967296 ∧ q ≤ s.length) (hE : ¬ 0 ≤ E ∨ (0 ≤ E ∧ ¬ E < (q : Int) + n)) (d : Nat) (hI : InsideC s lim d) (hdl : ((dp + 1 + d : Nat) : Int) = lim.d) (hfr : z.frames ≤ dp) (hz : D5.Ok s lim z q) (hzl : (z.out.length : Int) < lim.i) :
    Calls Tryd.prog 45 #[.pointer (some ⟨b, 0, none⟩), .int .i64 (p : Nat), .int .i64 (dp : Nat), .int .i64 E] w fun r w' => r = .returned (itemV (R5.inside s (fun x p => R5.elem s lim d x p (some (q + n))) z (s.getD p 0) q (q + n)).1) ∧ Did w b s lim (rfoot b vo) (R5.inside s (fun x p => R5.elem s lim d x p (some (q + n))) z (s.getD p 0) q (q + n)).2 w' := by
  have hmay := E5.may_of hm
  have hb1 := hmay.2.2.2.2.1
  have hb2 := hmay.2.2.2.2.2.1
  have hp : p ≤ 262144 := by have := hok.pb; omega
  have hsm : s.length ≤ maxLen := by unfold maxLen; omega
  have hol : x.out.length ≤ 1000000 := by have := hok.out; omega
  have hsz : (ByteArray.mk s.toArray).size = s.length := size_S s
  have hwt := want_any b _ p s lim x vo [] w h.rd hsm hb1 hb2 (by unfold maxLen; omega)
  rw [hv] at hwt
  have HW := Px.hid hwt
  have HH := Px.hid h
  have HYO := Px.hid (show y.out = x.out by have := rwant_out s lim x p; rw [hv] at this; exact this)
  have hpl := (rwant_true hv).1
  have ip := idx_S s p hpl
  obtain ⟨t, htt⟩ : ∃ t, t = s.getD p 0 := ⟨_, rfl⟩
  rw [← htt] at ip ht hin ⊢
  have hcb : t.toNat < 256 := UInt8.toNat_lt _
  obtain ⟨oa, oc, hov, _⟩ := h.out.len
  have HOV := Px.hid hov
  have HTT := Px.hid htt
  clear hov hwt htt
  have hid2 : decide (lim.i ≤ (x.out.length : Int)) = false := decide_eq_false (by omega)
  have HT := Px.hid ht
  have HL := Px.hid hl
  have HZO := Px.hid (show z.out = y.out by have := rlength_out s lim y (p + 1); rw [hl] at this; exact this)
  have hbt : ((t.toNat : Int) / 32 % 2 == 1) = true := by
    unfold inner at hin
    rw [beq_iff_eq] at hin ⊢
    omega
  have hdd : decide (lim.d ≤ (dp : Int)) = false := decide_eq_false hd
  clear hd
  have hq1 := hqn.1
  have hn1 := hqn.2.1
  have HIN := Px.hid (And.intro hI (And.intro hdl (And.intro hfr (And.intro hz hzl))))
  have hqn2 : ((q + n : Nat) : Int) = (q : Int) + n := by omega
  have HQN := Px.hid hqn2
  obtain ⟨RES, hRES⟩ : ∃ RES, RES = (R5.inside s (fun x p => R5.elem s lim d x p (some (q + n))) z t q (q + n)) := ⟨_, rfl⟩
  rw [← hRES]
  have HRES := Px.hid hRES
  clear hv h hok hi hmay hm ht hin hl hqn hI hdl hfr hz hzl hqn2 hRES
  go_enter Tryd.func45, Tryd.ntmps45
  go_wp2_with fail
  refine HW.out.mono ?_
  rintro r w1 ⟨rfl, hr, hf⟩
  have HR := Px.hid (show RdRep w1 b s lim y vo ∧ Fr (rfoot b vo) w w1 from ⟨HH.out.step hr hf HYO.out, It.foot hf⟩)
  clear hr hf
  have c2 := HR.out.1.rd.cells.2.2.1
  have c5 := HR.out.1.cell5
  rw [HOV.out] at c5
  go_wp2_with fail
  go_quiet (fail)
  obtain ⟨w2, hw2⟩ : ∃ w2, w2 = w1.drewN nq := ⟨_, rfl⟩
  rw [← hw2]
  have HR2 := Px.hid (show RdRep w2 b s lim y vo ∧ Fr (rfoot b vo) w w2 from by rw [hw2]; exact ⟨HR.out.1.drewN nq, HR.out.2.drewN nq⟩)
  clear hw2 c2 c5 HR
  have c0 := HR2.out.1.rd.cells.1
  go_wp2_with fail
  refine (rtag_any t.toNat hcb _).mono ?_
  rintro r w2x ⟨rfl, hw2x⟩
  subst hw2x
  rw [HT.out]
  have c1 := HR2.out.1.rd.cells.2.1
  have hp1 : ((p + 1 : Nat) : Int) = (p : Int) + 1 := by omega
  have hcl := rlength_any b _ (p + 1) s lim y vo [] w2 HR2.out.1.rd hs hb1 hb2 (by omega)
  rw [hp1] at hcl
  have HCL := Px.hid hcl
  clear hcl hp1
  go_wp2_with fail
  refine HCL.out.mono ?_
  intro r w3 hpost
  unfold RLen at hpost
  rw [HL.out] at hpost
  obtain ⟨rfl, hr, hf⟩ := hpost
  have HR3 := Px.hid (show RdRep w3 b s lim z vo ∧ Fr (rfoot b vo) w w3 from ⟨HR2.out.1.step hr hf HZO.out, Fr.trans HR2.out.2 (It.foot hf) (fun _ _ e => e)⟩)
  clear hr hf c0 c1
  unfold lenV
  go_upto_region 15 with fail
  go_cut [83] (fun t83 wx => t83 = .bool false ∧ wx = w3)
  case first =>
    rcases hE with hE | ⟨hE, hE2⟩
    all_goals
      go_wp2_with fail
      go_meet
      first
        | exact ⟨rfl, rfl⟩
        | exact ⟨by rw [decide_eq_false (by omega)], rfl⟩
  case rest =>
    obtain ⟨rfl, hwc⟩ := hcut
    subst hwc
    clear hE
    have hcall := HIN.out.1 b q (q + n) dp t z (rfoot b vo) wc ⟨vo, HR3.out.1, rfl⟩ HIN.out.2.2.2.1 HIN.out.2.2.1 HIN.out.2.1 (Nat.le_add_right _ _) (by omega) HIN.out.2.2.2.2
    rw [← HRES.out, HQN.out] at hcall
    have HCALL := Px.hid hcall
    clear hcall
    go_wp2_with fail
    refine HCALL.out.mono ?_
    rintro r w4 ⟨rfl, hd4⟩
    have HD := Px.hid (Did.trans HR3.out.2 (Fresh.refl _ _) hd4)
    clear hd4
    cases hres : RES.1 with
    | none =>
      have HE := Px.hid hres
      clear hres
      unfold itemV
      go_wp2
      go_ret2
      rw [HE.out]
      exact ⟨rfl, HD.out⟩
    | some v =>
      have HE := Px.hid hres
      clear hres
      unfold itemV
      go_wp2
      go_ret2
      rw [HE.out]
      exact ⟨rfl, HD.out⟩
end Go.Proofs.YtceffhkgnifmeaaDoor

/-! The walk over the reference's inside; its element, whole (layer 15). -/
namespace Go.Proofs.YtceffhkgnifmeaaDoor
open Go.RowKit Go.Px Go.Px.R5

theorem bump_mid (u : List Px.Node) (t : UInt8) (i : Int) (l : List Px.Node) : R5.bump (u ++ ⟨t, i, []⟩ :: l) u.length = u ++ ⟨t, i + 1, []⟩ :: l := by
  have h1 := D5.bump_app (u ++ [⟨t, i, []⟩]) l u.length (by simp)
  rw [List.append_assoc] at h1
  have h2 := E5.bump_last u ⟨t, i, []⟩
  rw [h2, List.append_assoc] at h1
  exact h1
/-- How far the elements of one have come. -/
structure Ins (s : Bytes) (lim : Lim) (d e : Nat) (t : UInt8) (x x1 : St) (at0 : Nat) (b : Nat) (F : Nat → Prop) (w wr : World) (k : Nat) (last : Bytes) (m : Nat) (z : St) (i : Int) (l : List Px.Node) (F1 : Nat → Prop) : Prop where
  at_ : RdAt wr b s lim z F1
  fr : Fr F w wr
  fresh : Fresh w F F1
  ok : D5.Ok s lim z k
  frames : z.frames = x.frames + 1
  out : z.out = x.out ++ ⟨t, i, []⟩ :: l
  i0 : 0 ≤ i
  ik : i ≤ k
  le : k ≤ e
  fuel : e - k ≤ m
  run : R5.insideN s (fun x p => R5.elem s lim d x p (some e)) t.toNat x.out.length e (e - at0) x1 at0 [] = R5.insideN s (fun x p => R5.elem s lim d x p (some e)) t.toNat x.out.length e m z k last
theorem ins_step (s : Bytes) (lim : Lim) (d e me : Nat) (t : Nat) (m : Nat) (z : St) (k : Nat) (last : Bytes) (hk : k < e) (hm : e - k ≤ m) :
    R5.insideN s (fun x p => R5.elem s lim d x p (some e)) t me e m z k last = match R5.elem s lim d z k (some e) with
      | (none, y) => (none, y)
      | (some q, y) => if t == 49 && Op.bytesLess ((s.take q).drop k) last then (none, fault { y with out := bump y.out me } k 9) else R5.insideN s (fun x p => R5.elem s lim d x p (some e)) t me e (m - 1) { y with out := bump y.out me } q ((s.take q).drop k) := by
  obtain ⟨m', rfl⟩ : ∃ m', m = m' + 1 := ⟨m - 1, by omega⟩
  conv => lhs; unfold R5.insideN
  rw [if_pos hk, Nat.add_sub_cancel]
  rfl
theorem ins_end (s : Bytes) (rc : St → Nat → Option Nat × St) (me e t m : Nat) (z : St) (last : Bytes) : R5.insideN s rc t me e m z e last = (some e, z) := by
  cases m with
  | zero => rfl
  | succ m => unfold R5.insideN; rw [if_neg (Nat.lt_irrefl e)]
set_option maxRecDepth 100000 in
set_option maxHeartbeats 8000000 in
theorem inside_any (s : Bytes) (lim : Lim) (hs : s.length ≤ 140737488355327) (hm : lim.may = true) (d : Nat) (hE : ElemC s lim d) : InsideC s lim d := by
  intro b q0 e dp t x F w hat hok hfrm hdl hqe he5 hol
  obtain ⟨vo, h, rfl⟩ := hat
  have hmay := E5.may_of hm
  have hsz : (ByteArray.mk s.toArray).size = s.length := size_S s
  have hxl : x.out.length ≤ 1000000 := by omega
  have hdp : dp ≤ 1000 := by omega
  have hxf : x.frames ≤ 1000 := by omega
  obtain ⟨x1, hx1⟩ : ∃ x1 : St, x1 = { x with out := x.out ++ [⟨t, 0, []⟩], frames := x.frames + 1 } := ⟨_, rfl⟩
  obtain ⟨IN, hIN⟩ : ∃ IN, IN = R5.insideN s (fun x p => R5.elem s lim d x p (some e)) t.toNat x.out.length e (e - q0) x1 q0 [] := ⟨_, rfl⟩
  obtain ⟨RES, hRES⟩ : ∃ RES : Option Nat × St, RES = R5.inside s (fun x p => R5.elem s lim d x p (some e)) x t q0 e := ⟨_, rfl⟩
  have hr1 : ∀ y, IN = (none, y) → RES = (none, y) := fun y hy => by
    rw [hRES]; unfold R5.inside; rw [← hx1, ← hIN, hy]
  have hr2 : ∀ y, IN = (some e, y) → RES = (some e, { y with frames := y.frames - 1 }) := fun y hy => by
    rw [hRES]; unfold R5.inside; rw [← hx1, ← hIN, hy]
  rw [← hRES]
  obtain ⟨oa, oc, hov, _⟩ := h.out.len
  have hb : b < w.heap.size := h.rd.lt
  have c5 := h.cell5
  have f5 := h.rd.free 5
  obtain ⟨i0, hi0, hz0, hz1, hz2⟩ := info_parts Tryd.infoNode
  have HH := Px.hid (And.intro h (And.intro hok (And.intro hE (And.intro hr1 (And.intro hr2 (And.intro hIN (And.intro hx1 (And.intro hov (And.intro hdl (And.intro hfrm (And.intro hol (And.intro hm hs))))))))))))
  clear hRES hr1 hr2 hIN hx1 h hok hE hov hdl hfrm hol hm hs
  have c5b : w.cell? ⟨b, 5, none⟩ = some (.slice oa x.out.length oc) := by rw [← HH.out.2.2.2.2.2.2.2.1]; exact c5
  clear c5
  go_enter Tryd.func56, Tryd.ntmps56
  go_upto_region 2 with fail
  have c5 : w.cell? ⟨b, 5, none⟩ = some vo := HH.out.1.cell5
  clear c5b
  go_cut [] (fun wx => RAfter w wx b s lim x ⟨t, 0, []⟩ vo)
  case first =>
    go_wp2_with (at_builtin; go_must (refine wpList_append_lies _ rfl _ _ _ rfl 0 63 i0 _ 3 32 Tryd.underlying25 hi0 hz0 hz1 hz2 rfl (by omega) vo x.out.length (x.out.flatMap cNode) rfl (HH.out.1.out.alloc _) ⟨w.heap.size, 0, none⟩ 1 1 (cNode ⟨t, 0, []⟩) rfl rfl (World.news_of_block (cs := #[.int .u8 t.toNat, .int .i64 0, .string ⟨#[]⟩]) (t := 63) (fr := (0, 0)) (heap_alloc_new w _)) (by simp [cNode, Value.oneCell']) (by omega) (by unfold maxLen; omega) (by omega) (by omega) (w.heap.size + 1) (by simp) ?_))
    intro gg cap w1x hown1 hgrow hat hlt
    have k5 := grown_cell1 hgrow c5 HH.out.1.ob.ne
    have e5 := grown_free1 hgrow c5 f5 HH.out.1.ob.ne
    go_wp2_with fail
    go_meet
    exact HH.out.1.afterOut hown1 (grown_alloc1 hgrow) (hat.elim .inl (fun e => .inr (by omega)))
  case rest =>
    obtain ⟨vo', hy, hyf, hyn⟩ := hcut
    have HY := Px.hid (And.intro hy (And.intro hyf hyn))
    clear hy hyf hyn c5 f5
    obtain ⟨_, _, _, _, _, _, _, c9, _⟩ := HY.out.1.rd.cells
    have f9 := HY.out.1.rd.free 9
    have hzz := HY.out.1.rd.setFrames (x.frames + 1)
    have en : ((x.frames + 1 : Nat) : Int) = (x.frames : Int) + 1 := by omega
    rw [en] at hzz
    have hzf : Fr (It b) wc (wc.setCell ⟨b, 9, none⟩ (.int .i64 ((x.frames : Int) + 1))) := It.set _
    have HZ := Px.hid (show Ins s lim d e t x x1 q0 b (rfoot b vo) w (wc.setCell ⟨b, 9, none⟩ (.int .i64 ((x.frames : Int) + 1))) q0 [] (e - q0) x1 0 [] (rfoot b vo') from by
      have hx1 := HH.out.2.2.2.2.2.2.1
      have hok := HH.out.2.1
      have hol := HH.out.2.2.2.2.2.2.2.2.2.2.1
      refine ⟨⟨vo', by rw [hx1]; exact HY.out.1.step hzz hzf rfl, rfl⟩, HY.out.2.1.step HY.out.2.2 (It.foot hzf), HY.out.2.2, ?_, by rw [hx1], by rw [hx1], Int.le_refl _, by omega, hqe, Nat.le_refl _, rfl⟩
      rw [hx1]
      exact ⟨hok.ps, hok.pb, hok.taken, by show ((x.out ++ [_]).length : Int) ≤ lim.i; rw [List.length_append]; simp only [List.length_cons, List.length_nil]; omega⟩)
    clear hzz hzf en HY
    go_wp2
    clear c9 f9
    go_loopw [2, 13] (fun aa ll wr => ∃ (k m : Nat) (last : Bytes) (z : St) (i : Int) (l : List Px.Node) (F1 : Nat → Prop), k ≤ e ∧ aa = .int .i64 (k : Nat) ∧ ll = S last ∧ Hid (Ins s lim d e t x x1 q0 b (rfoot b vo) w wr k last m z i l F1)) (fun aa _ _ => e - (intOf aa).toNat)
    case atStart => exact ⟨q0, _, [], x1, 0, [], _, hqe, rfl, rfl, HZ⟩
    case round =>
      clear HZ
      obtain ⟨k, m, last, z, i, l, F1, hke, rfl, rfl, HR⟩ := hrel
      by_cases hlt : k < e
      · have hltz : (k : Int) < (e : Int) := by omega
        have hst := ins_step s lim d e x.out.length t.toNat m z k last hlt HR.out.fuel
        have hcall := HH.out.2.2.1 b k (dp + 1) z (some e) F1 wr HR.out.at_ HR.out.ok (by have := HR.out.frames; have := HH.out.2.2.2.2.2.2.2.2.2.1; omega) (by have := HH.out.2.2.2.2.2.2.2.2.1; omega) (fun v hv => by cases hv; exact he5)
        rw [show ((dp + 1 : Nat) : Int) = (dp : Int) + 1 by omega, show endI (some e) = (e : Int) from rfl] at hcall
        have HC := Px.hid hcall
        clear hcall
        go_wp2_with fail
        refine HC.out.mono ?_
        rintro r w2 ⟨rfl, hd⟩
        cases hr : R5.elem s lim d z k (some e) with
        | mk o z2 =>
          rw [hr] at hd hst
          cases o with
          | none =>
            have HE2 := Px.hid (HH.out.2.2.2.1 z2 (HH.out.2.2.2.2.2.1.trans (HR.out.run.trans hst)))
            have HDD := Px.hid (Did.trans HR.out.fr HR.out.fresh hd)
            clear hr hd hst HC
            unfold itemV
            go_wp2
            go_ret2
            rw [HE2.out]
            exact ⟨rfl, HDD.out⟩
          | some q =>
            obtain ⟨l2, hsn⟩ := E5.elem_sound s lim d z z2 k q (some e) HR.out.ok hr
            have hfr2 := elem_frames s lim d z z2 k q (some e) HR.out.ok hr
            have hout2 : z2.out = x.out ++ ⟨t, i, []⟩ :: (l ++ l2) := by rw [hsn.out, HR.out.out, List.append_assoc, List.cons_append]
            have hqe2 : q ≤ e := hsn.le e rfl
            have hkq : k < q := hsn.lt
            have hqs : q ≤ s.length := hsn.ok.ps
            have hme : z2.out[x.out.length]? = some ⟨t, i, []⟩ := by rw [hout2]; simp
            obtain ⟨F2, ⟨vo2, hrp, rfl⟩, d2, d3⟩ := hd
            obtain ⟨go, capo, hvo2, ho1, ho2, kk, kfo⟩ := hrp.kids hme
            have hml : (x.out.length : Int) < (z2.out.length : Int) := by rw [hout2, List.length_append, List.length_cons]; omega
            have hbz : R5.bump z2.out x.out.length = x.out ++ ⟨t, i + 1, []⟩ :: (l ++ l2) := by rw [hout2]; exact bump_mid _ _ _ _
            have hqb : (q : Int) ≤ lim.b := hsn.ok.pb
            have hik := HR.out.ik
            have hi0' := HR.out.i0
            have hqk : q ≤ 262144 := by omega
            have hwk : IntKind.i64.wrap (i + 1) = i + 1 := IntWalk.i64_in _ ⟨by omega, by omega⟩
            have HX := Px.hid (And.intro hrp (And.intro (HR.out.fr.step HR.out.fresh d2) (And.intro (Fresh.trans HR.out.fresh HR.out.fr.size d3) (And.intro hsn (And.intro hfr2 (And.intro hout2 (And.intro hme (And.intro hvo2 hbz))))))))
            have c5 := hrp.cell5
            rw [hvo2] at c5
            simp only at kk
            clear hr hrp d2 d3 hsn hfr2 hout2 hme hvo2 hbz hqb HC
            unfold itemV
            go_upto_region 11 with fail
            go_region
            obtain ⟨w3, hw3⟩ : ∃ w3, w3 = (w2.setCell ⟨go, x.out.length * 3 + 1, none⟩ (.int .i64 (i + 1))).drew := ⟨_, rfl⟩
            rw [← hw3]
            have HX2 := Px.hid (show RdRep w3 b s lim { z2 with out := R5.bump z2.out x.out.length } vo2 ∧ Fr (rfoot b vo) w w3 from by
              have h1 := HX.out.1
              have h0 := HX.out.2.2.2.2.2.2.2.1
              rw [h0] at h1
              have h2 := (h1.bumpAt HX.out.2.2.2.2.2.2.1).drewN 1
              rw [← h0] at h2
              rw [hw3]
              refine ⟨h2, HX.out.2.1.step HX.out.2.2.1 ?_⟩
              exact ((Fr.refl (rfoot b vo2) w2).setCell (p := ⟨go, x.out.length * 3 + 1, none⟩) (.inl (.inr (by rw [h0]; rfl))) _).drew)
            clear hw3 c5 kk kfo hwk
            have c0 := HX2.out.1.rd.cells.1
            have hslc := fun w => slice_S s k q (Nat.le_of_lt hkq) hqs w
            obtain ⟨key, hkey⟩ : ∃ key, key = (s.take q).drop k := ⟨_, rfl⟩
            rw [← hkey] at hslc hst
            clear hkey
            have hq : ((((t.toNat : Int) == 49) = true ∧ Op.bytesLess key last = true) ∧ (t.toNat == 49 && Op.bytesLess key last) = true) ∨ (((((t.toNat : Int) == 49) = true ∧ Op.bytesLess key last = false) ∨ ((t.toNat : Int) == 49) = false) ∧ ¬ (t.toNat == 49 && Op.bytesLess key last) = true) := by
              by_cases e1 : t.toNat = 49
              · have b1 : ((t.toNat : Int) == 49) = true := beq_iff_eq.2 (by omega)
                cases e2 : Op.bytesLess key last with
                | true => exact .inl ⟨⟨b1, rfl⟩, by rw [beq_iff_eq.2 e1]; rfl⟩
                | false => exact .inr ⟨.inl ⟨b1, rfl⟩, by simp⟩
              · exact .inr ⟨.inr (beq_eq_false_iff_ne.2 (by omega)), by simp [e1]⟩
            rcases hq with ⟨⟨q1, q2⟩, q3⟩ | ⟨q1, q3⟩
            · rw [if_pos q3] at hst
              have HE2 := Px.hid (HH.out.2.2.2.1 _ (HH.out.2.2.2.2.2.1.trans (HR.out.run.trans hst)))
              clear hst q3
              go_wp2_with fail
              refine (rfault_any b _ k 9 s lim _ vo2 [] _ HX2.out.1.rd).mono ?_
              rintro r wf ⟨rfl, hrf, hf⟩
              have HF := Px.hid (And.intro (HX2.out.1.step hrf hf rfl) (HX2.out.2.step HX.out.2.2.1 (It.foot hf)))
              clear hrf hf
              go_wp2
              go_ret2
              rw [HE2.out]
              exact ⟨rfl, _, ⟨vo2, HF.out.1, rfl⟩, HF.out.2, HX.out.2.2.1⟩
            · rw [if_neg q3] at hst
              have HI := Px.hid (show Ins s lim d e t x x1 q0 b (rfoot b vo) w w3 q key (m - 1) { z2 with out := R5.bump z2.out x.out.length } (i + 1) (l ++ l2) (rfoot b vo2) from by
                have hsn := HX.out.2.2.2.1
                refine ⟨⟨vo2, HX2.out.1, rfl⟩, HX2.out.2, HX.out.2.2.1, ⟨hsn.ok.ps, hsn.ok.pb, hsn.ok.taken, ?_⟩, HX.out.2.2.2.2.1.trans HR.out.frames, HX.out.2.2.2.2.2.2.2.2, by omega, by omega, hqe2, by have := HR.out.fuel; omega, HR.out.run.trans hst⟩
                have := hsn.ok.out
                show ((R5.bump z2.out x.out.length).length : Int) ≤ lim.i
                rw [D5.bump_len]; exact this)
              clear hst q3
              rcases q1 with ⟨q1, q2⟩ | q1
              all_goals
                go_wp2
                go_roundw
                case rel => exact ⟨q, m - 1, key, _, _, _, _, hqe2, rfl, rfl, HI⟩
                case measure => simp [intOf]; omega
      · have hltz : ¬ (k : Int) < (e : Int) := by omega
        obtain rfl : k = e := by omega
        have hend := ins_end s (fun x p => R5.elem s lim d x p (some k)) x.out.length k t.toNat m z last
        have HE2 := Px.hid (HH.out.2.2.2.2.1 z (HH.out.2.2.2.2.2.1.trans (HR.out.run.trans hend)))
        obtain ⟨F1, ⟨vo1, hrp, rfl⟩, hfr1, hfs1⟩ : Did w b s lim (rfoot b vo) z wr := ⟨F1, HR.out.at_, HR.out.fr, HR.out.fresh⟩
        obtain ⟨_, _, _, _, _, _, _, c9, _⟩ := hrp.rd.cells
        rw [HR.out.frames] at c9
        have f9 := hrp.rd.free 9
        have en : ((x.frames + 1 : Nat) : Int) = (x.frames : Int) + 1 := by omega
        rw [en] at c9
        have hzz := hrp.rd.setFrames x.frames
        have hzf : Fr (It b) wr (wr.setCell ⟨b, 9, none⟩ (.int .i64 (x.frames : Nat))) := It.set _
        have HF := Px.hid (And.intro (hrp.step hzz hzf rfl) (And.intro (hfr1.step hfs1 (It.foot hzf)) hfs1))
        clear hend hrp hfr1 hfs1 hzz hzf en hlt
        go_wp2
        go_ret2
        rw [HE2.out]
        refine ⟨rfl, _, ⟨vo1, ?_, rfl⟩, HF.out.2.1, HF.out.2.2⟩
        have hf := HR.out.frames
        show RdRep _ b s lim { z with frames := z.frames - 1 } vo1
        rw [hf, Nat.add_sub_cancel]
        exact HF.out.1
end Go.Proofs.YtceffhkgnifmeaaDoor

/-! The reference's element, whole (layer 15). -/
namespace Go.Proofs.YtceffhkgnifmeaaDoor
open Go.RowKit Go.Px Go.Px.R5

theorem rlen_facts {s : Bytes} {lim : Lim} {x y z : St} {p n q : Nat} (hok : D5.Ok s lim x p) (hv : R5.want s lim x p = (true, y)) (h : R5.length s lim y (p + 1) = (some (n, q), z)) :
    q ≤ s.length ∧ (q : Int) ≤ lim.b ∧ n < 4294967296 := by
  have ht : y.taken = p + 1 := by
    rw [rwant_true_eq hv]
    unfold take
    simp only
    rw [hok.taken, Nat.max_eq_right (Nat.le_succ p)]
  have := D5.length_eq (s := s) (lim := lim) ht
  rw [h] at this
  obtain ⟨_, _, h1, h2, _, h3⟩ := this
  exact ⟨h1, h2, h3⟩
theorem elem_bad (s : Bytes) (lim : Lim) (hs : s.length ≤ 140737488355327) (hm : lim.may = true) (b p dp : Nat) (e : Option Nat) (room : Bool) (hr1 : room = false → lim.d ≤ (dp : Int)) (hr2 : room = true → ¬ lim.d ≤ (dp : Int)) (x : St) (vo : Value) (w : World) (h : RdRep w b s lim x vo) (hok : D5.Ok s lim x p) (z : St) (hh : R5.head s lim room x p e = (none, z)) :
    Calls Tryd.prog 45 #[.pointer (some ⟨b, 0, none⟩), .int .i64 (p : Nat), .int .i64 (dp : Nat), .int .i64 (endI e)] w fun r w' => r = .returned (itemV none) ∧ Did w b s lim (rfoot b vo) z w' := by
  have hmay := E5.may_of hm
  rcases rhead_bad hh with hv | ⟨y, hv, ⟨hi, rfl⟩ | ⟨hi, ⟨ht, rfl⟩ | ⟨ht, ⟨hin, hrm, rfl⟩ | ⟨hrm, hl | ⟨n, q, u, v, hl, hev, hlt, rfl⟩⟩⟩⟩⟩
  · exact el_want s lim hs hm b p dp _ x vo w h hok z hv
  · exact el_full s lim hs hm b p dp _ x vo w h hok y hv hi
  · exact el_tag s lim hs hm b p dp _ x vo w h hok y hv hi ht
  · exact el_deep s lim hs hm b p dp _ x vo w h hok y hv hi ht hin (hr1 hrm)
  · cases hin : inner (s.getD p 0).toNat with
    | true => exact el_len_t s lim hs hm b p dp _ x vo w h hok y hv hi ht hin (hr2 (hrm hin)) z hl
    | false => exact el_len_f s lim hs hm b p dp _ x vo w h hok y hv hi ht hin z hl
  · subst hev
    obtain ⟨f1, f2, f3⟩ := rlen_facts hok hv hl
    cases hin : inner (s.getD p 0).toNat with
    | true => exact el_end_t s lim hs hm b p dp _ x vo w h hok y hv hi ht hin (hr2 (hrm hin)) n q u hl ⟨by omega, f3⟩ (show (0 : Int) ≤ (v : Int) by omega) (show (v : Int) < (q : Int) + n by omega)
    | false => exact el_end_f s lim hs hm b p dp _ x vo w h hok y hv hi ht hin n q u hl ⟨by omega, f3⟩ (show (0 : Int) ≤ (v : Int) by omega) (show (v : Int) < (q : Int) + n by omega)
theorem end_ok {e : Option Nat} {n q : Nat} (he : ∀ v, e = some v → q + n ≤ v) : ¬ 0 ≤ endI e ∨ (0 ≤ endI e ∧ ¬ endI e < (q : Int) + n) := by
  cases e with
  | none => left; show ¬ (0 : Int) ≤ -1; omega
  | some v => right; have := he v rfl; show (0 : Int) ≤ (v : Int) ∧ ¬ (v : Int) < (q : Int) + n; constructor <;> omega
theorem elem_leaf (s : Bytes) (lim : Lim) (hs : s.length ≤ 140737488355327) (hm : lim.may = true) (b p dp : Nat) (e : Option Nat) (room : Bool) (x : St) (vo : Value) (w : World) (h : RdRep w b s lim x vo) (hok : D5.Ok s lim x p) (n q : Nat) (z : St) (hh : R5.head s lim room x p e = (some (n, q), z)) (hin : inner (s.getD p 0).toNat = false) :
    Calls Tryd.prog 45 #[.pointer (some ⟨b, 0, none⟩), .int .i64 (p : Nat), .int .i64 (dp : Nat), .int .i64 (endI e)] w fun r w' => r = .returned (itemV (R5.leaf s lim z (s.getD p 0) p q n).1) ∧ Did w b s lim (rfoot b vo) (R5.leaf s lim z (s.getD p 0) p q n).2 w' := by
  have hmay := E5.may_of hm
  obtain ⟨y, hv, hi, ht, _, hl, he⟩ := rhead_ok hh
  obtain ⟨f1, f2, f3⟩ := rlen_facts hok hv hl
  have hE := end_ok he
  unfold R5.leaf
  cases ha : (if n = 0 then (true, z) else R5.want s lim z (q + n - 1)) with
  | mk bv u =>
    cases bv with
    | false => exact el_all s lim hs hm b p dp _ x vo w h hok y hv hi ht hin n q z hl ⟨by omega, f3, f1⟩ hE u ha
    | true =>
      simp only
      cases hbd : R5.body (s.getD p 0).toNat ((s.take (q + n)).drop q) with
      | false =>
        rw [if_neg (by simp)]
        exact el_body s lim hs hm b p dp _ x vo w h hok y hv hi ht hin n q z hl ⟨by omega, f3, f1⟩ hE u ha hbd
      | true =>
        rw [if_pos rfl]
        exact el_leaf s lim hs hm b p dp _ x vo w h hok y hv hi ht hin n q z hl ⟨by omega, f3, f1⟩ hE u ha hbd
theorem elem_any (s : Bytes) (lim : Lim) (hs : s.length ≤ 140737488355327) (hm : lim.may = true) : ∀ d, ElemC s lim d := by
  intro d
  induction d with
  | zero =>
    intro b p dp x e F w hat hok hfr hdl hev
    obtain ⟨vo, h, rfl⟩ := hat
    unfold R5.elem
    cases hh : R5.head s lim false x p e with
    | mk o z =>
      cases o with
      | none => exact elem_bad s lim hs hm b p dp e false (fun _ => by omega) (fun e => by cases e) x vo w h hok z hh
      | some v =>
        obtain ⟨n, q⟩ := v
        obtain ⟨_, _, _, _, hrm, _⟩ := rhead_ok hh
        exact elem_leaf s lim hs hm b p dp e false x vo w h hok n q z hh (by
          cases hin : inner (s.getD p 0).toNat with
          | false => rfl
          | true => exact absurd (hrm hin) (by decide))
  | succ d ih =>
    intro b p dp x e F w hat hok hfr hdl hev
    obtain ⟨vo, h, rfl⟩ := hat
    unfold R5.elem
    cases hh : R5.head s lim true x p e with
    | mk o z =>
      cases o with
      | none => exact elem_bad s lim hs hm b p dp e true (fun e => by cases e) (fun _ => by omega) x vo w h hok z hh
      | some v =>
        obtain ⟨n, q⟩ := v
        simp only
        cases hin : inner (s.getD p 0).toNat with
        | false =>
          rw [if_neg (by simp)]
          exact elem_leaf s lim hs hm b p dp e true x vo w h hok n q z hh hin
        | true =>
          rw [if_pos rfl]
          have hmay := E5.may_of hm
          obtain ⟨y, hv, hi, ht, _, hl, he⟩ := rhead_ok hh
          obtain ⟨f1, f2, f3⟩ := rlen_facts hok hv hl
          obtain ⟨h2, h3, h4, h5, h7, h8, h9, h10⟩ := E5.head_facts hok hh
          exact el_inner s lim hs hm b p dp _ x vo w h hok y hv hi ht hin (by omega) n q z hl ⟨by omega, f3, f1⟩ (end_ok he) d (inside_any s lim hs hm d ih) (by omega) (by rw [h2]; exact hfr) ⟨h3, h4, by rw [h2], by rw [h2]; show (x.out.length : Int) ≤ lim.i; omega⟩ (by rw [h2]; exact h7)
end Go.Proofs.YtceffhkgnifmeaaDoor

/-! The walks over the reference's Read and Decode (layer 15). -/
namespace Go.Proofs.YtceffhkgnifmeaaDoor
open Go.RowKit Go.Px Go.Px.R5

theorem Fr.toSame {F : Nat → Prop} {w w' : World} (h : Fr F w w') (hF : ∀ k, F k → w.heap.size ≤ k) : Same w w' :=
  ⟨h.os, h.tape, h.output, h.size, fun k hk _ => h.block k hk (fun e => by have := hF k e; omega)⟩
/-- What Read hands back: a reader of its own. -/
def RDone (w : World) (s : Bytes) (lim : Lim) (y : St) (r : Ending) (w' : World) : Prop :=
  ∃ b vo, r = .returned (.pointer (some ⟨b, 0, none⟩)) ∧ RdRep w' b s lim { y with out := R5.list y } vo ∧ Same w w' ∧ ∀ k, rfoot b vo k → w.heap.size ≤ k
/-- While it is read. -/
structure RIn (w w1 : World) (s : Bytes) (lim : Lim) (y : St) (vo : Value) : Prop where
  rep : RdRep w1 (w.heap.size + 1) s lim y vo
  same : Same w w1
  own : ∀ k, rfoot (w.heap.size + 1) vo k → w.heap.size + 1 ≤ k
theorem RIn.step {w w1 w2 : World} {s : Bytes} {lim : Lim} {y z : St} {vo : Value} (h : RIn w w1 s lim y vo) (hr : Rd w2 (w.heap.size + 1) 75 s lim z vo []) (hf : Fr (It (w.heap.size + 1)) w1 w2) (ho : z.out = y.out) : RIn w w2 s lim z vo :=
  ⟨h.rep.step hr hf ho, Fr.toSame (Fr.trans (h.same.fr (It (w.heap.size + 1))) hf (fun _ _ e => e)) (fun k e => by unfold It at e; omega), h.own⟩
theorem RIn.done {w w1 : World} {s : Bytes} {lim : Lim} {y : St} {vo : Value} (h : RIn w w1 s lim y vo) (he : y.err = 0) : RDone w s lim y (.returned (.pointer (some ⟨w.heap.size + 1, 0, none⟩))) w1 :=
  ⟨_, vo, rfl, by rw [list_ok5 he]; exact h.rep, h.same, fun k hk => by have := h.own k hk; omega⟩
theorem RIn.doneNil {w w1 : World} {s : Bytes} {lim : Lim} {y : St} {vo : Value} (h : RIn w w1 s lim y vo) (he : ¬ y.err = 0) : RDone w s lim y (.returned (.pointer (some ⟨w.heap.size + 1, 0, none⟩))) (w1.setCell ⟨w.heap.size + 1, 5, none⟩ (.slice none 0 0)) := by
  refine ⟨_, .slice none 0 0, rfl, ⟨?_, ?_, fun k hk => by simp [Value.ownBlock] at hk⟩, ?_, ?_⟩
  · rw [list_bad5 he]
    exact h.rep.rd.set 5 _ _ _ _ (by simp [rdCells])
  · rw [list_bad5 he]; exact owns_nil _ _ _ _
  · exact h.same.setCell (p := ⟨w.heap.size + 1, 5, none⟩) (.inr (by simp)) _
  · rintro k (rfl | hk)
    · omega
    · simp [Value.ownBlock] at hk
set_option maxRecDepth 100000 in
set_option maxHeartbeats 4000000 in
theorem read15_any (s : Bytes) (lim : Lim) (w : World) (hm : lim.may = true) (hs : s.length ≤ 140737488355327) :
    Calls Tryd.prog 32 #[S s, limV lim] w (RDone w s lim (R5.read s lim)) := by
  have hmay := E5.may_of hm
  have hb1 := hmay.2.2.2.2.1
  have hb2 := hmay.2.2.2.2.2.1
  have hsm : s.length ≤ maxLen := by unfold maxLen; omega
  have hsz : (ByteArray.mk s.toArray).size = s.length := size_S s
  obtain ⟨RD, hRD⟩ : ∃ RD, RD = R5.read s lim := ⟨_, rfl⟩
  rw [← hRD]
  have HM := Px.hid (And.intro hm (And.intro hs (And.intro hRD (And.intro hsm (And.intro hb1 hb2)))))
  clear hm hs hmay hb1 hb2 hsm hRD
  unfold limV
  go_enter Tryd.func32, Tryd.ntmps32
  go_wp2_with fail
  obtain ⟨WX, hWX⟩ : ∃ WX, WX = ((w.alloc (.cells #[.int .i64 lim.d, .int .i64 lim.i, .int .i64 lim.b, .int .i64 lim.r] 23 (0, 0))).alloc (.cells #[S s, .int .i64 lim.d, .int .i64 lim.i, .int .i64 lim.b, .int .i64 lim.r, .slice none 0 0, .int .i64 0, .int .i64 0, .int .i64 0, .int .i64 0, .bool false] 75 (0, 0))) := ⟨_, rfl⟩
  rw [← hWX]
  have HX := Px.hid (show RIn w WX s lim R5.start (.slice none 0 0) from by
    rw [hWX]
    refine ⟨⟨⟨?_⟩, owns_nil _ _ _ _, fun k hk => by simp [Value.ownBlock] at hk⟩, ((Same.refl w).alloc _).alloc _, ?_⟩
    · show _ = some (Obj.cells #[S s, .int .i64 lim.d, .int .i64 lim.i, .int .i64 lim.b, .int .i64 lim.r, .slice none 0 0, .int .i64 0, .int .i64 0, .int .i64 0, .int .i64 0, .bool false] 75 (0, 0))
      have := heap_alloc_new (w.alloc (.cells #[.int .i64 lim.d, .int .i64 lim.i, .int .i64 lim.b, .int .i64 lim.r] 23 (0, 0))) (.cells #[S s, .int .i64 lim.d, .int .i64 lim.i, .int .i64 lim.b, .int .i64 lim.r, .slice none 0 0, .int .i64 0, .int .i64 0, .int .i64 0, .int .i64 0, .bool false] 75 (0, 0))
      simpa using this
    · rintro k (rfl | hk)
      · omega
      · simp [Value.ownBlock] at hk)
  clear hWX
  have hcall : Calls Tryd.prog 45 #[.pointer (some ⟨w.heap.size + 1, 0, none⟩), .int .i64 0, .int .i64 0, .int .i64 (-1)] WX fun r w' => r = .returned (itemV (R5.elem s lim lim.d.toNat R5.start 0 none).1) ∧ Did WX (w.heap.size + 1) s lim (rfoot (w.heap.size + 1) (.slice none 0 0)) (R5.elem s lim lim.d.toNat R5.start 0 none).2 w' :=
    elem_any s lim HM.out.2.1 HM.out.1 lim.d.toNat (w.heap.size + 1) 0 0 R5.start none _ WX ⟨_, HX.out.rep, rfl⟩ (E5.start_ok HM.out.1) (Nat.le_refl _) (by have := (E5.may_of HM.out.1).1; omega) (fun v hv => by cases hv)
  have HC := Px.hid hcall
  clear hcall
  refine HC.out.mono ?_
  rintro e w1 ⟨rfl, hd⟩
  cases hr : R5.elem s lim lim.d.toNat R5.start 0 none with
  | mk o y =>
    rw [hr] at hd
    obtain ⟨F', ⟨vo, hrp, rfl⟩, hf, hn⟩ := hd
    have HY := Px.hid (show RIn w w1 s lim y vo from by
      refine ⟨hrp, Fr.toSame (Fr.trans (HX.out.same.fr (rfoot (w.heap.size + 1) (.slice none 0 0))) hf (fun _ _ e => e)) (fun k e => by have := HX.out.own k e; omega), fun k hk => ?_⟩
      rcases hn k hk with e | e
      · exact HX.out.own k e
      · have := HX.out.rep.rd.lt; omega)
    clear hrp hf hn HX HC
    cases o with
    | none =>
      have hne : ¬ y.err = 0 := E5.elem_err _ _ _ _ _ _ _ hr
      have HE := Px.hid (And.intro (show RD = y by rw [HM.out.2.2.1]; unfold R5.read; rw [hr]) hne)
      have hneb : (y.err == 0) = false := beq_eq_false_iff_ne.2 hne
      have c6 := HY.out.rep.rd.cells.2.2.2.2.1
      have c5 := HY.out.rep.cell5
      have f5 := HY.out.rep.rd.free 5
      clear hr hne
      unfold itemV
      go_wp2
      go_ret
      rw [HE.out.1]
      exact HY.out.doneNil HE.out.2
    | some q =>
      obtain ⟨l, hsn⟩ := E5.elem_sound s lim lim.d.toNat R5.start y 0 q none (E5.start_ok HM.out.1) hr
      have he0 : y.err = 0 := hsn.err
      have hqs : q ≤ s.length := hsn.ok.ps
      have hqb : (q : Int) ≤ lim.b := hsn.ok.pb
      have hb2 := HM.out.2.2.2.2.2
      clear hsn
      unfold itemV
      by_cases hlt : q < s.length
      · have hltz : (q : Int) < (s.length : Int) := by omega
        have hwt := want_any (w.heap.size + 1) _ q s lim y vo [] w1 HY.out.rep.rd HM.out.2.2.2.1 HM.out.2.2.2.2.1 HM.out.2.2.2.2.2 (by unfold maxLen; omega)
        cases hv : R5.want s lim y q with
        | mk bv z =>
          rw [hv] at hwt
          have hzo : z.out = y.out := by have := rwant_out s lim y q; rw [hv] at this; exact this
          have HW := Px.hid (And.intro hwt hzo)
          cases bv with
          | false =>
            have hne : ¬ z.err = 0 := E5.want_err hv
            have HE := Px.hid (And.intro (show RD = z by rw [HM.out.2.2.1]; unfold R5.read; rw [hr]; simp only; rw [if_pos hlt, hv]) hne)
            have hneb : (z.err == 0) = false := beq_eq_false_iff_ne.2 hne
            clear hr hne hv hwt hzo he0 hlt
            go_wp2_with fail
            refine HW.out.1.mono ?_
            rintro r w2 ⟨rfl, hrd, hf⟩
            have HZ := Px.hid (HY.out.step hrd hf HW.out.2)
            clear hrd hf
            have c6 := HZ.out.rep.rd.cells.2.2.2.2.1
            have c5 := HZ.out.rep.cell5
            have f5 := HZ.out.rep.rd.free 5
            go_wp2
            go_ret
            rw [HE.out.1]
            exact HZ.out.doneNil HE.out.2
          | true =>
            have hne : ¬ (fault z (q : Int) 9).err = 0 := by simp [fault]
            have HE := Px.hid (And.intro (show RD = fault z (q : Int) 9 by rw [HM.out.2.2.1]; unfold R5.read; rw [hr]; simp only; rw [if_pos hlt, hv]) hne)
            clear hr hne hv hwt hzo he0 hlt
            go_wp2_with fail
            refine HW.out.1.mono ?_
            rintro r w2 ⟨rfl, hrd, hf⟩
            have HZ := Px.hid (HY.out.step hrd hf HW.out.2)
            clear hrd hf
            go_wp2_with fail
            refine (rfault_any (w.heap.size + 1) _ q 9 s lim z vo [] _ HZ.out.rep.rd).mono ?_
            rintro r w3 ⟨rfl, hrd, hf⟩
            have HZ2 := Px.hid (HZ.out.step hrd hf rfl)
            clear hrd hf
            have c6 : w3.cell? ⟨w.heap.size + 1, 6, none⟩ = some (.int .i64 9) := HZ2.out.rep.rd.cells.2.2.2.2.1
            have c5 := HZ2.out.rep.cell5
            have f5 := HZ2.out.rep.rd.free 5
            go_wp2
            go_ret
            rw [HE.out.1]
            exact HZ2.out.doneNil HE.out.2
      · have hltz : ¬ (q : Int) < (s.length : Int) := by omega
        have HE := Px.hid (And.intro (show RD = y by rw [HM.out.2.2.1]; unfold R5.read; rw [hr]; simp only; rw [if_neg hlt]) he0)
        have c6 := HY.out.rep.rd.cells.2.2.2.2.1
        rw [he0] at c6
        clear hr he0 hlt
        go_wp2
        go_ret
        rw [HE.out.1]
        exact HY.out.done HE.out.2
set_option maxRecDepth 100000 in
set_option maxHeartbeats 1000000 in
theorem refdecode_any (s : Bytes) (lim : Lim) (hs : s.length ≤ 140737488355327) (w : World) :
    Calls Tryd.prog 15 #[S s, limV lim] w (Gives w (R5.decode s lim)) := by
  have HS := Px.hid hs
  clear hs
  unfold limV
  go_enter Tryd.func15, Tryd.ntmps15
  go_upto_region 1 with fail
  obtain ⟨WX, hWX⟩ : ∃ WX, WX = w.alloc (.cells #[.int .i64 lim.d, .int .i64 lim.i, .int .i64 lim.b, .int .i64 lim.r] 23 (0, 0)) := ⟨_, rfl⟩
  rw [← hWX]
  have HX := Px.hid (show WX.heap[w.heap.size]? = some (.cells #[.int .i64 lim.d, .int .i64 lim.i, .int .i64 lim.b, .int .i64 lim.r] 23 (0, 0)) ∧ Same w WX from by rw [hWX]; exact ⟨heap_alloc_new w _, (Same.refl w).alloc _⟩)
  clear hWX
  have a0 := cellOf HX.out.1 0 rfl
  have a1 := cellOf HX.out.1 1 rfl
  have a2 := cellOf HX.out.1 2 rfl
  have a3 := cellOf HX.out.1 3 rfl
  go_wp2_with fail
  refine (refMay_any lim _).mono ?_
  rintro e w1 ⟨rfl, hsm⟩
  have HL := Px.hid (And.intro ((hsm.block _ (ltOf HX.out.1) (fun x => x)).trans HX.out.1) (HX.out.2.trans hsm))
  clear hsm a0 a1 a2 a3
  have a0 := cellOf HL.out.1 0 rfl
  have a1 := cellOf HL.out.1 1 rfl
  have a2 := cellOf HL.out.1 2 rfl
  have a3 := cellOf HL.out.1 3 rfl
  cases hm : lim.may
  · have HR := Px.hid (E5.decode_no (s := s) hm)
    clear hm
    go_wp2
    go_ret3
    rw [HR.out]
    exact gives_nil rfl HL.out.2
  · have HR := Px.hid (And.intro (E5.decode_yes (s := s) hm) hm)
    clear hm
    go_wp2_with fail
    refine (read15_any s lim _ HR.out.2 HS.out).mono ?_
    rintro e w2 ⟨b, vo, rfl, hrp, hsm, hown⟩
    have HV := Px.hid (And.intro hrp (And.intro (HL.out.2.trans hsm) (fun g hg => Nat.le_trans HL.out.2.size (hown g (.inr hg)))))
    obtain ⟨x, hx⟩ : ∃ x, x = R5.read s lim := ⟨_, rfl⟩
    rw [← hx] at HR HV hrp
    clear hx
    have c6 := hrp.rd.cells.2.2.2.2.1
    have c7 := hrp.rd.cells.2.2.2.2.2.1
    have c5 := hrp.cell5
    simp only at c6 c7
    clear hrp hsm hown a0 a1 a2 a3
    go_wp2_with fail
    go_quiet (fail)
    go_wp2
    go_ret3
    rw [HR.out.1]
    exact ⟨vo, rfl, HV.out.1.out.drewN nq, HV.out.2.1.drewN nq, HV.out.2.2⟩
end Go.Proofs.YtceffhkgnifmeaaDoor
