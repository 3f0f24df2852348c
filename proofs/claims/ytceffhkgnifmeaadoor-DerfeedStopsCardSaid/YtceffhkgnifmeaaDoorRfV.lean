/-
  The walk over the reference's element (layer 15) where it fails ahead of a body, way by way.
-/
import Derived.Test.YtceffhkgnifmeaaDoorReV
namespace Go.Proofs.YtceffhkgnifmeaaDoor
open Go.RowKit Go.Px Go.Px.R5

set_option maxRecDepth 100000 in
set_option maxHeartbeats 4000000 in
theorem el_want (s : Bytes) (lim : Lim) (hs : s.length ≤ 140737488355327) (hm : lim.may = true) (b p dp : Nat) (E : Int) (x : St) (vo : Value) (w : World) (h : RdRep w b s lim x vo) (hok : D5.Ok s lim x p) (y : St) (hv : R5.want s lim x p = (false, y)) :
    Calls Tryd.prog 45 #[.pointer (some ⟨b, 0, none⟩), .int .i64 (p : Nat), .int .i64 (dp : Nat), .int .i64 E] w fun r w' => r = .returned (itemV none) ∧ Did w b s lim (rfoot b vo) y w' := by
  have hmay := E5.may_of hm
  have hb1 := hmay.2.2.2.2.1
  have hb2 := hmay.2.2.2.2.2.1
  have hp : p ≤ 262144 := by have := hok.pb; omega
  have hsm : s.length ≤ maxLen := by unfold maxLen; omega
  have hol : x.out.length ≤ 1000000 := by have := hok.out; omega
  have hsz : (ByteArray.mk s.toArray).size = s.length := size_S s
  have hwt := want_any b _ p s lim x vo [] w h.rd hsm hb1 hb2 (by unfold maxLen; omega)
  rw [hv] at hwt
  have HW := Px.hid hwt
  have HH := Px.hid h
  have HYO := Px.hid (show y.out = x.out by have := rwant_out s lim x p; rw [hv] at this; exact this)
  clear hwt hv h hok hol hsz hsm hmay hb1 hb2 hm hs
  go_enter Tryd.func45, Tryd.ntmps45
  go_wp2_with fail
  refine HW.out.mono ?_
  rintro r w1 ⟨rfl, hr, hf⟩
  have HR := Px.hid (show RdRep w1 b s lim y vo ∧ Fr (rfoot b vo) w w1 from ⟨HH.out.step hr hf HYO.out, It.foot hf⟩)
  clear hr hf
  go_wp2
  go_ret2
  exact ⟨rfl, _, ⟨vo, HR.out.1, rfl⟩, HR.out.2, Fresh.refl _ _⟩
set_option maxRecDepth 100000 in
set_option maxHeartbeats 4000000 in
theorem el_full (s : Bytes) (lim : Lim) (hs : s.length ≤ 140737488355327) (hm : lim.may = true) (b p dp : Nat) (E : Int) (x : St) (vo : Value) (w : World) (h : RdRep w b s lim x vo) (hok : D5.Ok s lim x p) (y : St) (hv : R5.want s lim x p = (true, y)) (hi : lim.i ≤ x.out.length) :
    Calls Tryd.prog 45 #[.pointer (some ⟨b, 0, none⟩), .int .i64 (p : Nat), .int .i64 (dp : Nat), .int .i64 E] w fun r w' => r = .returned (itemV none) ∧ Did w b s lim (rfoot b vo) (fault y p 10) w' := by
  have hmay := E5.may_of hm
  have hb1 := hmay.2.2.2.2.1
  have hb2 := hmay.2.2.2.2.2.1
  have hp : p ≤ 262144 := by have := hok.pb; omega
  have hsm : s.length ≤ maxLen := by unfold maxLen; omega
  have hol : x.out.length ≤ 1000000 := by have := hok.out; omega
  have hsz : (ByteArray.mk s.toArray).size = s.length := size_S s
  have hwt := want_any b _ p s lim x vo [] w h.rd hsm hb1 hb2 (by unfold maxLen; omega)
  rw [hv] at hwt
  have HW := Px.hid hwt
  have HH := Px.hid h
  have HYO := Px.hid (show y.out = x.out by have := rwant_out s lim x p; rw [hv] at this; exact this)
  have hpl := (rwant_true hv).1
  have ip := idx_S s p hpl
  obtain ⟨t, htt⟩ : ∃ t, t = s.getD p 0 := ⟨_, rfl⟩
  rw [← htt] at ip
  have hcb : t.toNat < 256 := UInt8.toNat_lt _
  obtain ⟨oa, oc, hov, _⟩ := h.out.len
  have HOV := Px.hid hov
  have HTT := Px.hid htt
  clear hov hwt htt
  have hid2 : decide (lim.i ≤ (x.out.length : Int)) = true := decide_eq_true (by omega)
  clear hv h hok hi hmay hm hs hpl
  go_enter Tryd.func45, Tryd.ntmps45
  go_wp2_with fail
  refine HW.out.mono ?_
  rintro r w1 ⟨rfl, hr, hf⟩
  have HR := Px.hid (show RdRep w1 b s lim y vo ∧ Fr (rfoot b vo) w w1 from ⟨HH.out.step hr hf HYO.out, It.foot hf⟩)
  clear hr hf
  have c2 := HR.out.1.rd.cells.2.2.1
  have c5 := HR.out.1.cell5
  rw [HOV.out] at c5
  go_wp2_with fail
  go_quiet (fail)
  obtain ⟨w2, hw2⟩ : ∃ w2, w2 = w1.drewN nq := ⟨_, rfl⟩
  rw [← hw2]
  have HR2 := Px.hid (show RdRep w2 b s lim y vo ∧ Fr (rfoot b vo) w w2 from by rw [hw2]; exact ⟨HR.out.1.drewN nq, HR.out.2.drewN nq⟩)
  clear hw2 c2 c5 HR
  go_wp2_with fail
  refine (rfault_any b _ p 10 s lim y vo [] _ HR2.out.1.rd).mono ?_
  rintro r wf ⟨rfl, hr, hf⟩
  have HF := Px.hid (show RdRep wf b s lim (fault y p 10) vo ∧ Fr (rfoot b vo) w wf from ⟨HR2.out.1.step hr hf rfl, Fr.trans HR2.out.2 (It.foot hf) (fun _ _ e => e)⟩)
  clear hr hf
  go_wp2
  go_ret2
  exact ⟨rfl, _, ⟨vo, HF.out.1, rfl⟩, HF.out.2, Fresh.refl _ _⟩
set_option maxRecDepth 100000 in
set_option maxHeartbeats 4000000 in
theorem el_tag (s : Bytes) (lim : Lim) (hs : s.length ≤ 140737488355327) (hm : lim.may = true) (b p dp : Nat) (E : Int) (x : St) (vo : Value) (w : World) (h : RdRep w b s lim x vo) (hok : D5.Ok s lim x p) (y : St) (hv : R5.want s lim x p = (true, y)) (hi : ¬ lim.i ≤ x.out.length) (ht : tagE (s.getD p 0).toNat ≠ 0) :
    Calls Tryd.prog 45 #[.pointer (some ⟨b, 0, none⟩), .int .i64 (p : Nat), .int .i64 (dp : Nat), .int .i64 E] w fun r w' => r = .returned (itemV none) ∧ Did w b s lim (rfoot b vo) (fault y p (tagE (s.getD p 0).toNat)) w' := by
  have hmay := E5.may_of hm
  have hb1 := hmay.2.2.2.2.1
  have hb2 := hmay.2.2.2.2.2.1
  have hp : p ≤ 262144 := by have := hok.pb; omega
  have hsm : s.length ≤ maxLen := by unfold maxLen; omega
  have hol : x.out.length ≤ 1000000 := by have := hok.out; omega
  have hsz : (ByteArray.mk s.toArray).size = s.length := size_S s
  have hwt := want_any b _ p s lim x vo [] w h.rd hsm hb1 hb2 (by unfold maxLen; omega)
  rw [hv] at hwt
  have HW := Px.hid hwt
  have HH := Px.hid h
  have HYO := Px.hid (show y.out = x.out by have := rwant_out s lim x p; rw [hv] at this; exact this)
  have hpl := (rwant_true hv).1
  have ip := idx_S s p hpl
  obtain ⟨t, htt⟩ : ∃ t, t = s.getD p 0 := ⟨_, rfl⟩
  rw [← htt] at ip ht ⊢
  have hcb : t.toNat < 256 := UInt8.toNat_lt _
  obtain ⟨oa, oc, hov, _⟩ := h.out.len
  have HOV := Px.hid hov
  have HTT := Px.hid htt
  clear hov hwt htt
  have hid2 : decide (lim.i ≤ (x.out.length : Int)) = false := decide_eq_false (by omega)
  obtain ⟨te, hte⟩ : ∃ te, te = tagE t.toNat := ⟨_, rfl⟩
  rw [← hte] at ht ⊢
  have HT := Px.hid hte.symm
  have htb : (te == 0) = false := beq_eq_false_iff_ne.2 ht
  clear hv h hok hi hmay hm hs ht hte
  go_enter Tryd.func45, Tryd.ntmps45
  go_wp2_with fail
  refine HW.out.mono ?_
  rintro r w1 ⟨rfl, hr, hf⟩
  have HR := Px.hid (show RdRep w1 b s lim y vo ∧ Fr (rfoot b vo) w w1 from ⟨HH.out.step hr hf HYO.out, It.foot hf⟩)
  clear hr hf
  have c2 := HR.out.1.rd.cells.2.2.1
  have c5 := HR.out.1.cell5
  rw [HOV.out] at c5
  go_wp2_with fail
  go_quiet (fail)
  obtain ⟨w2, hw2⟩ : ∃ w2, w2 = w1.drewN nq := ⟨_, rfl⟩
  rw [← hw2]
  have HR2 := Px.hid (show RdRep w2 b s lim y vo ∧ Fr (rfoot b vo) w w2 from by rw [hw2]; exact ⟨HR.out.1.drewN nq, HR.out.2.drewN nq⟩)
  clear hw2 c2 c5 HR
  have c0 := HR2.out.1.rd.cells.1
  go_wp2_with fail
  refine (rtag_any t.toNat hcb _).mono ?_
  rintro r w2x ⟨rfl, hw2x⟩
  subst hw2x
  rw [HT.out]
  go_wp2_with fail
  refine (rfault_any b _ p te s lim y vo [] _ HR2.out.1.rd).mono ?_
  rintro r wf ⟨rfl, hr, hf⟩
  have HF := Px.hid (show RdRep wf b s lim (fault y p te) vo ∧ Fr (rfoot b vo) w wf from ⟨HR2.out.1.step hr hf rfl, Fr.trans HR2.out.2 (It.foot hf) (fun _ _ e => e)⟩)
  clear hr hf
  go_wp2
  go_ret2
  exact ⟨rfl, _, ⟨vo, HF.out.1, rfl⟩, HF.out.2, Fresh.refl _ _⟩
set_option maxRecDepth 100000 in
set_option maxHeartbeats 4000000 in
theorem el_deep (s : Bytes) (lim : Lim) (hs : s.length ≤ 140737488355327) (hm : lim.may = true) (b p dp : Nat) (E : Int) (x : St) (vo : Value) (w : World) (h : RdRep w b s lim x vo) (hok : D5.Ok s lim x p) (y : St) (hv : R5.want s lim x p = (true, y)) (hi : ¬ lim.i ≤ x.out.length) (ht : tagE (s.getD p 0).toNat = 0) (hin : inner (s.getD p 0).toNat = true) (hd : lim.d ≤ (dp : Int)) :
    Calls Tryd.prog 45 #[.pointer (some ⟨b, 0, none⟩), .int .i64 (p : Nat), .int .i64 (dp : Nat), .int .i64 E] w fun r w' => r = .returned (itemV none) ∧ Did w b s lim (rfoot b vo) (fault y p 10) w' := by
  have hmay := E5.may_of hm
  have hb1 := hmay.2.2.2.2.1
  have hb2 := hmay.2.2.2.2.2.1
  have hp : p ≤ 262144 := by have := hok.pb; omega
  have hsm : s.length ≤ maxLen := by unfold maxLen; omega
  have hol : x.out.length ≤ 1000000 := by have := hok.out; omega
  have hsz : (ByteArray.mk s.toArray).size = s.length := size_S s
  have hwt := want_any b _ p s lim x vo [] w h.rd hsm hb1 hb2 (by unfold maxLen; omega)
  rw [hv] at hwt
  have HW := Px.hid hwt
  have HH := Px.hid h
  have HYO := Px.hid (show y.out = x.out by have := rwant_out s lim x p; rw [hv] at this; exact this)
  have hpl := (rwant_true hv).1
  have ip := idx_S s p hpl
  obtain ⟨t, htt⟩ : ∃ t, t = s.getD p 0 := ⟨_, rfl⟩
  rw [← htt] at ip ht hin
  have hcb : t.toNat < 256 := UInt8.toNat_lt _
  obtain ⟨oa, oc, hov, _⟩ := h.out.len
  have HOV := Px.hid hov
  have HTT := Px.hid htt
  clear hov hwt htt
  have hid2 : decide (lim.i ≤ (x.out.length : Int)) = false := decide_eq_false (by omega)
  have HT := Px.hid ht
  have hbt : ((t.toNat : Int) / 32 % 2 == 1) = true := by
    unfold inner at hin
    rw [beq_iff_eq] at hin ⊢
    omega
  have hdd : decide (lim.d ≤ (dp : Int)) = true := decide_eq_true hd
  clear hv h hok hi hmay hm hs ht hin hd
  go_enter Tryd.func45, Tryd.ntmps45
  go_wp2_with fail
  refine HW.out.mono ?_
  rintro r w1 ⟨rfl, hr, hf⟩
  have HR := Px.hid (show RdRep w1 b s lim y vo ∧ Fr (rfoot b vo) w w1 from ⟨HH.out.step hr hf HYO.out, It.foot hf⟩)
  clear hr hf
  have c2 := HR.out.1.rd.cells.2.2.1
  have c5 := HR.out.1.cell5
  rw [HOV.out] at c5
  go_wp2_with fail
  go_quiet (fail)
  obtain ⟨w2, hw2⟩ : ∃ w2, w2 = w1.drewN nq := ⟨_, rfl⟩
  rw [← hw2]
  have HR2 := Px.hid (show RdRep w2 b s lim y vo ∧ Fr (rfoot b vo) w w2 from by rw [hw2]; exact ⟨HR.out.1.drewN nq, HR.out.2.drewN nq⟩)
  clear hw2 c2 c5 HR
  have c0 := HR2.out.1.rd.cells.1
  go_wp2_with fail
  refine (rtag_any t.toNat hcb _).mono ?_
  rintro r w2x ⟨rfl, hw2x⟩
  subst hw2x
  rw [HT.out]
  have c1 := HR2.out.1.rd.cells.2.1
  go_wp2_with fail
  refine (rfault_any b _ p 10 s lim y vo [] _ HR2.out.1.rd).mono ?_
  rintro r wf ⟨rfl, hr, hf⟩
  have HF := Px.hid (show RdRep wf b s lim (fault y p 10) vo ∧ Fr (rfoot b vo) w wf from ⟨HR2.out.1.step hr hf rfl, Fr.trans HR2.out.2 (It.foot hf) (fun _ _ e => e)⟩)
  clear hr hf
  go_wp2
  go_ret2
  exact ⟨rfl, _, ⟨vo, HF.out.1, rfl⟩, HF.out.2, Fresh.refl _ _⟩
set_option maxRecDepth 100000 in
set_option maxHeartbeats 4000000 in
theorem el_len_t (s : Bytes) (lim : Lim) (hs : s.length ≤ 140737488355327) (hm : lim.may = true) (b p dp : Nat) (E : Int) (x : St) (vo : Value) (w : World) (h : RdRep w b s lim x vo) (hok : D5.Ok s lim x p) (y : St) (hv : R5.want s lim x p = (true, y)) (hi : ¬ lim.i ≤ x.out.length) (ht : tagE (s.getD p 0).toNat = 0) (hin : inner (s.getD p 0).toNat = true) (hd : ¬ lim.d ≤ (dp : Int)) (z : St) (hl : R5.length s lim y (p + 1) = (none, z)) :
    Calls Tryd.prog 45 #[.pointer (some ⟨b, 0, none⟩), .int .i64 (p : Nat), .int .i64 (dp : Nat), .int .i64 E] w fun r w' => r = .returned (itemV none) ∧ Did w b s lim (rfoot b vo) z w' := by
  have hmay := E5.may_of hm
  have hb1 := hmay.2.2.2.2.1
  have hb2 := hmay.2.2.2.2.2.1
  have hp : p ≤ 262144 := by have := hok.pb; omega
  have hsm : s.length ≤ maxLen := by unfold maxLen; omega
  have hol : x.out.length ≤ 1000000 := by have := hok.out; omega
  have hsz : (ByteArray.mk s.toArray).size = s.length := size_S s
  have hwt := want_any b _ p s lim x vo [] w h.rd hsm hb1 hb2 (by unfold maxLen; omega)
  rw [hv] at hwt
  have HW := Px.hid hwt
  have HH := Px.hid h
  have HYO := Px.hid (show y.out = x.out by have := rwant_out s lim x p; rw [hv] at this; exact this)
  have hpl := (rwant_true hv).1
  have ip := idx_S s p hpl
  obtain ⟨t, htt⟩ : ∃ t, t = s.getD p 0 := ⟨_, rfl⟩
  rw [← htt] at ip ht hin
  have hcb : t.toNat < 256 := UInt8.toNat_lt _
  obtain ⟨oa, oc, hov, _⟩ := h.out.len
  have HOV := Px.hid hov
  have HTT := Px.hid htt
  clear hov hwt htt
  have hid2 : decide (lim.i ≤ (x.out.length : Int)) = false := decide_eq_false (by omega)
  have HT := Px.hid ht
  have HL := Px.hid hl
  have HZO := Px.hid (show z.out = y.out by have := rlength_out s lim y (p + 1); rw [hl] at this; exact this)
  have hbt : ((t.toNat : Int) / 32 % 2 == 1) = true := by
    unfold inner at hin
    rw [beq_iff_eq] at hin ⊢
    omega
  have hdd : decide (lim.d ≤ (dp : Int)) = false := decide_eq_false hd
  clear hd
  clear hv h hok hi hmay hm ht hin hl
  go_enter Tryd.func45, Tryd.ntmps45
  go_wp2_with fail
  refine HW.out.mono ?_
  rintro r w1 ⟨rfl, hr, hf⟩
  have HR := Px.hid (show RdRep w1 b s lim y vo ∧ Fr (rfoot b vo) w w1 from ⟨HH.out.step hr hf HYO.out, It.foot hf⟩)
  clear hr hf
  have c2 := HR.out.1.rd.cells.2.2.1
  have c5 := HR.out.1.cell5
  rw [HOV.out] at c5
  go_wp2_with fail
  go_quiet (fail)
  obtain ⟨w2, hw2⟩ : ∃ w2, w2 = w1.drewN nq := ⟨_, rfl⟩
  rw [← hw2]
  have HR2 := Px.hid (show RdRep w2 b s lim y vo ∧ Fr (rfoot b vo) w w2 from by rw [hw2]; exact ⟨HR.out.1.drewN nq, HR.out.2.drewN nq⟩)
  clear hw2 c2 c5 HR
  have c0 := HR2.out.1.rd.cells.1
  go_wp2_with fail
  refine (rtag_any t.toNat hcb _).mono ?_
  rintro r w2x ⟨rfl, hw2x⟩
  subst hw2x
  rw [HT.out]
  have c1 := HR2.out.1.rd.cells.2.1
  have hp1 : ((p + 1 : Nat) : Int) = (p : Int) + 1 := by omega
  have hcl := rlength_any b _ (p + 1) s lim y vo [] w2 HR2.out.1.rd hs hb1 hb2 (by omega)
  rw [hp1] at hcl
  have HCL := Px.hid hcl
  clear hcl hp1
  go_wp2_with fail
  refine HCL.out.mono ?_
  intro r w3 hpost
  unfold RLen at hpost
  rw [HL.out] at hpost
  obtain ⟨rfl, hr, hf⟩ := hpost
  have HR3 := Px.hid (show RdRep w3 b s lim z vo ∧ Fr (rfoot b vo) w w3 from ⟨HR2.out.1.step hr hf HZO.out, Fr.trans HR2.out.2 (It.foot hf) (fun _ _ e => e)⟩)
  clear hr hf c0 c1
  unfold lenV
  go_wp2
  go_ret2
  exact ⟨rfl, _, ⟨vo, HR3.out.1, rfl⟩, HR3.out.2, Fresh.refl _ _⟩
set_option maxRecDepth 100000 in
set_option maxHeartbeats 4000000 in
theorem el_end_t (s : Bytes) (lim : Lim) (hs : s.length ≤ 140737488355327) (hm : lim.may = true) (b p dp : Nat) (E : Int) (x : St) (vo : Value) (w : World) (h : RdRep w b s lim x vo) (hok : D5.Ok s lim x p) (y : St) (hv : R5.want s lim x p = (true, y)) (hi : ¬ lim.i ≤ x.out.length) (ht : tagE (s.getD p 0).toNat = 0) (hin : inner (s.getD p 0).toNat = true) (hd : ¬ lim.d ≤ (dp : Int)) (n q : Nat) (z : St) (hl : R5.length s lim y (p + 1) = (some (n, q), z)) (hqn : q ≤ 262144 ∧ n < 4294967296) (hE : 0 ≤ E) (hv2 : E < (q : Int) + n) :
    Calls Tryd.prog 45 #[.pointer (some ⟨b, 0, none⟩), .int .i64 (p : Nat), .int .i64 (dp : Nat), .int .i64 E] w fun r w' => r = .returned (itemV none) ∧ Did w b s lim (rfoot b vo) (fault z p 9) w' := by
  have hmay := E5.may_of hm
  have hb1 := hmay.2.2.2.2.1
  have hb2 := hmay.2.2.2.2.2.1
  have hp : p ≤ 262144 := by have := hok.pb; omega
  have hsm : s.length ≤ maxLen := by unfold maxLen; omega
  have hol : x.out.length ≤ 1000000 := by have := hok.out; omega
  have hsz : (ByteArray.mk s.toArray).size = s.length := size_S s
  have hwt := want_any b _ p s lim x vo [] w h.rd hsm hb1 hb2 (by unfold maxLen; omega)
  rw [hv] at hwt
  have HW := Px.hid hwt
  have HH := Px.hid h
  have HYO := Px.hid (show y.out = x.out by have := rwant_out s lim x p; rw [hv] at this; exact this)
  have hpl := (rwant_true hv).1
  have ip := idx_S s p hpl
  obtain ⟨t, htt⟩ : ∃ t, t = s.getD p 0 := ⟨_, rfl⟩
  rw [← htt] at ip ht hin
  have hcb : t.toNat < 256 := UInt8.toNat_lt _
  obtain ⟨oa, oc, hov, _⟩ := h.out.len
  have HOV := Px.hid hov
  have HTT := Px.hid htt
  clear hov hwt htt
  have hid2 : decide (lim.i ≤ (x.out.length : Int)) = false := decide_eq_false (by omega)
  have HT := Px.hid ht
  have HL := Px.hid hl
  have HZO := Px.hid (show z.out = y.out by have := rlength_out s lim y (p + 1); rw [hl] at this; exact this)
  have hbt : ((t.toNat : Int) / 32 % 2 == 1) = true := by
    unfold inner at hin
    rw [beq_iff_eq] at hin ⊢
    omega
  have hdd : decide (lim.d ≤ (dp : Int)) = false := decide_eq_false hd
  clear hd
  have hq1 := hqn.1
  have hn1 := hqn.2
  clear hv h hok hi hmay hm ht hin hl hqn
  go_enter Tryd.func45, Tryd.ntmps45
  go_wp2_with fail
  refine HW.out.mono ?_
  rintro r w1 ⟨rfl, hr, hf⟩
  have HR := Px.hid (show RdRep w1 b s lim y vo ∧ Fr (rfoot b vo) w w1 from ⟨HH.out.step hr hf HYO.out, It.foot hf⟩)
  clear hr hf
  have c2 := HR.out.1.rd.cells.2.2.1
  have c5 := HR.out.1.cell5
  rw [HOV.out] at c5
  go_wp2_with fail
  go_quiet (fail)
  obtain ⟨w2, hw2⟩ : ∃ w2, w2 = w1.drewN nq := ⟨_, rfl⟩
  rw [← hw2]
  have HR2 := Px.hid (show RdRep w2 b s lim y vo ∧ Fr (rfoot b vo) w w2 from by rw [hw2]; exact ⟨HR.out.1.drewN nq, HR.out.2.drewN nq⟩)
  clear hw2 c2 c5 HR
  have c0 := HR2.out.1.rd.cells.1
  go_wp2_with fail
  refine (rtag_any t.toNat hcb _).mono ?_
  rintro r w2x ⟨rfl, hw2x⟩
  subst hw2x
  rw [HT.out]
  have c1 := HR2.out.1.rd.cells.2.1
  have hp1 : ((p + 1 : Nat) : Int) = (p : Int) + 1 := by omega
  have hcl := rlength_any b _ (p + 1) s lim y vo [] w2 HR2.out.1.rd hs hb1 hb2 (by omega)
  rw [hp1] at hcl
  have HCL := Px.hid hcl
  clear hcl hp1
  go_wp2_with fail
  refine HCL.out.mono ?_
  intro r w3 hpost
  unfold RLen at hpost
  rw [HL.out] at hpost
  obtain ⟨rfl, hr, hf⟩ := hpost
  have HR3 := Px.hid (show RdRep w3 b s lim z vo ∧ Fr (rfoot b vo) w w3 from ⟨HR2.out.1.step hr hf HZO.out, Fr.trans HR2.out.2 (It.foot hf) (fun _ _ e => e)⟩)
  clear hr hf c0 c1
  unfold lenV
  go_wp2_with fail
  refine (rfault_any b _ p 9 s lim z vo [] _ HR3.out.1.rd).mono ?_
  rintro r wf ⟨rfl, hr, hf⟩
  have HF := Px.hid (show RdRep wf b s lim (fault z p 9) vo ∧ Fr (rfoot b vo) w wf from ⟨HR3.out.1.step hr hf rfl, Fr.trans HR3.out.2 (It.foot hf) (fun _ _ e => e)⟩)
  clear hr hf
  go_wp2
  go_ret2
  exact ⟨rfl, _, ⟨vo, HF.out.1, rfl⟩, HF.out.2, Fresh.refl _ _⟩
set_option maxRecDepth 100000 in
set_option maxHeartbeats 4000000 in
theorem el_len_f (s : Bytes) (lim : Lim) (hs : s.length ≤ 140737488355327) (hm : lim.may = true) (b p dp : Nat) (E : Int) (x : St) (vo : Value) (w : World) (h : RdRep w b s lim x vo) (hok : D5.Ok s lim x p) (y : St) (hv : R5.want s lim x p = (true, y)) (hi : ¬ lim.i ≤ x.out.length) (ht : tagE (s.getD p 0).toNat = 0) (hin : inner (s.getD p 0).toNat = false) (z : St) (hl : R5.length s lim y (p + 1) = (none, z)) :
    Calls Tryd.prog 45 #[.pointer (some ⟨b, 0, none⟩), .int .i64 (p : Nat), .int .i64 (dp : Nat), .int .i64 E] w fun r w' => r = .returned (itemV none) ∧ Did w b s lim (rfoot b vo) z w' := by
  have hmay := E5.may_of hm
  have hb1 := hmay.2.2.2.2.1
  have hb2 := hmay.2.2.2.2.2.1
  have hp : p ≤ 262144 := by have := hok.pb; omega
  have hsm : s.length ≤ maxLen := by unfold maxLen; omega
  have hol : x.out.length ≤ 1000000 := by have := hok.out; omega
  have hsz : (ByteArray.mk s.toArray).size = s.length := size_S s
  have hwt := want_any b _ p s lim x vo [] w h.rd hsm hb1 hb2 (by unfold maxLen; omega)
  rw [hv] at hwt
  have HW := Px.hid hwt
  have HH := Px.hid h
  have HYO := Px.hid (show y.out = x.out by have := rwant_out s lim x p; rw [hv] at this; exact this)
  have hpl := (rwant_true hv).1
  have ip := idx_S s p hpl
  obtain ⟨t, htt⟩ : ∃ t, t = s.getD p 0 := ⟨_, rfl⟩
  rw [← htt] at ip ht hin
  have hcb : t.toNat < 256 := UInt8.toNat_lt _
  obtain ⟨oa, oc, hov, _⟩ := h.out.len
  have HOV := Px.hid hov
  have HTT := Px.hid htt
  clear hov hwt htt
  have hid2 : decide (lim.i ≤ (x.out.length : Int)) = false := decide_eq_false (by omega)
  have HT := Px.hid ht
  have HL := Px.hid hl
  have HZO := Px.hid (show z.out = y.out by have := rlength_out s lim y (p + 1); rw [hl] at this; exact this)
  have hbt : ((t.toNat : Int) / 32 % 2 == 1) = false := by
    unfold inner at hin
    rw [beq_eq_false_iff_ne] at hin ⊢
    omega
  clear hv h hok hi hmay hm ht hin hl
  go_enter Tryd.func45, Tryd.ntmps45
  go_wp2_with fail
  refine HW.out.mono ?_
  rintro r w1 ⟨rfl, hr, hf⟩
  have HR := Px.hid (show RdRep w1 b s lim y vo ∧ Fr (rfoot b vo) w w1 from ⟨HH.out.step hr hf HYO.out, It.foot hf⟩)
  clear hr hf
  have c2 := HR.out.1.rd.cells.2.2.1
  have c5 := HR.out.1.cell5
  rw [HOV.out] at c5
  go_wp2_with fail
  go_quiet (fail)
  obtain ⟨w2, hw2⟩ : ∃ w2, w2 = w1.drewN nq := ⟨_, rfl⟩
  rw [← hw2]
  have HR2 := Px.hid (show RdRep w2 b s lim y vo ∧ Fr (rfoot b vo) w w2 from by rw [hw2]; exact ⟨HR.out.1.drewN nq, HR.out.2.drewN nq⟩)
  clear hw2 c2 c5 HR
  have c0 := HR2.out.1.rd.cells.1
  go_wp2_with fail
  refine (rtag_any t.toNat hcb _).mono ?_
  rintro r w2x ⟨rfl, hw2x⟩
  subst hw2x
  rw [HT.out]
  have c1 := HR2.out.1.rd.cells.2.1
  have hp1 : ((p + 1 : Nat) : Int) = (p : Int) + 1 := by omega
  have hcl := rlength_any b _ (p + 1) s lim y vo [] w2 HR2.out.1.rd hs hb1 hb2 (by omega)
  rw [hp1] at hcl
  have HCL := Px.hid hcl
  clear hcl hp1
  go_wp2_with fail
  refine HCL.out.mono ?_
  intro r w3 hpost
  unfold RLen at hpost
  rw [HL.out] at hpost
  obtain ⟨rfl, hr, hf⟩ := hpost
  have HR3 := Px.hid (show RdRep w3 b s lim z vo ∧ Fr (rfoot b vo) w w3 from ⟨HR2.out.1.step hr hf HZO.out, Fr.trans HR2.out.2 (It.foot hf) (fun _ _ e => e)⟩)
  clear hr hf c0 c1
  unfold lenV
  go_wp2
  go_ret2
  exact ⟨rfl, _, ⟨vo, HR3.out.1, rfl⟩, HR3.out.2, Fresh.refl _ _⟩
set_option maxRecDepth 100000 in
set_option maxHeartbeats 4000000 in
theorem el_end_f (s : Bytes) (lim : Lim) (hs : s.length ≤ 140737488355327) (hm : lim.may = true) (b p dp : Nat) (E : Int) (x : St) (vo : Value) (w : World) (h : RdRep w b s lim x vo) (hok : D5.Ok s lim x p) (y : St) (hv : R5.want s lim x p = (true, y)) (hi : ¬ lim.i ≤ x.out.length) (ht : tagE (s.getD p 0).toNat = 0) (hin : inner (s.getD p 0).toNat = false) (n q : Nat) (z : St) (hl : R5.length s lim y (p + 1) = (some (n, q), z)) (hqn : q ≤ 262144 ∧ n < 4294967296) (hE : 0 ≤ E) (hv2 : E < (q : Int) + n) :
    Calls Tryd.prog 45 #[.pointer (some ⟨b, 0, none⟩), .int .i64 (p : Nat), .int .i64 (dp : Nat), .int .i64 E] w fun r w' => r = .returned (itemV none) ∧ Did w b s lim (rfoot b vo) (fault z p 9) w' := by
  have hmay := E5.may_of hm
  have hb1 := hmay.2.2.2.2.1
  have hb2 := hmay.2.2.2.2.2.1
  have hp : p ≤ 262144 := by have := hok.pb; omega
  have hsm : s.length ≤ maxLen := by unfold maxLen; omega
  have hol : x.out.length ≤ 1000000 := by have := hok.out; omega
  have hsz : (ByteArray.mk s.toArray).size = s.length := size_S s
  have hwt := want_any b _ p s lim x vo [] w h.rd hsm hb1 hb2 (by unfold maxLen; omega)
  rw [hv] at hwt
  have HW := Px.hid hwt
  have HH := Px.hid h
  have HYO := Px.hid (show y.out = x.out by have := rwant_out s lim x p; rw [hv] at this; exact this)
  have hpl := (rwant_true hv).1
  have ip := idx_S s p hpl
  obtain ⟨t, htt⟩ : ∃ t, t = s.getD p 0 := ⟨_, rfl⟩
  rw [← htt] at ip ht hin
  have hcb : t.toNat < 256 := UInt8.toNat_lt _
  obtain ⟨oa, oc, hov, _⟩ := h.out.len
  have HOV := Px.hid hov
  have HTT := Px.hid htt
  clear hov hwt htt
  have hid2 : decide (lim.i ≤ (x.out.length : Int)) = false := decide_eq_false (by omega)
  have HT := Px.hid ht
  have HL := Px.hid hl
  have HZO := Px.hid (show z.out = y.out by have := rlength_out s lim y (p + 1); rw [hl] at this; exact this)
  have hbt : ((t.toNat : Int) / 32 % 2 == 1) = false := by
    unfold inner at hin
    rw [beq_eq_false_iff_ne] at hin ⊢
    omega
  have hq1 := hqn.1
  have hn1 := hqn.2
  clear hv h hok hi hmay hm ht hin hl hqn
  go_enter Tryd.func45, Tryd.ntmps45
  go_wp2_with fail
  refine HW.out.mono ?_
  rintro r w1 ⟨rfl, hr, hf⟩
  have HR := Px.hid (show RdRep w1 b s lim y vo ∧ Fr (rfoot b vo) w w1 from ⟨HH.out.step hr hf HYO.out, It.foot hf⟩)
  clear hr hf
  have c2 := HR.out.1.rd.cells.2.2.1
  have c5 := HR.out.1.cell5
  rw [HOV.out] at c5
  go_wp2_with fail
  go_quiet (fail)
  obtain ⟨w2, hw2⟩ : ∃ w2, w2 = w1.drewN nq := ⟨_, rfl⟩
  rw [← hw2]
  have HR2 := Px.hid (show RdRep w2 b s lim y vo ∧ Fr (rfoot b vo) w w2 from by rw [hw2]; exact ⟨HR.out.1.drewN nq, HR.out.2.drewN nq⟩)
  clear hw2 c2 c5 HR
  have c0 := HR2.out.1.rd.cells.1
  go_wp2_with fail
  refine (rtag_any t.toNat hcb _).mono ?_
  rintro r w2x ⟨rfl, hw2x⟩
  subst hw2x
  rw [HT.out]
  have c1 := HR2.out.1.rd.cells.2.1
  have hp1 : ((p + 1 : Nat) : Int) = (p : Int) + 1 := by omega
  have hcl := rlength_any b _ (p + 1) s lim y vo [] w2 HR2.out.1.rd hs hb1 hb2 (by omega)
  rw [hp1] at hcl
  have HCL := Px.hid hcl
  clear hcl hp1
  go_wp2_with fail
  refine HCL.out.mono ?_
  intro r w3 hpost
  unfold RLen at hpost
  rw [HL.out] at hpost
  obtain ⟨rfl, hr, hf⟩ := hpost
  have HR3 := Px.hid (show RdRep w3 b s lim z vo ∧ Fr (rfoot b vo) w w3 from ⟨HR2.out.1.step hr hf HZO.out, Fr.trans HR2.out.2 (It.foot hf) (fun _ _ e => e)⟩)
  clear hr hf c0 c1
  unfold lenV
  go_wp2_with fail
  refine (rfault_any b _ p 9 s lim z vo [] _ HR3.out.1.rd).mono ?_
  rintro r wf ⟨rfl, hr, hf⟩
  have HF := Px.hid (show RdRep wf b s lim (fault z p 9) vo ∧ Fr (rfoot b vo) w wf from ⟨HR3.out.1.step hr hf rfl, Fr.trans HR3.out.2 (It.foot hf) (fun _ _ e => e)⟩)
  clear hr hf
  go_wp2
  go_ret2
  exact ⟨rfl, _, ⟨vo, HF.out.1, rfl⟩, HF.out.2, Fresh.refl _ _⟩
end Go.Proofs.YtceffhkgnifmeaaDoor
