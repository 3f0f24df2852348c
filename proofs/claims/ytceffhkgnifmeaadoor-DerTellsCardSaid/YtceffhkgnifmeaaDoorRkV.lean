/-
  The walks over the reference's Read and Decode (layer 15).
-/
import Derived.Test.YtceffhkgnifmeaaDoorRjV
import Derived.Test.YtceffhkgnifmeaaDoorDxV
namespace Go.Proofs.YtceffhkgnifmeaaDoor
open Go.RowKit Go.Px Go.Px.R5

theorem Fr.toSame {F : Nat → Prop} {w w' : World} (h : Fr F w w') (hF : ∀ k, F k → w.heap.size ≤ k) : Same w w' :=
  ⟨h.os, h.tape, h.output, h.size, fun k hk _ => h.block k hk (fun e => by have := hF k e; omega)⟩
/-- What Read hands back: a reader of its own. -/
def RDone (w : World) (s : Bytes) (lim : Lim) (y : St) (r : Ending) (w' : World) : Prop :=
  ∃ b vo, r = .returned (.pointer (some ⟨b, 0, none⟩)) ∧ RdRep w' b s lim { y with out := R5.list y } vo ∧ Same w w' ∧ ∀ k, rfoot b vo k → w.heap.size ≤ k
/-- While it is read. -/
structure RIn (w w1 : World) (s : Bytes) (lim : Lim) (y : St) (vo : Value) : Prop where
  rep : RdRep w1 (w.heap.size + 1) s lim y vo
  same : Same w w1
  own : ∀ k, rfoot (w.heap.size + 1) vo k → w.heap.size + 1 ≤ k
theorem RIn.step {w w1 w2 : World} {s : Bytes} {lim : Lim} {y z : St} {vo : Value} (h : RIn w w1 s lim y vo) (hr : Rd w2 (w.heap.size + 1) 75 s lim z vo []) (hf : Fr (It (w.heap.size + 1)) w1 w2) (ho : z.out = y.out) : RIn w w2 s lim z vo :=
  ⟨h.rep.step hr hf ho, Fr.toSame (Fr.trans (h.same.fr (It (w.heap.size + 1))) hf (fun _ _ e => e)) (fun k e => by unfold It at e; omega), h.own⟩
theorem RIn.done {w w1 : World} {s : Bytes} {lim : Lim} {y : St} {vo : Value} (h : RIn w w1 s lim y vo) (he : y.err = 0) : RDone w s lim y (.returned (.pointer (some ⟨w.heap.size + 1, 0, none⟩))) w1 :=
  ⟨_, vo, rfl, by rw [list_ok5 he]; exact h.rep, h.same, fun k hk => by have := h.own k hk; omega⟩
theorem RIn.doneNil {w w1 : World} {s : Bytes} {lim : Lim} {y : St} {vo : Value} (h : RIn w w1 s lim y vo) (he : ¬ y.err = 0) : RDone w s lim y (.returned (.pointer (some ⟨w.heap.size + 1, 0, none⟩))) (w1.setCell ⟨w.heap.size + 1, 5, none⟩ (.slice none 0 0)) := by
  refine ⟨_, .slice none 0 0, rfl, ⟨?_, ?_, fun k hk => by simp [Value.ownBlock] at hk⟩, ?_, ?_⟩
  · rw [list_bad5 he]
    exact h.rep.rd.set 5 _ _ _ _ (by simp [rdCells])
  · rw [list_bad5 he]; exact owns_nil _ _ _ _
  · exact h.same.setCell (p := ⟨w.heap.size + 1, 5, none⟩) (.inr (by simp)) _
  · rintro k (rfl | hk)
    · omega
    · simp [Value.ownBlock] at hk
set_option maxRecDepth 100000 in
set_option maxHeartbeats 4000000 in
theorem read15_any (s : Bytes) (lim : Lim) (w : World) (hm : lim.may = true) (hs : s.length ≤ 140737488355327) :
    Calls Tryd.prog 32 #[S s, limV lim] w (RDone w s lim (R5.read s lim)) := by
  have hmay := E5.may_of hm
  have hb1 := hmay.2.2.2.2.1
  have hb2 := hmay.2.2.2.2.2.1
  have hsm : s.length ≤ maxLen := by unfold maxLen; omega
  have hsz : (ByteArray.mk s.toArray).size = s.length := size_S s
  obtain ⟨RD, hRD⟩ : ∃ RD, RD = R5.read s lim := ⟨_, rfl⟩
  rw [← hRD]
  have HM := Px.hid (And.intro hm (And.intro hs (And.intro hRD (And.intro hsm (And.intro hb1 hb2)))))
  clear hm hs hmay hb1 hb2 hsm hRD
  unfold limV
  go_enter Tryd.func32, Tryd.ntmps32
  go_wp2_with fail
  obtain ⟨WX, hWX⟩ : ∃ WX, WX = ((w.alloc (.cells #[.int .i64 lim.d, .int .i64 lim.i, .int .i64 lim.b, .int .i64 lim.r] 23 (0, 0))).alloc (.cells #[S s, .int .i64 lim.d, .int .i64 lim.i, .int .i64 lim.b, .int .i64 lim.r, .slice none 0 0, .int .i64 0, .int .i64 0, .int .i64 0, .int .i64 0, .bool false] 75 (0, 0))) := ⟨_, rfl⟩
  rw [← hWX]
  have HX := Px.hid (show RIn w WX s lim R5.start (.slice none 0 0) from by
    rw [hWX]
    refine ⟨⟨⟨?_⟩, owns_nil _ _ _ _, fun k hk => by simp [Value.ownBlock] at hk⟩, ((Same.refl w).alloc _).alloc _, ?_⟩
    · show _ = some (Obj.cells #[S s, .int .i64 lim.d, .int .i64 lim.i, .int .i64 lim.b, .int .i64 lim.r, .slice none 0 0, .int .i64 0, .int .i64 0, .int .i64 0, .int .i64 0, .bool false] 75 (0, 0))
      have := heap_alloc_new (w.alloc (.cells #[.int .i64 lim.d, .int .i64 lim.i, .int .i64 lim.b, .int .i64 lim.r] 23 (0, 0))) (.cells #[S s, .int .i64 lim.d, .int .i64 lim.i, .int .i64 lim.b, .int .i64 lim.r, .slice none 0 0, .int .i64 0, .int .i64 0, .int .i64 0, .int .i64 0, .bool false] 75 (0, 0))
      simpa using this
    · rintro k (rfl | hk)
      · omega
      · simp [Value.ownBlock] at hk)
  clear hWX
  have hcall : Calls Tryd.prog 45 #[.pointer (some ⟨w.heap.size + 1, 0, none⟩), .int .i64 0, .int .i64 0, .int .i64 (-1)] WX fun r w' => r = .returned (itemV (R5.elem s lim lim.d.toNat R5.start 0 none).1) ∧ Did WX (w.heap.size + 1) s lim (rfoot (w.heap.size + 1) (.slice none 0 0)) (R5.elem s lim lim.d.toNat R5.start 0 none).2 w' :=
    elem_any s lim HM.out.2.1 HM.out.1 lim.d.toNat (w.heap.size + 1) 0 0 R5.start none _ WX ⟨_, HX.out.rep, rfl⟩ (E5.start_ok HM.out.1) (Nat.le_refl _) (by have := (E5.may_of HM.out.1).1; omega) (fun v hv => by cases hv)
  have HC := Px.hid hcall
  clear hcall
  refine HC.out.mono ?_
  rintro e w1 ⟨rfl, hd⟩
  cases hr : R5.elem s lim lim.d.toNat R5.start 0 none with
  | mk o y =>
    rw [hr] at hd
    obtain ⟨F', ⟨vo, hrp, rfl⟩, hf, hn⟩ := hd
    have HY := Px.hid (show RIn w w1 s lim y vo from by
      refine ⟨hrp, Fr.toSame (Fr.trans (HX.out.same.fr (rfoot (w.heap.size + 1) (.slice none 0 0))) hf (fun _ _ e => e)) (fun k e => by have := HX.out.own k e; omega), fun k hk => ?_⟩
      rcases hn k hk with e | e
      · exact HX.out.own k e
      · have := HX.out.rep.rd.lt; omega)
    clear hrp hf hn HX HC
    cases o with
    | none =>
      have hne : ¬ y.err = 0 := E5.elem_err _ _ _ _ _ _ _ hr
      have HE := Px.hid (And.intro (show RD = y by rw [HM.out.2.2.1]; unfold R5.read; rw [hr]) hne)
      have hneb : (y.err == 0) = false := beq_eq_false_iff_ne.2 hne
      have c6 := HY.out.rep.rd.cells.2.2.2.2.1
      have c5 := HY.out.rep.cell5
      have f5 := HY.out.rep.rd.free 5
      clear hr hne
      unfold itemV
      go_wp2
      go_ret
      rw [HE.out.1]
      exact HY.out.doneNil HE.out.2
    | some q =>
      obtain ⟨l, hsn⟩ := E5.elem_sound s lim lim.d.toNat R5.start y 0 q none (E5.start_ok HM.out.1) hr
      have he0 : y.err = 0 := hsn.err
      have hqs : q ≤ s.length := hsn.ok.ps
      have hqb : (q : Int) ≤ lim.b := hsn.ok.pb
      have hb2 := HM.out.2.2.2.2.2
      clear hsn
      unfold itemV
      by_cases hlt : q < s.length
      · have hltz : (q : Int) < (s.length : Int) := by omega
        have hwt := want_any (w.heap.size + 1) _ q s lim y vo [] w1 HY.out.rep.rd HM.out.2.2.2.1 HM.out.2.2.2.2.1 HM.out.2.2.2.2.2 (by unfold maxLen; omega)
        cases hv : R5.want s lim y q with
        | mk bv z =>
          rw [hv] at hwt
          have hzo : z.out = y.out := by have := rwant_out s lim y q; rw [hv] at this; exact this
          have HW := Px.hid (And.intro hwt hzo)
          cases bv with
          | false =>
            have hne : ¬ z.err = 0 := E5.want_err hv
            have HE := Px.hid (And.intro (show RD = z by rw [HM.out.2.2.1]; unfold R5.read; rw [hr]; simp only; rw [if_pos hlt, hv]) hne)
            have hneb : (z.err == 0) = false := beq_eq_false_iff_ne.2 hne
            clear hr hne hv hwt hzo he0 hlt
            go_wp2_with fail
            refine HW.out.1.mono ?_
            rintro r w2 ⟨rfl, hrd, hf⟩
            have HZ := Px.hid (HY.out.step hrd hf HW.out.2)
            clear hrd hf
            have c6 := HZ.out.rep.rd.cells.2.2.2.2.1
            have c5 := HZ.out.rep.cell5
            have f5 := HZ.out.rep.rd.free 5
            go_wp2
            go_ret
            rw [HE.out.1]
            exact HZ.out.doneNil HE.out.2
          | true =>
            have hne : ¬ (fault z (q : Int) 9).err = 0 := by simp [fault]
            have HE := Px.hid (And.intro (show RD = fault z (q : Int) 9 by rw [HM.out.2.2.1]; unfold R5.read; rw [hr]; simp only; rw [if_pos hlt, hv]) hne)
            clear hr hne hv hwt hzo he0 hlt
            go_wp2_with fail
            refine HW.out.1.mono ?_
            rintro r w2 ⟨rfl, hrd, hf⟩
            have HZ := Px.hid (HY.out.step hrd hf HW.out.2)
            clear hrd hf
            go_wp2_with fail
            refine (rfault_any (w.heap.size + 1) _ q 9 s lim z vo [] _ HZ.out.rep.rd).mono ?_
            rintro r w3 ⟨rfl, hrd, hf⟩
            have HZ2 := Px.hid (HZ.out.step hrd hf rfl)
            clear hrd hf
            have c6 : w3.cell? ⟨w.heap.size + 1, 6, none⟩ = some (.int .i64 9) := HZ2.out.rep.rd.cells.2.2.2.2.1
            have c5 := HZ2.out.rep.cell5
            have f5 := HZ2.out.rep.rd.free 5
            go_wp2
            go_ret
            rw [HE.out.1]
            exact HZ2.out.doneNil HE.out.2
      · have hltz : ¬ (q : Int) < (s.length : Int) := by omega
        have HE := Px.hid (And.intro (show RD = y by rw [HM.out.2.2.1]; unfold R5.read; rw [hr]; simp only; rw [if_neg hlt]) he0)
        have c6 := HY.out.rep.rd.cells.2.2.2.2.1
        rw [he0] at c6
        clear hr he0 hlt
        go_wp2
        go_ret
        rw [HE.out.1]
        exact HY.out.done HE.out.2
set_option maxRecDepth 100000 in
set_option maxHeartbeats 1000000 in
theorem refdecode_any (s : Bytes) (lim : Lim) (hs : s.length ≤ 140737488355327) (w : World) :
    Calls Tryd.prog 15 #[S s, limV lim] w (Gives w (R5.decode s lim)) := by
  have HS := Px.hid hs
  clear hs
  unfold limV
  go_enter Tryd.func15, Tryd.ntmps15
  go_upto_region 1 with fail
  obtain ⟨WX, hWX⟩ : ∃ WX, WX = w.alloc (.cells #[.int .i64 lim.d, .int .i64 lim.i, .int .i64 lim.b, .int .i64 lim.r] 23 (0, 0)) := ⟨_, rfl⟩
  rw [← hWX]
  have HX := Px.hid (show WX.heap[w.heap.size]? = some (.cells #[.int .i64 lim.d, .int .i64 lim.i, .int .i64 lim.b, .int .i64 lim.r] 23 (0, 0)) ∧ Same w WX from by rw [hWX]; exact ⟨heap_alloc_new w _, (Same.refl w).alloc _⟩)
  clear hWX
  have a0 := cellOf HX.out.1 0 rfl
  have a1 := cellOf HX.out.1 1 rfl
  have a2 := cellOf HX.out.1 2 rfl
  have a3 := cellOf HX.out.1 3 rfl
  go_wp2_with fail
  refine (refMay_any lim _).mono ?_
  rintro e w1 ⟨rfl, hsm⟩
  have HL := Px.hid (And.intro ((hsm.block _ (ltOf HX.out.1) (fun x => x)).trans HX.out.1) (HX.out.2.trans hsm))
  clear hsm a0 a1 a2 a3
  have a0 := cellOf HL.out.1 0 rfl
  have a1 := cellOf HL.out.1 1 rfl
  have a2 := cellOf HL.out.1 2 rfl
  have a3 := cellOf HL.out.1 3 rfl
  cases hm : lim.may
  · have HR := Px.hid (E5.decode_no (s := s) hm)
    clear hm
    go_wp2
    go_ret3
    rw [HR.out]
    exact gives_nil rfl HL.out.2
  · have HR := Px.hid (And.intro (E5.decode_yes (s := s) hm) hm)
    clear hm
    go_wp2_with fail
    refine (read15_any s lim _ HR.out.2 HS.out).mono ?_
    rintro e w2 ⟨b, vo, rfl, hrp, hsm, hown⟩
    have HV := Px.hid (And.intro hrp (And.intro (HL.out.2.trans hsm) (fun g hg => Nat.le_trans HL.out.2.size (hown g (.inr hg)))))
    obtain ⟨x, hx⟩ : ∃ x, x = R5.read s lim := ⟨_, rfl⟩
    rw [← hx] at HR HV hrp
    clear hx
    have c6 := hrp.rd.cells.2.2.2.2.1
    have c7 := hrp.rd.cells.2.2.2.2.2.1
    have c5 := hrp.cell5
    simp only at c6 c7
    clear hrp hsm hown a0 a1 a2 a3
    go_wp2_with fail
    go_quiet (fail)
    go_wp2
    go_ret3
    rw [HR.out.1]
    exact ⟨vo, rfl, HV.out.1.out.drewN nq, HV.out.2.1.drewN nq, HV.out.2.2⟩
end Go.Proofs.YtceffhkgnifmeaaDoor
