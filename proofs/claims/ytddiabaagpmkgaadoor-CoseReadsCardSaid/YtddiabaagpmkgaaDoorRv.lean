/-
  The walks over the reference's Read and Same (layer 17) and the statements' read (layer 20).
-/
import Derived.Test.YtddiabaagpmkgaaDoorRi
import Derived.Test.YtddiabaagpmkgaaDoorGcB
import Derived.RegionTactic
import Derived.ChangeAlike
import Derived.BigRegion
namespace Go.Proofs.YtddiabaagpmkgaaDoor
open Go.RowKit Go.Px Go.Px.R7

/-- A reader by value. -/
def rdV (s : Bytes) (lim : Lim) (x : St) : Value :=
  .agg #[S s, .int .i64 lim.d, .int .i64 lim.i, .int .i64 lim.b, .int .i64 lim.r, .slice none 0 0, .int .i64 x.err, .int .i64 x.place, .int .i64 (x.taken : Nat), .int .i64 (x.frames : Nat), .bool x.ended]
theorem Rd.cells2 {w : World} {b T : Nat} {s : Bytes} {lim : Lim} {x : St} {vn : Value} {tl : List Value} (h : Rd w b T s lim x vn tl) :
    w.cell? ⟨b, 4, none⟩ = some (.int .i64 lim.r) ∧ w.cell? ⟨b, 5, none⟩ = some vn := ⟨cellOf h.blk 4 (by simp [rdCells]), cellOf h.blk 5 (by simp [rdCells])⟩
theorem start_rep {w : World} {b : Nat} (s : Bytes) (lim : Lim) (h : w.heap[b]? = some (.cells #[S s, .int .i64 lim.d, .int .i64 lim.i, .int .i64 lim.b, .int .i64 lim.r, .slice none 0 0, .int .i64 0, .int .i64 0, .int .i64 0, .int .i64 0, .bool false, .slice none 0 0] 123 (0, 0))) :
    RdRep w b s lim R7.start (.slice none 0 0) :=
  ⟨⟨h⟩, owns_nil _ _ _ _, fun k hk => by simp [Value.ownBlock] at hk⟩
theorem start_good (s : Bytes) (lim : Lim) (hm : lim.may = true) : Good s lim R7.start 0 lim.d.toNat := by
  have hmay := Cf.may_of hm
  exact ⟨Nat.zero_le _, by omega, rfl, rfl, rfl, by show ((0 + lim.d.toNat : Nat) : Int) = lim.d; omega, by show ((0 : Nat) : Int) ≤ lim.i; omega⟩

def zero68 : Array Value := #[.string ByteArray.empty, .int .i64 0, .int .i64 0, .int .i64 0, .int .i64 0, .slice none 0 0, .int .i64 0, .int .i64 0, .int .i64 0, .int .i64 0, .bool false]
/-- While it is read: the reader and the block of the result are the call's own. -/
def RFin (w w4 : World) (s : Bytes) (lim : Lim) (y : St) : Prop := ∃ vo, RdRep w4 (w.heap.size + 1 + 1) s lim y vo ∧ Same w w4 ∧ w4.heap[w.heap.size + 1]? = some (.cells zero68 92 (0, 0)) ∧ (∀ k, rfoot (w.heap.size + 1 + 1) vo k → w.heap.size + 2 ≤ k)
theorem RFin.did {w w4 w5 : World} {s : Bytes} {lim : Lim} {y z : St} {vo : Value} (_ : RdRep w4 (w.heap.size + 1 + 1) s lim y vo) (h2 : Same w w4) (h3 : w4.heap[w.heap.size + 1]? = some (.cells zero68 92 (0, 0))) (h4 : ∀ k, rfoot (w.heap.size + 1 + 1) vo k → w.heap.size + 2 ≤ k)
    (hd : Did w4 (w.heap.size + 1 + 1) s lim (rfoot (w.heap.size + 1 + 1) vo) z w5) : RFin w w5 s lim z := by
  obtain ⟨F', ⟨vo', k1, rfl⟩, k2, k3⟩ := hd
  have hlt := ltOf h3
  refine ⟨vo', k1, ?_, ?_, ?_⟩
  · exact Fr.toSame ((h2.fr _).trans k2 (fun _ _ x => x)) (fun k hk => by have := h4 k hk; omega)
  · exact (k2.block _ hlt (fun e => by have := h4 _ e; omega)).trans h3
  · intro k hk
    rcases k3 k hk with e | e
    · exact h4 k e
    · omega
theorem RFin.it {w w4 w5 : World} {s : Bytes} {lim : Lim} {y z : St} (h : RFin w w4 s lim y) (hz : z.out = y.out) (hr : ∀ vo, Rd w4 (w.heap.size + 1 + 1) 123 s lim y (.slice none 0 0) [vo] → Rd w5 (w.heap.size + 1 + 1) 123 s lim z (.slice none 0 0) [vo]) (hf : Fr (It (w.heap.size + 1 + 1)) w4 w5) : RFin w w5 s lim z := by
  obtain ⟨vo, h1, h2, h3, h4⟩ := h
  exact RFin.did h1 h2 h3 h4 ⟨_, ⟨vo, h1.step (hr vo h1.rd) hf hz, rfl⟩, It.foot hf, Fresh.refl _ _⟩
theorem RFin.begin (w : World) (s : Bytes) (lim : Lim) : RFin w (((w.alloc (.cells #[.int .i64 lim.d, .int .i64 lim.i, .int .i64 lim.b, .int .i64 lim.r] 23 (0, 0))).alloc (.cells zero68 92 (0, 0))).alloc (.cells #[S s, .int .i64 lim.d, .int .i64 lim.i, .int .i64 lim.b, .int .i64 lim.r, .slice none 0 0, .int .i64 0, .int .i64 0, .int .i64 0, .int .i64 0, .bool false, .slice none 0 0] 123 (0, 0))) s lim R7.start := by
  refine ⟨.slice none 0 0, start_rep s lim ?_, (((Fr.refl _ w).alloc _).alloc _).alloc _, ?_, ?_⟩
  · have := heap_alloc_new ((w.alloc (.cells #[.int .i64 lim.d, .int .i64 lim.i, .int .i64 lim.b, .int .i64 lim.r] 23 (0, 0))).alloc (.cells zero68 92 (0, 0))) (.cells #[S s, .int .i64 lim.d, .int .i64 lim.i, .int .i64 lim.b, .int .i64 lim.r, .slice none 0 0, .int .i64 0, .int .i64 0, .int .i64 0, .int .i64 0, .bool false, .slice none 0 0] 123 (0, 0))
    simpa using this
  · rw [Below.heap_alloc _ _ _ (by simp)]
    have := heap_alloc_new (w.alloc (.cells #[.int .i64 lim.d, .int .i64 lim.i, .int .i64 lim.b, .int .i64 lim.r] 23 (0, 0))) (.cells zero68 92 (0, 0))
    simpa using this
  · rintro k (rfl | hk)
    · omega
    · simp [Value.ownBlock] at hk

theorem chain11 (w : World) (b : Nat) (v0 v1 v2 v3 v4 v5 v6 v7 v8 v9 v10 : Value) : Fr (fun k => k = b) w (((((((((((w.setCell ⟨b, 0, none⟩ v0).setCell ⟨b, 1, none⟩ v1).setCell ⟨b, 2, none⟩ v2).setCell ⟨b, 3, none⟩ v3).setCell ⟨b, 4, none⟩ v4).setCell ⟨b, 5, none⟩ v5).setCell ⟨b, 6, none⟩ v6).setCell ⟨b, 7, none⟩ v7).setCell ⟨b, 8, none⟩ v8).setCell ⟨b, 9, none⟩ v9).setCell ⟨b, 10, none⟩ v10).drew := ((((((((((((Fr.refl (fun k => k = b) w).setCell (p := ⟨b, 0, none⟩) (.inl rfl) v0).setCell (p := ⟨b, 1, none⟩) (.inl rfl) v1).setCell (p := ⟨b, 2, none⟩) (.inl rfl) v2).setCell (p := ⟨b, 3, none⟩) (.inl rfl) v3).setCell (p := ⟨b, 4, none⟩) (.inl rfl) v4).setCell (p := ⟨b, 5, none⟩) (.inl rfl) v5).setCell (p := ⟨b, 6, none⟩) (.inl rfl) v6).setCell (p := ⟨b, 7, none⟩) (.inl rfl) v7).setCell (p := ⟨b, 8, none⟩) (.inl rfl) v8).setCell (p := ⟨b, 9, none⟩) (.inl rfl) v9).setCell (p := ⟨b, 10, none⟩) (.inl rfl) v10).drew
theorem list_bad {x : St} (h : ¬ x.err = 0) : R7.list x = [] := by unfold R7.list; rw [if_neg (by simpa using h)]
theorem list_ok {x : St} (h : x.err = 0) : R7.list x = x.out := by unfold R7.list; rw [if_pos (by simpa using h)]
theorem rfin_same {w w4 w5 : World} (h : Same w w4) (hc : Fr (fun k => k = w.heap.size + 1) w4 w5) : Same w w5 :=
  Fr.toSame ((h.fr (fun k => k = w.heap.size + 1)).trans hc (fun _ _ x => x)) (fun k hk => by omega)
theorem want_frames {s : Bytes} {lim : Lim} {x z : St} {p : Nat} {b : Bool} (h : want s lim x p = (b, z)) : want s lim { x with frames := 0 } p = (b, { z with frames := 0 }) := by
  unfold want at h ⊢
  by_cases h1 : p < s.length ∧ (p : Int) < lim.b
  · rw [if_pos h1] at h ⊢
    simp only [Prod.mk.injEq] at h
    obtain ⟨rfl, rfl⟩ := h
    rfl
  · rw [if_neg h1] at h ⊢
    by_cases h2 : lim.b < s.length
    · rw [if_pos h2] at h ⊢
      simp only [Prod.mk.injEq] at h
      obtain ⟨rfl, rfl⟩ := h
      rfl
    · rw [if_neg h2] at h ⊢
      simp only [Prod.mk.injEq] at h
      obtain ⟨rfl, rfl⟩ := h
      rfl
set_option maxRecDepth 100000 in
set_option maxHeartbeats 4000000 in
theorem read17_any (s : Bytes) (lim : Lim) (w : World) (hm : lim.may = true) (hs : s.length ≤ 140737488355327) :
    Calls Tryd.prog 42 #[S s, limV lim] w fun r w' => ∃ v, r = .returned (.tuple #[v, rdV s lim (R7.read s lim)]) ∧ Owns w' 62 3 cAtom v (list (R7.read s lim)) ∧ Same w w' ∧ (∀ g, v.ownBlock = some g → w.heap.size ≤ g) := by
  have hd : ((lim.d.toNat : Nat) : Int) = lim.d := by have := Cf.may_of hm; omega
  have HM := Px.hid (And.intro hm (And.intro hs hd))
  have hsz : (ByteArray.mk s.toArray).size = s.length := size_S s
  have hsl : s.length ≤ 140737488355327 := hs
  clear hm hs hd
  unfold limV
  go_enter Tryd.func42, Tryd.ntmps42
  go_wp2_with fail
  have HF := Px.hid (RFin.begin w s lim)
  have hi := item_any s lim HM.out.1 HM.out.2.1 lim.d.toNat (w.heap.size + 1 + 1) 0 0 R7.start _ _ ⟨_, HF.out.choose_spec.1, rfl⟩ (start_good s lim HM.out.1) (by rw [Nat.zero_add]; exact HM.out.2.2)
  have HI := Px.hid hi
  clear hi
  refine HI.out.mono ?_
  rintro e w1 ⟨rfl, hd⟩
  have hgood := start_good s lim HM.out.1
  cases hr : R7.item s lim lim.d.toNat R7.start 0 with
  | mk o y =>
    rw [hr] at hd
    have HY := Px.hid (show RFin w w1 s lim y from by
      have hs := HF.out.choose_spec
      exact RFin.did hs.1 hs.2.1 hs.2.2.1 hs.2.2.2 hd)
    have hsim := item_sim (s := s) HM.out.1 lim.d.toNat R7.start 0 _ hgood.sim hgood.out
    rw [hr] at hsim
    clear hd HF HI
    cases o with
    | none =>
      have HE := Px.hid (show R7.read s lim = y by unfold R7.read; rw [hr])
      have hne : ¬ y.err = 0 := hsim.xerr
      have hneb : (y.err == 0) = false := by simpa using hne
      have hneb2 : (y.err != 0) = true := by simpa using hne
      have HN := Px.hid hne
      clear hne hsim hr hgood
      unfold itemV
      obtain ⟨vo, h1, h2, h3, h4⟩ := HY.out
      obtain ⟨c0, c1, c2, c3, c6, c7, c8, c9, c10⟩ := h1.rd.cells
      obtain ⟨c4, c5⟩ := h1.rd.cells2
      have c11 := h1.cell11
      have hz : ∀ i v, zero68[i]? = some v → w1.cell? ⟨w.heap.size + 1, i, none⟩ = some v := fun i v e => cellOf h3 i e
      have z0 := hz 0 _ rfl
      have z1 := hz 1 _ rfl
      have z2 := hz 2 _ rfl
      have z3 := hz 3 _ rfl
      have z4 := hz 4 _ rfl
      have z5 := hz 5 _ rfl
      have z6 := hz 6 _ rfl
      have z7 := hz 7 _ rfl
      have z8 := hz 8 _ rfl
      have z9 := hz 9 _ rfl
      have z10 := hz 10 _ rfl
      have zf : ∀ i, w1.frozen? ⟨w.heap.size + 1, i, none⟩ = false := freeOf h3
      have f0 := zf 0
      have f1 := zf 1
      have f2 := zf 2
      have f3 := zf 3
      have f4 := zf 4
      have f5 := zf 5
      have f6 := zf 6
      have f7 := zf 7
      have f8 := zf 8
      have f9 := zf 9
      have f10 := zf 10
      have HK := Px.hid (And.intro h1 (And.intro h2 (And.intro h3 h4)))
      clear h1 h2 h3 h4 hz zf HY
      go_wp2_with fail
      go_region
      all_goals
        go_wp2
        refine bodyPost_ret (v := .tuple #[.slice none 0 0, rdV s lim y]) (by simp [results, Tryd.results42, go_sem, rdV, z0, z1, z2, z3, z4, z5, z6, z7, z8, z9, z10]) rfl ?_
        rw [HE.out]
        refine ⟨_, rfl, ?_, ?_, fun g hg => by simp [Value.ownBlock] at hg⟩
        · rw [list_bad HN.out]; exact owns_nil _ _ _ _
        · exact rfin_same HK.out.2.1 (chain11 _ _ _ _ _ _ _ _ _ _ _ _ _)
    | some q =>
      obtain ⟨i1, _⟩ := hsim
      have hye := i1.err
      have hqs := i1.qs
      have HI1 := Px.hid i1
      unfold itemV
      by_cases hlt : q < s.length
      · have hltz : (q : Int) < (s.length : Int) := by omega
        have HE := Px.hid (show R7.read s lim = (match want s lim y q with | (true, y) => fault y q 9 | (false, y) => y) by unfold R7.read; rw [hr]; simp only; rw [if_pos hlt]; rfl)
        have hmay := Cf.may_of HM.out.1
        have hml : s.length ≤ maxLen := by unfold maxLen; omega
        have hw0 := fun vo (h : Rd w1 (w.heap.size + 1 + 1) 123 s lim y (.slice none 0 0) [vo]) => want_any (w.heap.size + 1 + 1) _ q s lim y _ _ w1 h hml hmay.2.2.2.2.1 hmay.2.2.2.2.2.1 (Nat.le_trans hqs hml)
        have hzo := want_out s lim y q
        cases hwt : want s lim y q with
        | mk wb z =>
          rw [hwt] at hw0 hzo HE
          cases wb with
          | false =>
            have hne : ¬ z.err = 0 := by
              have h2 := want_no (f := { Cf.init lim with text := s.take q, out := y.out, next := 0 }) (x := { y with frames := 0 }) (p := q) (y := { z with frames := 0 }) (s := s) (lim := lim) ⟨rfl, rfl, i1.qs, i1.qb, rfl, i1.err, i1.taken, rfl, i1.ended⟩ (by simp) (want_frames hwt)
              exact h2.xerr
            have HZO := Px.hid hzo
            have HW := Px.hid hw0
            have hneb : (z.err == 0) = false := by simpa using hne
            have hneb2 : (z.err != 0) = true := by simpa using hne
            have HN := Px.hid hne
            clear hne hr hgood i1 hye hwt hw0 hzo hmay hml hlt
            obtain ⟨vo0, r1, _⟩ := HY.out
            have HRD := Px.hid r1
            clear r1
            go_wp2_with fail
            refine (HW.out vo0 HRD.out.rd).mono ?_
            rintro e w2 ⟨rfl, hrd, hf⟩
            have HY := Px.hid (show RFin w w2 s lim z from by
              obtain ⟨vo1, k1, k2, k3, k4⟩ := HY.out
              have e : vo1 = vo0 := by
                have a := k1.cell11
                have b := HRD.out.cell11
                rw [a] at b
                exact Option.some.inj b
              subst e
              exact RFin.did k1 k2 k3 k4 ⟨_, ⟨vo1, k1.step hrd hf HZO.out, rfl⟩, It.foot hf, Fresh.refl _ _⟩)
            clear hrd hf HRD HW
            obtain ⟨vo, h1, h2, h3, h4⟩ := HY.out
            obtain ⟨c0, c1, c2, c3, c6, c7, c8, c9, c10⟩ := h1.rd.cells
            obtain ⟨c4, c5⟩ := h1.rd.cells2
            have c11 := h1.cell11
            have hz : ∀ i v, zero68[i]? = some v → w2.cell? ⟨w.heap.size + 1, i, none⟩ = some v := fun i v e => cellOf h3 i e
            have z0 := hz 0 _ rfl
            have z1 := hz 1 _ rfl
            have z2 := hz 2 _ rfl
            have z3 := hz 3 _ rfl
            have z4 := hz 4 _ rfl
            have z5 := hz 5 _ rfl
            have z6 := hz 6 _ rfl
            have z7 := hz 7 _ rfl
            have z8 := hz 8 _ rfl
            have z9 := hz 9 _ rfl
            have z10 := hz 10 _ rfl
            have zf : ∀ i, w2.frozen? ⟨w.heap.size + 1, i, none⟩ = false := freeOf h3
            have f0 := zf 0
            have f1 := zf 1
            have f2 := zf 2
            have f3 := zf 3
            have f4 := zf 4
            have f5 := zf 5
            have f6 := zf 6
            have f7 := zf 7
            have f8 := zf 8
            have f9 := zf 9
            have f10 := zf 10
            have HK := Px.hid (And.intro h1 (And.intro h2 (And.intro h3 h4)))
            clear h1 h2 h3 h4 hz zf HY
            go_wp2_with fail
            go_region
            all_goals
              go_wp2
              refine bodyPost_ret (v := .tuple #[.slice none 0 0, rdV s lim z]) (by simp [results, Tryd.results42, go_sem, rdV, z0, z1, z2, z3, z4, z5, z6, z7, z8, z9, z10]) rfl ?_
              rw [HE.out]
              refine ⟨_, rfl, ?_, ?_, fun g hg => by simp [Value.ownBlock] at hg⟩
              · rw [list_bad HN.out]; exact owns_nil _ _ _ _
              · exact rfin_same HK.out.2.1 (chain11 _ _ _ _ _ _ _ _ _ _ _ _ _)
          | true =>
            have HZO := Px.hid hzo
            have HW := Px.hid hw0
            have HN := Px.hid (show ¬ (fault z (q : Int) 9).err = 0 by simp [fault])
            clear hr hgood i1 hye hwt hw0 hzo hmay hml hlt
            obtain ⟨vo0, r1, _⟩ := HY.out
            have HRD := Px.hid r1
            clear r1
            go_wp2_with fail
            refine (HW.out vo0 HRD.out.rd).mono ?_
            rintro e w2 ⟨rfl, hrd, hf⟩
            have HRD2 := Px.hid (And.intro hrd hf)
            clear hrd hf
            go_wp2_with fail
            refine (xfault_any (w.heap.size + 1 + 1) _ q 9 s lim z _ _ w2 HRD2.out.1).mono ?_
            rintro e w3 ⟨rfl, hrd, hf⟩
            have HY := Px.hid (show RFin w w3 s lim (fault z (q : Int) 9) from by
              obtain ⟨vo1, k1, k2, k3, k4⟩ := HY.out
              have e : vo1 = vo0 := by
                have a := k1.cell11
                have b := HRD.out.cell11
                rw [a] at b
                exact Option.some.inj b
              subst e
              exact RFin.did k1 k2 k3 k4 ⟨_, ⟨vo1, (k1.step HRD2.out.1 HRD2.out.2 HZO.out).step hrd hf rfl, rfl⟩, It.foot (HRD2.out.2.trans hf (fun _ _ h => h)), Fresh.refl _ _⟩)
            clear hrd hf HRD HW HRD2
            obtain ⟨vo, h1, h2, h3, h4⟩ := HY.out
            obtain ⟨c0, c1, c2, c3, c6, c7, c8, c9, c10⟩ := h1.rd.cells
            obtain ⟨c4, c5⟩ := h1.rd.cells2
            have c11 := h1.cell11
            have hz : ∀ i v, zero68[i]? = some v → w3.cell? ⟨w.heap.size + 1, i, none⟩ = some v := fun i v e => cellOf h3 i e
            have z0 := hz 0 _ rfl
            have z1 := hz 1 _ rfl
            have z2 := hz 2 _ rfl
            have z3 := hz 3 _ rfl
            have z4 := hz 4 _ rfl
            have z5 := hz 5 _ rfl
            have z6 := hz 6 _ rfl
            have z7 := hz 7 _ rfl
            have z8 := hz 8 _ rfl
            have z9 := hz 9 _ rfl
            have z10 := hz 10 _ rfl
            have zf : ∀ i, w3.frozen? ⟨w.heap.size + 1, i, none⟩ = false := freeOf h3
            have f0 := zf 0
            have f1 := zf 1
            have f2 := zf 2
            have f3 := zf 3
            have f4 := zf 4
            have f5 := zf 5
            have f6 := zf 6
            have f7 := zf 7
            have f8 := zf 8
            have f9 := zf 9
            have f10 := zf 10
            have HK := Px.hid (And.intro h1 (And.intro h2 (And.intro h3 h4)))
            clear h1 h2 h3 h4 hz zf HY
            go_wp2_with fail
            go_region
            all_goals
              go_wp2
              refine bodyPost_ret (v := .tuple #[.slice none 0 0, rdV s lim (fault z (q : Int) 9)]) (by simp [results, Tryd.results42, go_sem, rdV, z0, z1, z2, z3, z4, z5, z6, z7, z8, z9, z10]) rfl ?_
              rw [HE.out]
              refine ⟨_, rfl, ?_, ?_, fun g hg => by simp [Value.ownBlock] at hg⟩
              · rw [list_bad HN.out]; exact owns_nil _ _ _ _
              · exact rfin_same HK.out.2.1 (chain11 _ _ _ _ _ _ _ _ _ _ _ _ _)
      · have hltz : ¬ (q : Int) < (s.length : Int) := by omega
        have HE := Px.hid (show R7.read s lim = y by unfold R7.read; rw [hr]; simp only; rw [if_neg hlt])
        have hneb : (y.err == 0) = true := by simpa using hye
        have hneb2 : (y.err != 0) = false := by simp [hye]
        have HN := Px.hid hye
        clear hye hr hgood i1 hlt
        obtain ⟨vo, h1, h2, h3, h4⟩ := HY.out
        obtain ⟨c0, c1, c2, c3, c6, c7, c8, c9, c10⟩ := h1.rd.cells
        obtain ⟨c4, c5⟩ := h1.rd.cells2
        have c11 := h1.cell11
        have hz : ∀ i v, zero68[i]? = some v → w1.cell? ⟨w.heap.size + 1, i, none⟩ = some v := fun i v e => cellOf h3 i e
        have z0 := hz 0 _ rfl
        have z1 := hz 1 _ rfl
        have z2 := hz 2 _ rfl
        have z3 := hz 3 _ rfl
        have z4 := hz 4 _ rfl
        have z5 := hz 5 _ rfl
        have z6 := hz 6 _ rfl
        have z7 := hz 7 _ rfl
        have z8 := hz 8 _ rfl
        have z9 := hz 9 _ rfl
        have z10 := hz 10 _ rfl
        have zf : ∀ i, w1.frozen? ⟨w.heap.size + 1, i, none⟩ = false := freeOf h3
        have f0 := zf 0
        have f1 := zf 1
        have f2 := zf 2
        have f3 := zf 3
        have f4 := zf 4
        have f5 := zf 5
        have f6 := zf 6
        have f7 := zf 7
        have f8 := zf 8
        have f9 := zf 9
        have f10 := zf 10
        have HK := Px.hid (And.intro h1 (And.intro h2 (And.intro h3 h4)))
        clear h1 h2 h3 h4 hz zf HY
        go_wp2_with fail
        go_region
        all_goals
          go_wp2
          refine bodyPost_ret (v := .tuple #[vo, rdV s lim y]) (by simp [results, Tryd.results42, go_sem, rdV, z0, z1, z2, z3, z4, z5, z6, z7, z8, z9, z10]) rfl ?_
          rw [HE.out]
          refine ⟨_, rfl, ?_, ?_, fun g hg => by have := HK.out.2.2.2 g (.inr hg); omega⟩
          · rw [list_ok HN.out]; exact HK.out.1.out.fr (F := fun k => k = w.heap.size + 1) (chain11 _ _ _ _ _ _ _ _ _ _ _ _ _) (fun k hk e => by have := HK.out.2.2.2 k (.inr hk); omega)
          · exact rfin_same HK.out.2.1 (chain11 _ _ _ _ _ _ _ _ _ _ _ _ _)
end Go.Proofs.YtddiabaagpmkgaaDoor
