/-
  Several texts in one: The walks over the statements DerLimits and DerCut.
-/
import Derived.Test.YtceffhkgnifmeaaDoorMT
/-! The walks over the statements DerLimits and DerCut. -/
namespace Go.Proofs.YtceffhkgnifmeaaDoor
open Go.RowKit Go.Px Go.Px.R5

/-- What was there stands, the tables, and a list of the call's own. -/
structure Kp (w wx : World) (b : Nat) (lim : Lim) (vl : Value) (L : List Px.Node) : Prop where
  on : On w wx b lim
  list : Owns wx 63 3 cNode vl L
theorem Kp.sm {w wx wy : World} {b : Nat} {lim : Lim} {vl : Value} {L : List Px.Node} (h : Kp w wx b lim vl L) (hs : Same wx wy) : Kp w wy b lim vl L := ⟨h.on.sm hs, Owns.same h.list hs⟩
def great (lim more : Lim) : Lim := ⟨max lim.d more.d, max lim.i more.i, max lim.b more.b, max lim.r more.r⟩
def justL (lim : Lim) (n m : Nat) : Lim := ⟨lim.d, n, m, 1⟩
def fewL (lim : Lim) (n m : Nat) : Lim := ⟨lim.d, (n : Int) - 1, m, 1⟩
def lessL (lim : Lim) (n m : Nat) : Lim := ⟨lim.d, n, (m : Int) - 1, 1⟩
structure LimFacts (s : Bytes) (lim more : Lim) : Prop where
  great : (great lim more).may = true → R5.decode s (great lim more) = ((R5.decode s lim).1, 0, 0)
  just : R5.decode s (justL lim (R5.decode s lim).1.length s.length) = ((R5.decode s lim).1, 0, 0)
  few : (1 : Int) ≤ ((R5.decode s lim).1.length : Int) - 1 → (R5.decode s (fewL lim (R5.decode s lim).1.length s.length)).2.2 = 10
  less : (1 : Int) ≤ (s.length : Int) - 1 → (R5.decode s (lessL lim (R5.decode s lim).1.length s.length)).2.2 = 10 ∧ (R5.decode s (lessL lim (R5.decode s lim).1.length s.length)).2.1 = (s.length : Int) - 1
theorem limFacts {s : Bytes} {lim more : Lim} (h : (R5.decode s lim).2.2 = 0) : LimFacts s lim more := by
  obtain ⟨hm, _, h1, h4, h5, _⟩ := E5.decode_sound h
  obtain ⟨m1, m2, m3, m4, m5, m6, m7, m8⟩ := E5.may_of hm
  have hj := E5.decode_just h 1 (by omega) (by omega)
  have hjm : (⟨lim.d, ((R5.decode s lim).1.length : Nat), (s.length : Nat), 1⟩ : Lim).may = true := by
    have := (E5.decode_sound (s := s) (lim := ⟨lim.d, ((R5.decode s lim).1.length : Nat), (s.length : Nat), 1⟩) (by rw [hj])).1
    exact this
  refine ⟨fun hg => ?_, hj, fun hf => ?_, fun hl => ?_⟩
  · exact E5.decode_more h hg (Int.le_max_left _ _) (Int.le_max_left _ _) (Int.le_max_left _ _)
  · refine E5.decode_few (lim := ⟨lim.d, ((R5.decode s lim).1.length : Nat), (s.length : Nat), 1⟩) (by rw [hj]) ?_ rfl ?_ (Int.le_refl _)
    · unfold fewL Lim.may at *
      simp only [Bool.and_eq_true, decide_eq_true_eq] at hjm ⊢
      omega
    · rw [hj]
      show ((R5.decode s lim).1.length : Int) - 1 < ((R5.decode s lim).1.length : Int)
      omega
  · refine E5.decode_less (lim := ⟨lim.d, ((R5.decode s lim).1.length : Nat), (s.length : Nat), 1⟩) (by rw [hj]) ?_ rfl rfl ?_
    · unfold lessL Lim.may at *
      simp only [Bool.and_eq_true, decide_eq_true_eq] at hjm ⊢
      omega
    · show (s.length : Int) - 1 < (s.length : Int)
      omega
/-- Two blocks that hold limits of the call's own. -/
structure Two (W wx : World) (bf bl : Nat) (lf ll : Lim) : Prop where
  same : Same W wx
  few : wx.heap[bf]? = some (limObj lf)
  less : wx.heap[bl]? = some (limObj ll)
  ne : bf ≠ bl
  nf : W.heap.size ≤ bf
  nl : W.heap.size ≤ bl
theorem Two.sm {W wx wy : World} {bf bl : Nat} {lf ll : Lim} (h : Two W wx bf bl lf ll) (hs : Same wx wy) : Two W wy bf bl lf ll :=
  ⟨h.same.trans hs, (hs.block _ (ltOf h.few) (fun x => x)).trans h.few, (hs.block _ (ltOf h.less) (fun x => x)).trans h.less, h.ne, h.nf, h.nl⟩
theorem lim_cells {w : World} {b : Nat} {l : Lim} (h : w.heap[b]? = some (limObj l)) : w.cell? ⟨b, 0, none⟩ = some (.int .i64 l.d) ∧ w.cell? ⟨b, 1, none⟩ = some (.int .i64 l.i) ∧ w.cell? ⟨b, 2, none⟩ = some (.int .i64 l.b) ∧ w.cell? ⟨b, 3, none⟩ = some (.int .i64 l.r) :=
  ⟨cellOf h 0 rfl, cellOf h 1 rfl, cellOf h 2 rfl, cellOf h 3 rfl⟩
theorem two_alloc (w : World) (l : Lim) : Two w ((w.alloc (limObj l)).alloc (limObj l)).drew w.heap.size (w.heap.size + 1) l l := by
  have h2 : ((w.alloc (limObj l)).alloc (limObj l)).heap[w.heap.size + 1]? = some (limObj l) := by
    rw [show w.heap.size + 1 = (w.alloc (limObj l)).heap.size by simp]
    exact heap_alloc_new _ _
  refine ⟨(((Same.refl w).alloc _).alloc _).drew, ?_, h2, by omega, by omega, by omega⟩
  exact (Below.heap_alloc (w.alloc (limObj l)) (limObj l) _ (by simp)).trans (heap_alloc_new w _)
theorem two_swap {W wx : World} {bf bl : Nat} {lf ll : Lim} (h : Two W wx bf bl lf ll) : Two W wx bl bf ll lf := ⟨h.same, h.less, h.few, fun e => h.ne e.symm, h.nl, h.nf⟩
theorem Two.setF {W wx : World} {bf bl : Nat} {lf ll : Lim} (h : Two W wx bf bl lf ll) (v : Int) : Two W (wx.setCell ⟨bf, 1, none⟩ (.int .i64 v)) bf bl { lf with i := v } ll :=
  ⟨h.same.setCell (p := ⟨bf, 1, none⟩) (.inr h.nf) _, by rw [heap_setCell_same wx bf 1 _ _ _ h.few]; rfl, by rw [heap_setCell_other _ _ _ _ (fun e => h.ne e.symm)]; exact h.less, h.ne, h.nf, h.nl⟩
theorem Two.setL {W wx : World} {bf bl : Nat} {lf ll : Lim} (h : Two W wx bf bl lf ll) (v : Int) : Two W (wx.setCell ⟨bl, 2, none⟩ (.int .i64 v)) bf bl lf { ll with b := v } :=
  ⟨h.same.setCell (p := ⟨bl, 2, none⟩) (.inr h.nl) _, by rw [heap_setCell_other _ _ _ _ (fun e => h.ne e)]; exact h.few, by rw [heap_setCell_same wx bl 2 _ _ _ h.less]; rfl, h.ne, h.nf, h.nl⟩
set_option maxRecDepth 100000 in
set_option maxHeartbeats 4000000 in
theorem law_DerLimits (s : Bytes) (lim more : Lim) (w : World) (hs0 : s.length ≤ 140737488351232) (hT : Tabs w) :
    Calls Tryd.prog 7 #[S s, limV lim, limV more] w fun e w' => e = .returned (.bool true) ∧ Below w.heap.size w w' := by
  have hs : s.length ≤ 140737488355327 := by omega
  clear hs0
  have HS := Px.hid (And.intro hs True.intro)
  have hsz : (ByteArray.mk s.toArray).size = s.length := size_S s
  have hsl : s.length ≤ 140737488355327 := hs
  have HO0 := On.boxed lim hT
  have HO := Px.hid (show On w ((w.alloc (.cells #[.int .i64 lim.d, .int .i64 lim.i, .int .i64 lim.b, .int .i64 lim.r] 23 (0, 0))).alloc (.cells #[.int .i64 more.d, .int .i64 more.i, .int .i64 more.b, .int .i64 more.r] 23 (0, 0))) w.heap.size lim ∧ ((w.alloc (.cells #[.int .i64 lim.d, .int .i64 lim.i, .int .i64 lim.b, .int .i64 lim.r] 23 (0, 0))).alloc (.cells #[.int .i64 more.d, .int .i64 more.i, .int .i64 more.b, .int .i64 more.r] 23 (0, 0))).heap[w.heap.size + 1]? = some (limObj more) from
    ⟨HO0.sm ((Same.refl _).alloc _), by
      rw [show w.heap.size + 1 = (w.alloc (.cells #[.int .i64 lim.d, .int .i64 lim.i, .int .i64 lim.b, .int .i64 lim.r] 23 (0, 0))).heap.size by simp]
      exact heap_alloc_new _ _⟩)
  clear hs hT HO0
  unfold limV
  go_enter Tryd.func7, Tryd.ntmps7
  go_wp2_with fail
  refine (wakes15_any _ HO.out.1.tabs).mono ?_
  rintro e w1 ⟨rfl, hs⟩
  have HO := Px.hid (And.intro (HO.out.1.sm hs) ((hs.block _ (ltOf HO.out.2) (fun x => x)).trans HO.out.2))
  clear hs
  obtain ⟨c0, c1, c2, c3⟩ := HO.out.1.lim.cells
  go_wp2_with fail
  refine (decode_any s lim HS.out.1 _ HO.out.1.tabs).mono ?_
  intro e w2 hg
  obtain ⟨a, c, rfl, ho, hs⟩ := hg.len
  have HM := Px.hid ((hs.block _ (ltOf HO.out.2) (fun x => x)).trans HO.out.2)
  have HK := Px.hid (show Kp w w2 w.heap.size lim (.slice a (R5.decode s lim).1.length c) (R5.decode s lim).1 from ⟨HO.out.1.sm hs, ho⟩)
  clear hs hg ho c0 c1 c2 c3 HO
  by_cases he : (R5.decode s lim).2.2 = 0
  · have HF := Px.hid (limFacts (more := more) he)
    have hmay := (E5.decode_sound he).1
    have hi4 := (E5.decode_sound he).2.2.2.1
    have hb4 := (E5.decode_sound he).2.2.2.2.1
    have m4 := (E5.may_of hmay).2.2.2.1
    have m6 := (E5.may_of hmay).2.2.2.2.2.1
    rw [he]
    obtain ⟨D, hD⟩ : ∃ D, D = R5.decode s lim := ⟨_, rfl⟩
    have hDl : D.1.length ≤ 4096 := by rw [hD]; omega
    have hsl2 : s.length ≤ 262144 := by omega
    have HFF := Px.hid (And.intro HF.out.great (And.intro HF.out.just (And.intro HF.out.few HF.out.less)))
    rw [← hD] at HFF HK ⊢
    clear hD he hmay hi4 hb4 m4 m6 HF
    obtain ⟨c0, c1, c2, c3⟩ := HK.out.on.lim.cells
    obtain ⟨d0, d1, d2, d3⟩ := lim_cells HM.out
    go_upto_region 7 with fail
    have HB := Px.hid (show (w2.alloc (.cells #[.int .i64 (max lim.d more.d), .int .i64 (max lim.i more.i), .int .i64 (max lim.b more.b), .int .i64 (max lim.r more.r)] 23 (0, 0))).heap[w2.heap.size]? = some (limObj (great lim more)) from heap_alloc_new _ _)
    have HK := Px.hid (HK.out.sm ((Same.refl w2).alloc (.cells #[.int .i64 (max lim.d more.d), .int .i64 (max lim.i more.i), .int .i64 (max lim.b more.b), .int .i64 (max lim.r more.r)] 23 (0, 0))))
    clear c0 c1 c2 c3 d0 d1 d2 d3
    obtain ⟨d0, d1, d2, d3⟩ := lim_cells HB.out
    go_wp2_with fail
    refine (derMay_any (great lim more) _).mono ?_
    rintro e w3 ⟨rfl, hs⟩
    have HB := Px.hid ((hs.block _ (ltOf HB.out) (fun x => x)).trans HB.out)
    have HK := Px.hid (HK.out.sm hs)
    clear hs d0 d1 d2 d3
    go_upto_if 62 with fail
    go_cut [] (fun wx => Kp w wx w.heap.size lim (.slice a D.1.length c) D.1)
    case first =>
      cases hmg : (great lim more).may
      · clear hmg
        go_wp2_with fail
        go_meet
        exact HK.out
      · have HMG := Px.hid hmg
        clear hmg
        obtain ⟨d0, d1, d2, d3⟩ := lim_cells HB.out
        go_wp2_with fail
        refine (decode_any s (great lim more) HS.out.1 _ HK.out.on.tabs).mono ?_
        intro e w4 hg
        obtain ⟨a2, c2, rfl, ho, hs⟩ := hg.len
        rw [HFF.out.1 HMG.out] at ho ⊢
        have HA := Px.hid ho
        have HK := Px.hid (HK.out.sm hs)
        clear hg ho hs d0 d1 d2 d3
        go_wp2_with fail
        refine (same_any _ _ _ _ HK.out.list HA.out).mono ?_
        rintro e w5 ⟨rfl, hs⟩
        have HK := Px.hid (HK.out.sm hs)
        clear hs
        go_wp2_with fail
        go_meet
        exact HK.out
    case rest =>
      have HK := Px.hid hcut
      clear hcut HB
      obtain ⟨c0, c1, c2, c3⟩ := HK.out.on.lim.cells
      go_upto_region 12 with fail
      obtain ⟨J, hJ⟩ : ∃ J, J = wc.heap.size := ⟨_, rfl⟩
      have HB := Px.hid (show (wc.alloc (.cells #[.int .i64 lim.d, .int .i64 (D.1.length : Nat), .int .i64 (s.length : Nat), .int .i64 1] 23 (0, 0))).heap[J]? = some (limObj (justL lim D.1.length s.length)) from by rw [hJ]; exact heap_alloc_new _ _)
      have HK := Px.hid (HK.out.sm ((Same.refl wc).alloc (.cells #[.int .i64 lim.d, .int .i64 (D.1.length : Nat), .int .i64 (s.length : Nat), .int .i64 1] 23 (0, 0))))
      rw [← hJ]
      clear c0 c1 c2 c3 hJ
      obtain ⟨d0, d1, d2, d3⟩ := lim_cells HB.out
      go_wp2_with fail
      refine (decode_any s (justL lim D.1.length s.length) HS.out.1 _ HK.out.on.tabs).mono ?_
      intro e w4 hg
      obtain ⟨a2, c2, rfl, ho, hs⟩ := hg.len
      rw [HFF.out.2.1] at ho ⊢
      have HA := Px.hid ho
      have HB := Px.hid ((hs.block _ (ltOf HB.out) (fun x => x)).trans HB.out)
      have HK := Px.hid (HK.out.sm hs)
      clear hg ho hs d0 d1 d2 d3
      go_wp2_with fail
      refine (same_any _ _ _ _ HK.out.list HA.out).mono ?_
      rintro e w5 ⟨rfl, hs⟩
      have HB := Px.hid ((hs.block _ (ltOf HB.out) (fun x => x)).trans HB.out)
      have HA := Px.hid (Owns.same HA.out hs)
      have HK := Px.hid (HK.out.sm hs)
      clear hs
      obtain ⟨d0, d1, d2, d3⟩ := lim_cells HB.out
      have hJl := ltOf HB.out
      go_upto_region 15 with fail
      go_cut [18, 19] (fun t18 t19 wx => ∃ bf bl : Nat, t18 = .pointer (some ⟨bf, 0, none⟩) ∧ t19 = .pointer (some ⟨bl, 0, none⟩) ∧ Two w5 wx bf bl (justL lim D.1.length s.length) (justL lim D.1.length s.length))
      case first =>
        go_region
        all_goals
          go_wp2_with fail
          go_meet
          first
            | exact ⟨_, _, rfl, rfl, two_alloc w5 (justL lim D.1.length s.length)⟩
            | exact ⟨_, _, rfl, rfl, two_swap (two_alloc w5 (justL lim D.1.length s.length))⟩
      case rest =>
        obtain ⟨bf, bl, rfl, rfl, htw⟩ := hcut
        have htw2 := (htw.setF ((D.1.length : Int) - 1)).setL ((s.length : Int) - 1)
        obtain ⟨e0, e1, e2, e3⟩ := lim_cells htw.few
        obtain ⟨g0, g1, g2, g3⟩ := lim_cells htw.less
        have k1 := freeOf htw.few 1
        have k2 := freeOf htw.less 2
        have l1 := ltOf htw.few
        have l2 := ltOf htw.less
        have hne := htw.ne
        have HTW := Px.hid htw2
        clear htw htw2 d0 d1 d2 d3 HB hJl
        unfold justL at e0 e1 e2 e3 g0 g1 g2 g3
        go_upto_region 18 with fail
        obtain ⟨W6, hW6⟩ : ∃ W6, W6 = ((wc.setCell ⟨bf, 1, none⟩ (.int .i64 ((D.1.length : Int) - 1))).setCell ⟨bl, 2, none⟩ (.int .i64 ((s.length : Int) - 1))) := ⟨_, rfl⟩
        rw [← hW6] at HTW ⊢
        clear hW6 e0 e1 e2 e3 g0 g1 g2 g3 k1 k2 l1 l2
        have HK := Px.hid (HK.out.sm HTW.out.same)
        have HA := Px.hid (Owns.same HA.out HTW.out.same)
        have HTW := Px.hid (show Two w5 W6 bf bl (fewL lim D.1.length s.length) (lessL lim D.1.length s.length) from HTW.out)
        obtain ⟨e0, e1, e2, e3⟩ := lim_cells HTW.out.few
        go_wp2_with fail
        refine (decode_any s (fewL lim D.1.length s.length) HS.out.1 _ HK.out.on.tabs).mono ?_
        intro e w7 hg
        obtain ⟨a3, c3, rfl, _, hs⟩ := hg.len
        have HTW := Px.hid (HTW.out.sm hs)
        have HK := Px.hid (HK.out.sm hs)
        have HA := Px.hid (Owns.same HA.out hs)
        clear hg hs e0 e1 e2 e3
        obtain ⟨ef, hef⟩ : ∃ ef, ef = R5.decode s (fewL lim D.1.length s.length) := ⟨_, rfl⟩
        have HE1 := Px.hid (HFF.out.2.2.1)
        rw [← hef] at HE1 ⊢
        clear hef
        obtain ⟨g0, g1, g2, g3⟩ := lim_cells HTW.out.less
        go_wp2_with fail
        refine (decode_any s (lessL lim D.1.length s.length) HS.out.1 _ HK.out.on.tabs).mono ?_
        intro e w8 hg
        obtain ⟨a4, c4, rfl, _, hs⟩ := hg.len
        have HTW := Px.hid (HTW.out.sm hs)
        have HK := Px.hid (HK.out.sm hs)
        have HA := Px.hid (Owns.same HA.out hs)
        clear hg hs g0 g1 g2 g3
        obtain ⟨el, hel⟩ : ∃ el, el = R5.decode s (lessL lim D.1.length s.length) := ⟨_, rfl⟩
        have HE2 := Px.hid (HFF.out.2.2.2)
        rw [← hel] at HE2 ⊢
        clear hel
        obtain ⟨e0, e1, e2, e3⟩ := lim_cells HTW.out.few
        obtain ⟨g0, g1, g2, g3⟩ := lim_cells HTW.out.less
        unfold fewL at e0 e1 e2 e3
        unfold lessL at g0 g1 g2 g3
        by_cases hf : (D.1.length : Int) - 1 < 1
        · by_cases hl : (s.length : Int) - 1 < 1
          · go_wp2
            go_ret
            exact ⟨rfl, HK.out.on.lim.1.below⟩
          · have h1 := (HE2.out (by omega)).1
            have h2 := (HE2.out (by omega)).2
            rw [h1, h2]
            clear h1 h2
            go_wp2
            go_ret
            exact ⟨rfl, HK.out.on.lim.1.below⟩
        · have h0 := HE1.out (by omega)
          rw [h0]
          clear h0
          by_cases hl : (s.length : Int) - 1 < 1
          · go_wp2
            go_ret
            exact ⟨rfl, HK.out.on.lim.1.below⟩
          · have h1 := (HE2.out (by omega)).1
            have h2 := (HE2.out (by omega)).2
            rw [h1, h2]
            clear h1 h2
            go_wp2
            go_ret
            exact ⟨rfl, HK.out.on.lim.1.below⟩
  · have hnl := E5.decode_nil he
    rw [hnl]
    have hb : ((R5.decode s lim).2.2 != 0) = true := by simpa using he
    have HB := Px.hid HK.out.on.lim.1
    clear he hnl HK
    obtain ⟨d, hd⟩ : ∃ d, d = R5.decode s lim := ⟨_, rfl⟩
    rw [← hd] at hb ⊢
    clear hd
    go_wp2
    go_ret
    exact ⟨rfl, HB.out.below⟩
end Go.Proofs.YtceffhkgnifmeaaDoor
