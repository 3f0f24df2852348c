/-
  Several texts in one: The walk over the statement JsonLimits (printed by gen_lu.py).
-/
import Derived.Test.YtahojodgmjmpnaaDoorVT
/-! The walk over the statement JsonLimits (printed by gen_lu.py). -/
namespace Go.Proofs.YtahojodgmjmpnaaDoor
open Go.RowKit Go.Px

/-- What was there stands, the tables, and a list of the call's own. -/
structure Kp (w wx : World) (b : Nat) (lim : Lim) (vl : Value) (L : List Val) : Prop where
  on : On w wx b lim
  list : Owns wx 58 3 cVal vl L
theorem Kp.sm {w wx wy : World} {b : Nat} {lim : Lim} {vl : Value} {L : List Val} (h : Kp w wx b lim vl L) (hs : Same wx wy) : Kp w wy b lim vl L := ⟨h.on.sm hs, Owns.same h.list hs⟩
def great (lim more : Lim) : Lim := ⟨max lim.d more.d, max lim.i more.i, max lim.b more.b, max lim.r more.r⟩
def justL (lim : Lim) (n m : Nat) : Lim := ⟨lim.d, n, m, 1⟩
def fewL (lim : Lim) (n m : Nat) : Lim := ⟨lim.d, (n : Int) - 1, m, 1⟩
structure LimFacts (s : Bytes) (lim more : Lim) : Prop where
  great : (great lim more).may = true → R6.decode s (great lim more) = ((R6.decode s lim).1, 0, 0)
  just : R6.decode s (justL lim (R6.decode s lim).1.length s.length) = ((R6.decode s lim).1, 0, 0)
  few : (1 : Int) ≤ ((R6.decode s lim).1.length : Int) - 1 → (R6.decode s (fewL lim (R6.decode s lim).1.length s.length)).2.2 = 10
  len : (R6.decode s lim).1.length ≤ 4096 ∧ s.length ≤ 262144
theorem move0 {s : Bytes} {lim lim' : Lim} {l : List Val} {p : Int} (hm : lim.may = true) (hm' : lim'.may = true) (hd : lim.d ≤ lim'.d) (hi : (l.length : Int) ≤ lim'.i) (hb : (s.length : Int) ≤ lim'.b) (h : R6.decode s lim = (l, p, 0)) : R6.decode s lim' = (l, 0, 0) := by
  have := D6.move (a := []) (b := []) hm hm' hd hi (by simpa using hb) (by simp) (by simp) h
  simpa using this
theorem limFacts {s : Bytes} {lim more : Lim} (h : (R6.decode s lim).2.2 = 0) : LimFacts s lim more := by
  obtain ⟨hm, hz⟩ := decode_zero h
  have hmay := J6.may_of hm
  obtain ⟨q, z, q2, y, m, h1, h2, h3, h4, h5, h6, h7, h8, h9, h10⟩ := D6.decode_inv hm hz
  have hbs := D6.decode_bytes hm hz
  obtain ⟨v, t, e1, e2, e3, e4⟩ := E6.value_right lim.d.toNat z q q2 y h3
  rw [h2, List.nil_append, h4] at e1
  have hpos := e2.pos
  rw [← e1] at hpos
  obtain ⟨D, hD⟩ : ∃ D, (R6.decode s lim).1 = D := ⟨_, rfl⟩
  have hpl : 1 ≤ s.length := by omega
  rw [hD] at hz h9 hpos
  have hj : (justL lim D.length s.length).may = true := by
    unfold Lim.may at hm ⊢
    unfold justL
    simp only [Bool.and_eq_true, decide_eq_true_eq] at hm ⊢
    omega
  refine ⟨fun hg => ?_, ?_, fun hf => ?_, ?_⟩
  · rw [hD]
    exact move0 hm hg (Int.le_max_left _ _) (Int.le_trans h9 (Int.le_max_left _ _)) (Int.le_trans hbs (Int.le_max_left _ _)) hz
  · rw [hD]
    exact move0 hm hj (Int.le_refl _) (Int.le_refl _) (Int.le_refl _) hz
  · rw [hD] at hf ⊢
    have hfm : (fewL lim D.length s.length).may = true := by
      unfold Lim.may at hm ⊢
      unfold fewL
      simp only [Bool.and_eq_true, decide_eq_true_eq] at hm ⊢
      omega
    exact D6.fewer hm hfm (Int.le_refl _) (by show (D.length : Int) - 1 < D.length; omega) (Int.le_refl _) hz
  · rw [hD]
    exact ⟨by omega, by omega⟩
theorem lim_cells {w : World} {b : Nat} {l : Lim} (h : w.heap[b]? = some (limObj l)) : w.cell? ⟨b, 0, none⟩ = some (.int .i64 l.d) ∧ w.cell? ⟨b, 1, none⟩ = some (.int .i64 l.i) ∧ w.cell? ⟨b, 2, none⟩ = some (.int .i64 l.b) ∧ w.cell? ⟨b, 3, none⟩ = some (.int .i64 l.r) :=
  ⟨cellOf h 0 rfl, cellOf h 1 rfl, cellOf h 2 rfl, cellOf h 3 rfl⟩
set_option maxRecDepth 100000 in
set_option maxHeartbeats 4000000 in
theorem law_JsonLimits (s : Bytes) (lim more : Lim) (w : World) (hs0 : s.length ≤ 140737488351232) (hT : Tabs w) :
    Calls Tryd.prog 7 #[S s, limV lim, limV more] w fun e w' => e = .returned (.bool true) ∧ Below w.heap.size w w' := by
  have hs : s.length ≤ 140737488355327 := by omega
  clear hs0
  have HS := Px.hid (And.intro hs True.intro)
  have hsz : (ByteArray.mk s.toArray).size = s.length := size_S s
  have hsl : s.length ≤ 140737488355327 := hs
  have HO0 := On.boxed lim hT
  have HO := Px.hid (show On w ((w.alloc (.cells #[.int .i64 lim.d, .int .i64 lim.i, .int .i64 lim.b, .int .i64 lim.r] 23 (0, 0))).alloc (.cells #[.int .i64 more.d, .int .i64 more.i, .int .i64 more.b, .int .i64 more.r] 23 (0, 0))) w.heap.size lim ∧ ((w.alloc (.cells #[.int .i64 lim.d, .int .i64 lim.i, .int .i64 lim.b, .int .i64 lim.r] 23 (0, 0))).alloc (.cells #[.int .i64 more.d, .int .i64 more.i, .int .i64 more.b, .int .i64 more.r] 23 (0, 0))).heap[w.heap.size + 1]? = some (limObj more) from
    ⟨HO0.sm ((Same.refl _).alloc _), by
      rw [show w.heap.size + 1 = (w.alloc (.cells #[.int .i64 lim.d, .int .i64 lim.i, .int .i64 lim.b, .int .i64 lim.r] 23 (0, 0))).heap.size by simp]
      exact heap_alloc_new _ _⟩)
  clear hs hT HO0
  unfold limV
  go_enter Tryd.func7, Tryd.ntmps7
  go_wp2_with fail
  refine (wakes16_any _ HO.out.1.tabs).mono ?_
  rintro e w1 ⟨rfl, hs⟩
  have HO := Px.hid (And.intro (HO.out.1.sm hs) ((hs.block _ (ltOf HO.out.2) (fun x => x)).trans HO.out.2))
  clear hs
  obtain ⟨c0, c1, c2, c3⟩ := HO.out.1.lim.cells
  go_wp2_with fail
  refine (jdecode_any s lim (by have := HS.out.1; omega) _).mono ?_
  intro e w2 hg
  obtain ⟨a, c, rfl, ho, hs⟩ := hg.len
  have HM := Px.hid ((hs.block _ (ltOf HO.out.2) (fun x => x)).trans HO.out.2)
  have HK := Px.hid (show Kp w w2 w.heap.size lim (.slice a (R6.decode s lim).1.length c) (R6.decode s lim).1 from ⟨HO.out.1.sm hs, ho⟩)
  clear hs hg ho c0 c1 c2 c3 HO
  by_cases he : (R6.decode s lim).2.2 = 0
  · have HF := Px.hid (limFacts (more := more) he)
    rw [he]
    obtain ⟨D, hD⟩ : ∃ D, D = R6.decode s lim := ⟨_, rfl⟩
    have hDl : D.1.length ≤ 4096 := by rw [hD]; exact HF.out.len.1
    have hsl2 : s.length ≤ 262144 := HF.out.len.2
    have HFF := Px.hid (And.intro HF.out.great (And.intro HF.out.just HF.out.few))
    rw [← hD] at HFF HK ⊢
    clear hD he HF
    obtain ⟨c0, c1, c2, c3⟩ := HK.out.on.lim.cells
    obtain ⟨d0, d1, d2, d3⟩ := lim_cells HM.out
    go_upto_region 7 with fail
    have HB := Px.hid (show (w2.alloc (.cells #[.int .i64 (max lim.d more.d), .int .i64 (max lim.i more.i), .int .i64 (max lim.b more.b), .int .i64 (max lim.r more.r)] 23 (0, 0))).heap[w2.heap.size]? = some (limObj (great lim more)) from heap_alloc_new _ _)
    have HK := Px.hid (HK.out.sm ((Same.refl w2).alloc (.cells #[.int .i64 (max lim.d more.d), .int .i64 (max lim.i more.i), .int .i64 (max lim.b more.b), .int .i64 (max lim.r more.r)] 23 (0, 0))))
    clear c0 c1 c2 c3 d0 d1 d2 d3
    obtain ⟨d0, d1, d2, d3⟩ := lim_cells HB.out
    go_wp2_with fail
    refine (refMay_any (great lim more) _).mono ?_
    rintro e w3 ⟨rfl, hs⟩
    have HB := Px.hid ((hs.block _ (ltOf HB.out) (fun x => x)).trans HB.out)
    have HK := Px.hid (HK.out.sm hs)
    clear hs d0 d1 d2 d3
    go_upto_if 57 with fail
    go_cut [] (fun wx => Kp w wx w.heap.size lim (.slice a D.1.length c) D.1)
    case first =>
      cases hmg : (great lim more).may
      · clear hmg
        go_wp2_with fail
        go_meet
        exact HK.out
      · have HMG := Px.hid hmg
        clear hmg
        obtain ⟨d0, d1, d2, d3⟩ := lim_cells HB.out
        go_wp2_with fail
        refine (jdecode_any s (great lim more) (by have := HS.out.1; omega) _).mono ?_
        intro e w4 hg
        obtain ⟨a2, c2, rfl, ho, hs⟩ := hg.len
        rw [HFF.out.1 HMG.out] at ho ⊢
        have HA := Px.hid ho
        have HK := Px.hid (HK.out.sm hs)
        clear hg ho hs d0 d1 d2 d3
        go_wp2_with fail
        refine (same_lies _ _ _ _ (HK.out.list.lies cVal_len) (HA.out.lies cVal_len)).mono ?_
        rintro e w5 ⟨rfl, hs⟩
        have HK := Px.hid (HK.out.sm hs)
        clear hs
        go_wp2_with fail
        go_meet
        exact HK.out
    case rest =>
      have HK := Px.hid hcut
      clear hcut HB
      obtain ⟨c0, c1, c2, c3⟩ := HK.out.on.lim.cells
      go_upto_region 12 with fail
      obtain ⟨J, hJ⟩ : ∃ J, J = wc.heap.size := ⟨_, rfl⟩
      obtain ⟨WJ, hWJ⟩ : ∃ WJ, WJ = wc.alloc (.cells #[.int .i64 lim.d, .int .i64 (D.1.length : Nat), .int .i64 (s.length : Nat), .int .i64 1] 23 (0, 0)) := ⟨_, rfl⟩
      have HB := Px.hid (show WJ.heap[J]? = some (limObj (justL lim D.1.length s.length)) ∧ Same wc WJ ∧ wc.heap.size ≤ J from by rw [hWJ, hJ]; exact ⟨heap_alloc_new _ _, (Same.refl wc).alloc _, Nat.le_refl _⟩)
      rw [← hJ, ← hWJ]
      clear c0 c1 c2 c3 hJ hWJ
      obtain ⟨d0, d1, d2, d3⟩ := lim_cells HB.out.1
      go_wp2_with fail
      refine (jdecode_any s (justL lim D.1.length s.length) (by have := HS.out.1; omega) _).mono ?_
      rintro e w4 ⟨vo, rfl, ho, hs, hfr⟩
      rw [HFF.out.2.1] at ho ⊢
      obtain ⟨a2, c2, hv, _⟩ := ho.len
      subst hv
      have hb4 := (hs.block _ (ltOf HB.out.1) (fun x => x)).trans HB.out.1
      have HJ4 := Px.hid (And.intro hb4 (And.intro (HB.out.2.1.trans hs) ho))
      have HJN := Px.hid (show (Value.slice a2 D.1.length c2).ownBlock ≠ some J from fun e => by have := hfr J e; have := ltOf HB.out.1; omega)
      have f1 := freeOf hb4 1
      have hJ4 := ltOf hb4
      clear d0 d1 d2 d3
      obtain ⟨d0, d1, d2, d3⟩ := lim_cells hb4
      unfold justL at d0 d1 d2 d3
      clear ho hs hfr hb4
      go_upto_region 14 with fail
      obtain ⟨W6, hW6⟩ : ∃ W6, W6 = w4.setCell ⟨J, 1, none⟩ (.int .i64 ((D.1.length : Int) - 1)) := ⟨_, rfl⟩
      have HB6 := Px.hid (show W6.heap[J]? = some (limObj (fewL lim D.1.length s.length)) from by rw [hW6, heap_setCell_same w4 J 1 _ _ _ HJ4.out.1]; rfl)
      have HS6 := Px.hid (show Same wc W6 from by rw [hW6]; exact HJ4.out.2.1.setCell (p := ⟨J, 1, none⟩) (.inr HB.out.2.2) _)
      have HA := Px.hid (show Owns W6 58 3 cVal (.slice a2 D.1.length c2) D.1 from by rw [hW6]; exact HJ4.out.2.2.setCell (p := ⟨J, 1, none⟩) HJN.out _)
      have HK := Px.hid (HK.out.sm HS6.out)
      rw [← hW6]
      clear hW6 d0 d1 d2 d3 f1 hJ4
      obtain ⟨d0, d1, d2, d3⟩ := lim_cells HB6.out
      go_wp2_with fail
      refine (jdecode_any s (fewL lim D.1.length s.length) (by have := HS.out.1; omega) _).mono ?_
      intro e w7 hg
      obtain ⟨a3, c3, rfl, _, hs⟩ := hg.len
      have HB7 := Px.hid ((hs.block _ (ltOf HB6.out) (fun x => x)).trans HB6.out)
      have HK := Px.hid (HK.out.sm hs)
      have HA := Px.hid (Owns.same HA.out hs)
      clear hg hs d0 d1 d2 d3
      obtain ⟨ef, hef⟩ : ∃ ef, ef = R6.decode s (fewL lim D.1.length s.length) := ⟨_, rfl⟩
      have HE1 := Px.hid (HFF.out.2.2)
      rw [← hef] at HE1 ⊢
      clear hef
      go_wp2_with fail
      refine (same_lies _ _ _ _ (HK.out.list.lies cVal_len) (HA.out.lies cVal_len)).mono ?_
      rintro e w8 ⟨rfl, hs⟩
      have HB8 := Px.hid ((hs.block _ (ltOf HB7.out) (fun x => x)).trans HB7.out)
      have HK := Px.hid (HK.out.sm hs)
      clear hs
      obtain ⟨d0, d1, d2, d3⟩ := lim_cells HB8.out
      unfold fewL at d0 d1 d2 d3
      by_cases hf : (D.1.length : Int) - 1 < 1
      · go_wp2
        go_ret
        exact ⟨rfl, HK.out.on.lim.1.below⟩
      · have h0 := HE1.out (by omega)
        rw [h0]
        clear h0
        go_wp2
        go_ret
        exact ⟨rfl, HK.out.on.lim.1.below⟩
  · have hnl := decode_nil he
    rw [hnl]
    have hb : ((R6.decode s lim).2.2 != 0) = true := by simpa using he
    have HB := Px.hid HK.out.on.lim.1
    clear he hnl HK
    obtain ⟨d, hd⟩ : ∃ d, d = R6.decode s lim := ⟨_, rfl⟩
    rw [← hd] at hb ⊢
    clear hd
    go_wp2
    go_ret
    exact ⟨rfl, HB.out.below⟩
end Go.Proofs.YtahojodgmjmpnaaDoor
