/-
  Several texts in one: The walk over the reference's told (layer 16): a value that holds others. The walk over the reference's Encode (layer 16), and the law JsonTells.
-/
import Derived.Test.YtahojodgmjmpnaaDoorTX
import Derived.Test.YtahojodgmjmpnaaDoorTT
/-! The walk over the reference's told (layer 16): a value that holds others. -/
namespace Go.Proofs.YtahojodgmjmpnaaDoor
open Go.RowKit Go.Px

theorem cat_b (x y : Bytes) : (⟨x.toArray⟩ : ByteArray) ++ ⟨y.toArray⟩ = ⟨(x ++ y).toArray⟩ := by
  apply ByteArray.ext
  simp
/-- How far the telling of what one holds has come. -/
structure TSt (w0 w wr : World) (b : Nat) (va : Value) (k d : Nat) (x r : List Val) (u : Bytes) (L : List Val) (ob : Bool) (n q : Nat) (a : Val) (i : Nat) (s : Bytes) : Prop where
  same : Same w0 wr
  fr : Fr (It b) w wr
  own : wr.heap[q]? = some (.cells #[.int .i64 a.kind, .int .i64 (n : Nat), S a.text] 58 (0, 0))
  st : (∃ y rest br nm o dp, x = y ++ rest ∧ u = s ++ br ∧ E6.Kids (E6.ItF d) ob (n - i) i nm rest br o ∧ Tel wr b va (k + 1 + y.length) dp false false ∧ L.drop (k + 1 + y.length) = rest ++ r) ∨
    (∃ q' dp, Tel wr b va q' dp false true ∧ 262144 < u.length ∧ s.length ≤ u.length)
/-- How the telling of what one holds ends. -/
def TEnd (wr : World) (b : Nat) (va : Value) (k : Nat) (x : List Val) (u : Bytes) (n i : Nat) (s : Bytes) : Prop :=
  ∃ q dp lg, Tel wr b va q dp false lg ∧ (i < n → lg = true) ∧ ((lg = false ∧ s = u ∧ q = k + 1 + x.length) ∨ (lg = true ∧ 262144 < u.length ∧ s.length ≤ u.length))
theorem TSt.ends {w0 w wr : World} {b : Nat} {va : Value} {k d : Nat} {x r : List Val} {u : Bytes} {L : List Val} {ob : Bool} {n q : Nat} {a : Val} {i : Nat} {s : Bytes} (h : TSt w0 w wr b va k d x r u L ob n q a i s) (hi : i ≤ n) : TEnd wr b va k x u n i s ∨ (i < n ∧ ∃ y rest br nm o dp, x = y ++ rest ∧ u = s ++ br ∧ E6.Kids (E6.ItF d) ob (n - i) i nm rest br o ∧ Tel wr b va (k + 1 + y.length) dp false false ∧ L.drop (k + 1 + y.length) = rest ++ r) := by
  rcases h.st with ⟨y, rest, br, nm, o, dp, e1, e2, hk, ht, ed⟩ | ⟨q', dp, ht, h1, h2⟩
  · by_cases hlt : i < n
    · exact .inr ⟨hlt, y, rest, br, nm, o, dp, e1, e2, hk, ht, ed⟩
    · rw [show n - i = 0 by omega] at hk
      obtain ⟨rfl, rfl, rfl⟩ := hk
      exact .inl ⟨_, dp, false, ht, fun h => absurd h hlt, .inl ⟨rfl, by rw [e2, List.append_nil], by rw [e1, List.append_nil]⟩⟩
  · exact .inl ⟨q', dp, true, ht, fun _ => rfl, .inr ⟨rfl, h1, h2⟩⟩
set_option maxRecDepth 100000 in
set_option maxHeartbeats 16000000 in
theorem told_node (w0 : World) (b xb xo cap : Nat) (L : List Val) (hL : Lst w0 b xb xo L) (d : Nat) (a : Val) (hI : ToldC w0 b xb xo cap L d)
    (w : World) (k dep dp : Nat) (x r : List Val) (u : Bytes) (o : Bool) (ht : Tel w b (.slice (some ⟨xb, xo, none⟩) L.length cap) k dp false false) (hs : Same w0 w) (hr : E6.right a = true) (h5 : 5 ≤ a.kind) (hk : E6.Kids (E6.ItF d) (a.kind == 6) a.kids.toNat 0 [] x u o) (hd : L.drop k = a :: (x ++ r)) (hB : u.length ≤ 2000000) (hdep : dep + (d + 1) ≤ 10000) :
    Calls Tryd.prog 29 #[.pointer (some ⟨b, 0, none⟩), .int .i64 (dep : Nat)] w (ToldP w0 w b (.slice (some ⟨xb, xo, none⟩) L.length cap) k (a :: x) (E6.opn a :: u ++ [E6.cls a.kind])) := by
  obtain ⟨hkl, hget, hdrop⟩ := drop_head6 hd
  have hcx := hL.cell k a hget
  have hxb := hL.lt
  have hx0 := hcx 0 _ rfl
  have hx1 := hcx 1 _ rfl
  have hx2 := hcx 2 _ rfl
  rw [← Nat.add_assoc] at hx0 hx1 hx2
  rw [Nat.add_zero] at hx0
  have x0 := (hs.cell (p := ⟨xb, xo + k * 3, none⟩) hxb (fun x => x)).trans hx0
  have x1 := (hs.cell (p := ⟨xb, xo + k * 3 + 1, none⟩) hxb (fun x => x)).trans hx1
  have x2 := (hs.cell (p := ⟨xb, xo + k * 3 + 2, none⟩) hxb (fun x => x)).trans hx2
  obtain ⟨t0, t1, t2, t3, t4⟩ := ht.cells
  have hlen := hL.len
  have hklz : (k : Int) < (L.length : Int) := by omega
  have hge : decide ((L.length : Int) ≤ (k : Int)) = false := decide_eq_false (by omega)
  have HH := Px.hid (And.intro ht (And.intro hs hL.le))
  have hkd := (E6.right_kids hr).1 h5
  have hnn : a.kids = ((a.kids.toNat : Nat) : Int) := by have := (E6.right_kids hr).2; omega
  have hn4 : a.kids.toNat ≤ 4096 := by
    have h1 := E6.kids_le6 (fun _ _ _ h => E6.ItF.pos h) _ hk
    have h2 := congrArg List.length hd
    simp only [List.length_drop, List.length_append, List.length_cons] at h2
    omega
  obtain ⟨n, hn⟩ : ∃ n, n = a.kids.toNat := ⟨_, rfl⟩
  rw [← hn] at hk hn4 hnn
  rw [hnn] at x1
  obtain ⟨OB, hOB⟩ : ∃ OB, OB = (a.kind == 6) := ⟨_, rfl⟩
  rw [← hOB] at hk
  have HK := Px.hid (And.intro hk (And.intro hdrop (And.intro hI hOB)))
  have hbb := ltOf ht.blk
  have hf1 := freeOf ht.blk 1
  clear ht hs hd hget hdrop hcx hx0 hx1 hx2 hr h5 hL hk hI hOB hn
  go_enter Tryd.func29, Tryd.ntmps29
  go_wp2_with fail
  go_quiet (fail)
  go_upto_region 4 with fail
  obtain ⟨W1, hW1⟩ : ∃ W1, W1 = w.drewN nq := ⟨_, rfl⟩
  rw [← hW1]
  have hs1 : Same w W1 := by rw [hW1]; exact (Same.refl w).drewN nq
  have H1 := Px.hid (And.intro hs1 (HH.out.1.sm hs1))
  replace x0 := (hs1.cell (p := ⟨xb, xo + k * 3, none⟩) (Nat.lt_of_lt_of_le hxb HH.out.2.1.size) (fun x => x)).trans x0
  replace x1 := (hs1.cell (p := ⟨xb, xo + k * 3 + 1, none⟩) (Nat.lt_of_lt_of_le hxb HH.out.2.1.size) (fun x => x)).trans x1
  replace x2 := (hs1.cell (p := ⟨xb, xo + k * 3 + 2, none⟩) (Nat.lt_of_lt_of_le hxb HH.out.2.1.size) (fun x => x)).trans x2
  obtain ⟨t0, t1, t2, t3, t4⟩ := H1.out.2.cells
  have hxb1 : xb < W1.heap.size := Nat.lt_of_lt_of_le hxb (HH.out.2.1.trans hs1).size
  have hbb1 := ltOf H1.out.2.blk
  clear hs1 hW1 hbb hf1
  go_cut [5] (fun t5 wx => ∃ q, t5 = .pointer (some ⟨q, 0, none⟩) ∧ wx.heap[q]? = some (.cells #[.int .i64 a.kind, .int .i64 (n : Nat), S a.text] 58 (0, 0)) ∧ W1.heap.size ≤ q ∧ Same W1 wx)
  case first =>
    go_region
    all_goals
      go_wp2_with fail
      go_meet
      exact ⟨_, rfl, heap_alloc_new W1 _, Nat.le_refl _, ((Same.refl W1).alloc _).drew⟩
  case rest =>
    obtain ⟨q, rfl, hbq, hq, hsq⟩ := hcut
    have hqb : q ≠ b := by omega
    have HT := Px.hid (H1.out.2.sm hsq)
    have hk1 := HT.out.cells.2.1
    have hf1 := freeOf HT.out.blk 1
    have hbc := ltOf HT.out.blk
    have hw1 : IntKind.i64.wrap ((k : Int) + 1) = (k : Int) + 1 := IntWalk.i64_in _ ⟨by omega, by omega⟩
    have hcast : ((k + 1 : Nat) : Int) = (k : Int) + 1 := by omega
    have HQ := Px.hid (And.intro hbq hsq)
    clear x0 x1 x2 t0 t1 t2 t3 t4 hbq hsq hbb1 hxb1 hnn
    go_upto_region 6 with fail
    obtain ⟨W3, hW3⟩ : ∃ W3, W3 = wc.setCell ⟨b, 1, none⟩ (.int .i64 ((k : Int) + 1)) := ⟨_, rfl⟩
    rw [← hW3]
    have htel := HT.out.setAt (k + 1)
    rw [hcast, ← hW3] at htel
    have hb3 : W3.heap[q]? = some (.cells #[.int .i64 a.kind, .int .i64 (n : Nat), S a.text] 58 (0, 0)) := by rw [hW3, heap_setCell_other wc _ q _ (fun e => hqb e)]; exact HQ.out.1
    have hsm : Same w0 W3 := by rw [hW3]; exact ((HH.out.2.1.trans H1.out.1).trans HQ.out.2).setCell (p := ⟨b, 1, none⟩) (.inr HH.out.2.2) _
    have hfr : Fr (It b) w W3 := by rw [hW3]; exact Fr.trans ((H1.out.1.trans HQ.out.2).fr (It b)) (It.set _) (fun _ _ e => e)
    have HW := Px.hid (And.intro htel (And.intro hsm (And.intro hfr hb3)))
    have y0 := cellOf hb3 0 rfl
    have t2 := htel.cells.2.2.1
    have hf2 := freeOf htel.blk 2
    have hbc := ltOf htel.blk
    have z0 : (a.kind == 0) = false := by simp; omega
    have z1 : (a.kind == 1) = false := by simp; omega
    have z2 : (a.kind == 2) = false := by simp; omega
    have z3 : (a.kind == 3) = false := by simp; omega
    have z4 : (a.kind == 4) = false := by simp; omega
    have hdw : IntKind.i64.wrap ((dep : Int) + 1) = (dep : Int) + 1 := IntWalk.i64_in _ ⟨by omega, by omega⟩
    clear htel hsm hfr hb3 hW3 hk1 hf1 hcast HT HQ
    go_upto_if 67 with fail
    go_cut [] (fun wx => ∃ dp', Tel wx b (.slice (some ⟨xb, xo, none⟩) L.length cap) (k + 1) dp' false false ∧ Same w0 wx ∧ Fr (It b) w wx ∧ wx.heap[q]? = some (.cells #[.int .i64 a.kind, .int .i64 (n : Nat), S a.text] 58 (0, 0)))
    case first =>
      by_cases hdd : dp < dep + 1
      · have hdz : (dp : Int) < (dep : Int) + 1 := by omega
        have hcast : ((dep + 1 : Nat) : Int) = (dep : Int) + 1 := by omega
        have HC2 := Px.hid (HW.out.1.setDeep (dep + 1))
        rw [hcast] at HC2
        clear hdd hcast
        go_wp2_with fail
        go_meet
        exact ⟨dep + 1, by first | exact HC2.out | (rw [show ((dep + 1 : Nat) : Int) = (dep : Int) + 1 by omega]; exact HC2.out), HW.out.2.1.setCell (p := ⟨b, 2, none⟩) (.inr HH.out.2.2) _, Fr.trans HW.out.2.2.1 (It.set _) (fun _ _ e => e), by rw [heap_setCell_other W3 _ q _ (fun e => hqb e)]; exact HW.out.2.2.2⟩
      · have hdz : ¬ (dp : Int) < (dep : Int) + 1 := by omega
        clear hdd
        go_wp2_with fail
        go_meet
        exact ⟨dp, HW.out.1, HW.out.2.1, HW.out.2.2.1, HW.out.2.2.2⟩
    case rest =>
      obtain ⟨dp', htel, hsm, hfr, hb3⟩ := hcut
      have HT := Px.hid (show TSt w0 w wc b (.slice (some ⟨xb, xo, none⟩) L.length cap) k d x r u L OB n q a 0 [] from
        ⟨hsm, hfr, hb3, .inl ⟨[], x, u, [], o, dp', rfl, rfl, HK.out.1, htel, HK.out.2.1⟩⟩)
      clear htel hsm hfr hb3 HW y0 t2 hf2 hbc z0 z1 z2 z3 z4
      go_wp2
      go_loopg [6, 7] (n + 1) (fun gk t6 t7 wr => ∃ (i : Nat) (s : Bytes), gk + i = n + 1 ∧ i ≤ n ∧ t6 = S s ∧ t7 = .int .i64 (i : Nat) ∧ Hid (TSt w0 w wr b (.slice (some ⟨xb, xo, none⟩) L.length cap) k d x r u L OB n q a i s))
      case atStart => exact ⟨0, [], rfl, Nat.zero_le _, rfl, rfl, HT.out⟩
      case round =>
        clear HT
        obtain ⟨i, s, hgk, hi, rfl, rfl, HQ⟩ := hrel
        have HG := Px.hid hgk
        clear hgk
        have y0 := cellOf HQ.out.own 0 rfl
        have y1 := cellOf HQ.out.own 1 rfl
        rcases HQ.out.ends hi with hend | ⟨hlt, y, rest, br, nm, o2, dp2, hx, hbx, hkids, htl, hdr⟩
        · obtain ⟨qe, dpe, lg, htl, hstop, hor⟩ := hend
          have hsl : s.length ≤ 2000000 := by rcases hor with ⟨_, rfl, _⟩ | ⟨_, _, h⟩ <;> omega
          obtain ⟨_, _, _, tc3, tc4⟩ := htl.cells
          have HE := Px.hid (show ∀ (c1 c2 : UInt8), c1 = E6.opn a → c2 = E6.cls a.kind → ToldP w0 w b (.slice (some ⟨xb, xo, none⟩) L.length cap) k (a :: x) (E6.opn a :: u ++ [E6.cls a.kind]) (.returned (S ([c1] ++ s ++ [c2]))) wr from by
            rintro c1 c2 rfl rfl
            refine ⟨_, qe, dpe, lg, rfl, htl, HQ.out.same, ?_, HQ.out.fr⟩
            rcases hor with ⟨e1, e2, e3⟩ | ⟨e1, e2, e3⟩
            · exact .inl ⟨e1, by rw [e2]; rfl, by rw [e3, List.length_cons]; omega⟩
            · exact .inr ⟨e1, by simp; omega, by simp; omega⟩)
          have HST := Px.hid hstop
          clear hor htl hstop
          have hways : ((i : Int) < (n : Int) ∧ wr.cell? ⟨b, 4, none⟩ = some (.bool true)) ∨ ¬ (i : Int) < (n : Int) := by
            by_cases hlt : i < n
            · exact .inl ⟨by omega, by rw [← HST.out hlt]; exact tc4⟩
            · exact .inr (by omega)
          clear tc4
          have hsz1 : (ByteArray.mk s.toArray).size = s.length := size_S s
          have hca : (ByteArray.mk #[91] : ByteArray) ++ (ByteArray.mk s.toArray) = ⟨([91] ++ s).toArray⟩ := cat_b [91] s
          have hco : (ByteArray.mk #[123] : ByteArray) ++ (ByteArray.mk s.toArray) = ⟨([123] ++ s).toArray⟩ := cat_b [123] s
          have hca2 : (ByteArray.mk ([91] ++ s).toArray) ++ (ByteArray.mk #[93] : ByteArray) = ⟨([91] ++ s ++ [93]).toArray⟩ := cat_b ([91] ++ s) [93]
          have hco2 : (ByteArray.mk ([123] ++ s).toArray) ++ (ByteArray.mk #[125] : ByteArray) = ⟨([123] ++ s ++ [125]).toArray⟩ := cat_b ([123] ++ s) [125]
          obtain ⟨s5, hs5⟩ : ∃ s5, s5 = [91] ++ s := ⟨_, rfl⟩
          obtain ⟨s6, hs6⟩ : ∃ s6, s6 = [123] ++ s := ⟨_, rfl⟩
          rw [← hs5] at hca hca2
          rw [← hs6] at hco hco2
          have hsz5 : (ByteArray.mk s5.toArray).size = s.length + 1 := by rw [size_S, hs5]; simp
          have hsz6 : (ByteArray.mk s6.toArray).size = s.length + 1 := by rw [size_S, hs6]; simp
          have HS56 := Px.hid (And.intro hs5 hs6)
          clear hs5 hs6
          rcases hways with ⟨hltz, tc4⟩ | hltz
          all_goals
            rcases hkd with e | e
            · have h1 := Px.hid (show (91 : UInt8) = E6.opn a ∧ (93 : UInt8) = E6.cls a.kind by unfold E6.opn E6.cls; rw [e]; exact ⟨rfl, rfl⟩)
              rw [e] at y0
              clear e
              go_wp2
              go_ret
              have hfin := HE.out _ _ h1.out.1 h1.out.2
              rw [← HS56.out.1] at hfin
              exact hfin
            · have h1 := Px.hid (show (123 : UInt8) = E6.opn a ∧ (125 : UInt8) = E6.cls a.kind by unfold E6.opn E6.cls; rw [e]; exact ⟨rfl, rfl⟩)
              rw [e] at y0
              clear e
              go_wp2
              go_ret
              have hfin := HE.out _ _ h1.out.1 h1.out.2
              rw [← HS56.out.2] at hfin
              exact hfin
        · have hltz : (i : Int) < (n : Int) := by omega
          obtain ⟨_, _, _, tc3, tc4⟩ := htl.cells
          obtain ⟨g', rfl⟩ : ∃ g', gk = g' + 1 := ⟨gk - 1, by have := HG.out; omega⟩
          rw [show n - i = (n - (i + 1)) + 1 by omega] at hkids
          obtain ⟨x1, r1, u1, v1, p1, p2, hr1, hb1, hx1, _, hk1, _⟩ := hkids
          have hlb : s.length + ((R6.sep OB i).length + u1.length + v1.length) = u.length := by rw [hbx, hb1, List.length_append, List.length_append, List.length_append]
          have hcall := HK.out.2.2.1 wr (k + 1 + y.length) (dep + 1) dp2 x1 (r1 ++ r) u1 p1 htl HQ.out.same hx1 (by rw [hdr, hr1, List.append_assoc]) (by omega) (by omega)
          rw [show ((dep + 1 : Nat) : Int) = (dep : Int) + 1 by omega] at hcall
          obtain ⟨s1, hs1⟩ : ∃ s1, s1 = s ++ R6.sep OB i := ⟨_, rfl⟩
          have hs1l : s1.length = s.length + (R6.sep OB i).length := by rw [hs1, List.length_append]
          have hsl : s.length ≤ 2000000 := by omega
          have hi4 : i ≤ 4096 := by omega
          have HC := Px.hid (And.intro hcall (And.intro hx (And.intro hbx (And.intro hdr (And.intro hr1 (And.intro hb1 (And.intro hk1 hs1)))))))
          have hsz1 : (ByteArray.mk s.toArray).size = s.length := size_S s
          clear hcall hx hbx hdr hr1 hb1 hk1 htl hx1 hs1
          obtain ⟨C, hC⟩ : ∃ C, C = (OB && i % 2 == 1) := ⟨_, rfl⟩
          have HCC := Px.hid hC
          clear hC
          go_upto_region 23 with fail
          go_cut [100] (fun t100 wx => t100 = .bool C ∧ wx = wr)
          case first =>
            by_cases h6 : a.kind = 6
            · have hob : OB = true := by rw [HK.out.2.2.2, h6]; rfl
              rw [h6] at y0
              by_cases ho : i % 2 = 1
              · have b2 : (i : Int).tmod 2 = 1 := by rw [Int.tmod_eq_emod_of_nonneg (by omega)]; omega
                have hE := Px.hid (show C = true by rw [HCC.out, hob, ho]; rfl)
                clear h6 ho hob
                go_wp2_with fail
                go_meet
                rw [hE.out]
                exact ⟨rfl, rfl⟩
              · have b2 : (i : Int).tmod 2 = 0 := by rw [Int.tmod_eq_emod_of_nonneg (by omega)]; omega
                have hE := Px.hid (show C = false by rw [HCC.out, hob, Bool.true_and]; simpa using ho)
                clear h6 ho hob
                go_wp2_with fail
                go_meet
                rw [hE.out]
                exact ⟨rfl, rfl⟩
            · have z6 : (a.kind == 6) = false := by simpa using h6
              have hE := Px.hid (show C = false by rw [HCC.out, HK.out.2.2.2, z6]; rfl)
              clear h6
              go_wp2_with fail
              go_meet
              rw [hE.out]
              exact ⟨rfl, rfl⟩
          case rest =>
            obtain ⟨rfl, hwc⟩ := hcut
            subst hwc
            go_upto_if 100 with fail
            go_cut [6] (fun t6 wx => t6 = S s1 ∧ wx = wc)
            case first =>
              cases C
              · by_cases h0 : 0 < i
                · have hz : (0 : Int) < (i : Int) := by omega
                  have HE := Px.hid (show s1 = s ++ [44] by rw [HC.out.2.2.2.2.2.2.2]; unfold R6.sep; rw [← HCC.out, if_neg (by decide), if_pos h0])
                  have hca : (ByteArray.mk s.toArray) ++ (ByteArray.mk #[44] : ByteArray) = ⟨(s ++ [44]).toArray⟩ := cat_b s [44]
                  rw [← HE.out] at hca
                  clear h0
                  go_wp2_with fail
                  go_meet
                  exact ⟨rfl, rfl⟩
                · have hz : ¬ (0 : Int) < (i : Int) := by omega
                  have HE := Px.hid (show s1 = s by rw [HC.out.2.2.2.2.2.2.2]; unfold R6.sep; rw [← HCC.out, if_neg (by decide), if_neg h0, List.append_nil])
                  clear h0
                  go_wp2_with fail
                  go_meet
                  rw [HE.out]
                  exact ⟨rfl, rfl⟩
              · have HE := Px.hid (show s1 = s ++ [58] by rw [HC.out.2.2.2.2.2.2.2]; unfold R6.sep; rw [← HCC.out, if_pos rfl])
                have hca : (ByteArray.mk s.toArray) ++ (ByteArray.mk #[58] : ByteArray) = ⟨(s ++ [58]).toArray⟩ := cat_b s [58]
                rw [← HE.out] at hca
                go_wp2_with fail
                go_meet
                exact ⟨rfl, rfl⟩
            case rest =>
              obtain ⟨rfl, hwc⟩ := hcut
              subst hwc
              obtain ⟨wo, rfl⟩ : ∃ wo : World, wo = wc := ⟨_, rfl⟩
              have hsz2 : (ByteArray.mk s1.toArray).size = s1.length := size_S s1
              clear tc3 tc4 y0 y1
              go_wp2_with fail
              refine HC.out.1.mono ?_
              rintro e w4 ⟨s2, q4, dp4, lg, rfl, htold⟩
              have hs2l : s2.length ≤ u1.length := by rcases htold.or with ⟨_, e, _⟩ | ⟨_, _, e⟩; exact Nat.le_of_eq (by rw [e]); exact e
              have hown := (htold.fr.block q (ltOf HQ.out.own) (fun e => by unfold It at e; exact hqb e)).trans HQ.out.own
              have HT4 := Px.hid (And.intro htold (And.intro (Fr.trans HQ.out.fr htold.fr (fun _ _ e => e)) hown))
              clear htold hown
              obtain ⟨sn, hsn⟩ : ∃ sn, sn = s1 ++ s2 := ⟨_, rfl⟩
              have happ := cat_b s1 s2
              rw [← hsn] at happ
              have hsz3 : (ByteArray.mk s2.toArray).size = s2.length := size_S s2
              have hsz4 : (ByteArray.mk sn.toArray).size = sn.length := size_S sn
              have hsnl : sn.length = s1.length + s2.length := by rw [hsn, List.length_append]
              have HSN := Px.hid (And.intro hsn hsnl)
              have hsnb : sn.length ≤ 2000000 := by omega
              have hs1b : s1.length ≤ 2000000 := by omega
              have hs2b : s2.length ≤ 2000000 := by omega
              obtain ⟨lg2, hlg2⟩ : ∃ lg2, lg2 = (lg || decide (262144 < sn.length)) := ⟨_, rfl⟩
              have HL2 := Px.hid hlg2
              clear hsn hlg2
              have HREL := Px.hid (show ∀ wx, Tel wx b (.slice (some ⟨xb, xo, none⟩) L.length cap) q4 dp4 false lg2 → Fr (It b) w4 wx → Same w0 wx → Hid (TSt w0 w wx b (.slice (some ⟨xb, xo, none⟩) L.length cap) k d x r u L OB n q a (i + 1) sn) from by
                intro wx htl hfr hsm
                have hown := (hfr.block q (ltOf HT4.out.2.2) (fun e => by unfold It at e; exact hqb e)).trans HT4.out.2.2
                refine Px.hid ⟨hsm, Fr.trans HT4.out.2.1 hfr (fun _ _ e => e), hown, ?_⟩
                have hcases : lg2 = false ∨ lg2 = true := by cases lg2; exact .inl rfl; exact .inr rfl
                rcases hcases with hlg | hlg
                · have h1 := HL2.out
                  rw [hlg] at h1
                  have h2 : lg = false := by
                    cases lg
                    · rfl
                    · simp at h1
                  rcases HT4.out.1.or with ⟨_, e1, e2⟩ | ⟨e, _⟩
                  · refine .inl ⟨y ++ x1, r1, v1, _, p2, dp4, ?_, ?_, HC.out.2.2.2.2.2.2.1, ?_, ?_⟩
                    · rw [HC.out.2.1, HC.out.2.2.2.2.1, List.append_assoc]
                    · rw [HSN.out.1, HC.out.2.2.1, HC.out.2.2.2.2.2.1, HC.out.2.2.2.2.2.2.2, e1]
                      simp only [List.append_assoc]
                    · rw [hlg, e2] at htl
                      rw [List.length_append, ← Nat.add_assoc]
                      exact htl
                    · rw [List.length_append, ← Nat.add_assoc, ← List.drop_drop, HC.out.2.2.2.1, HC.out.2.2.2.2.1, List.append_assoc, List.drop_left]
                  · rw [h2] at e; cases e
                · refine .inr ⟨q4, dp4, by rw [hlg] at htl; exact htl, ?_, by omega⟩
                  have h1 := HL2.out
                  rw [hlg] at h1
                  cases hl : lg with
                  | false =>
                    rw [hl] at h1
                    have : 262144 < sn.length := by simpa using h1.symm
                    omega
                  | true =>
                    rcases HT4.out.1.or with ⟨e, _⟩ | ⟨_, e1, _⟩
                    · rw [hl] at e; cases e
                    · omega)
              have hto := HT4.out.1.tel
              have hfo := freeOf hto.blk 4
              have hco := hto.cells.2.2.2.2
              have hbc := ltOf hto.blk
              have HTO := Px.hid hto
              clear hto
              by_cases hbig : 262144 < sn.length
              · have hbz : (262144 : Int) < (sn.length : Int) := by omega
                have HE := Px.hid (show lg2 = true by rw [HL2.out, decide_eq_true hbig, Bool.or_true])
                clear hbig
                go_wp2
                go_roundg g'
                case measure => omega
                case rel => exact ⟨i + 1, sn, by have := HG.out; omega, by omega, rfl, by go_num, HREL.out _ (by rw [HE.out]; exact HTO.out.setLong true) (It.set _) (HT4.out.1.same.setCell (p := ⟨b, 4, none⟩) (.inr HH.out.2.2) _)⟩
              · have hbz : ¬ (262144 : Int) < (sn.length : Int) := by omega
                have HE := Px.hid (show lg2 = lg by rw [HL2.out, decide_eq_false hbig, Bool.or_false])
                clear hbig
                go_wp2
                go_roundg g'
                case measure => omega
                case rel => exact ⟨i + 1, sn, by have := HG.out; omega, by omega, rfl, by go_num, HREL.out _ (by rw [HE.out]; exact HTO.out) (Fr.refl _ _) HT4.out.1.same⟩
/-- told tells a value. -/
theorem told_any16 (w0 : World) (b xb xo cap : Nat) (L : List Val) (hL : Lst w0 b xb xo L) : ∀ d, ToldC w0 b xb xo cap L d := by
  intro d
  induction d with
  | zero =>
    intro w k dep dp x r t o ht hs hit hd hB hdep
    obtain ⟨a, rfl, hr, h4, rfl, rfl⟩ := hit
    exact told_leaf w0 b xb xo cap L hL a w k dep dp r ht hs hr h4 hd
  | succ d ih =>
    intro w k dep dp x r t o ht hs hit hd hB hdep
    rcases hit with ⟨a, rfl, hr, h4, rfl, rfl⟩ | ⟨a, r', u, rfl, hr, h5, rfl, hk⟩
    · exact told_leaf w0 b xb xo cap L hL a w k dep dp r ht hs hr h4 hd
    · exact told_node w0 b xb xo cap L hL d a ih w k dep dp r' r u o ht hs hr h5 hk hd (by simp only [List.length_append, List.length_cons] at hB; omega) hdep
end Go.Proofs.YtahojodgmjmpnaaDoor

/-! The walk over the reference's Encode (layer 16), and the law JsonTells. -/
namespace Go.Px.E6
/-- What has been found of a list that is told, step by step. -/
structure Enc1 (l : List Val) : Prop where
  few : ¬ 4096 < l.length
  all : ∀ a ∈ l, R6.right a = true
structure Enc2 (l : List Val) : Prop extends Enc1 l where
  one : (R6.behind l 0).1 = some l.length
  ne : l ≠ []
structure Enc3 (l : List Val) : Prop extends Enc2 l where
  once : ∀ j, j < l.length → (l.getD j ⟨0, 0, []⟩).kind = 6 → R6.twice l j = false
theorem enc_many {l : List Val} (h : 4096 < l.length) : R6.encode l = ([], 10) := by unfold R6.encode; rw [if_pos h]
theorem enc_wrong {l : List Val} (h : ¬ 4096 < l.length) {a : Val} (ha : a ∈ l) (hr : R6.right a = false) : R6.encode l = ([], 9) := by
  unfold R6.encode
  rw [if_neg h, if_pos (by simp only [List.any_eq_true]; exact ⟨a, ha, by rw [hr]; rfl⟩)]
theorem Enc1.any {l : List Val} (h : Enc1 l) : (l.any fun v => !R6.right v) = false := by
  simp only [List.any_eq_false]
  intro a ha
  rw [h.all a ha]
  decide
theorem Enc1.all6 {l : List Val} (h : Enc1 l) : ∀ a ∈ l, right a = true := fun a ha => by rw [← R6.right_eq]; exact h.all a ha
theorem Enc1.bad {l : List Val} (h : Enc1 l) (hb : ¬ ((R6.behind l 0).1 = some l.length ∧ l ≠ [])) : R6.encode l = ([], 9) := by
  unfold R6.encode
  rw [if_neg h.few, if_neg (by rw [h.any]; decide), if_pos]
  by_cases h1 : (R6.behind l 0).1 = some l.length
  · have h2 : l = [] := Classical.byContradiction fun e => hb ⟨h1, e⟩
    rw [h2]
    exact Bool.or_true _
  · rw [bne_iff_ne.2 h1]
    rfl
theorem Enc2.enc {l : List Val} (h : Enc2 l) : R6.encode l = if ((List.range l.length).any fun i => (l.getD i ⟨0, 0, []⟩).kind == 6 && R6.twice l i) then ([], 9)
    else if 32 < (R6.behind l 0).2 ∨ 262144 < R6.total l then ([], 10)
    else let t := R6.tell l (l.length + 1) ⟨0, false, false⟩
      if t.2.long || decide (262144 < t.1.length) then ([], 10) else (t.1, 0) := by
  have he : l.isEmpty = false := by rw [List.isEmpty_eq_false_iff]; exact h.ne
  unfold R6.encode
  rw [if_neg h.few, if_neg (by rw [h.any]; decide), if_neg (by rw [h.one, he]; simp)]
theorem Enc2.dup {l : List Val} (h : Enc2 l) {j : Nat} (hj : j < l.length) (hk : (l.getD j ⟨0, 0, []⟩).kind = 6) (ht : R6.twice l j = true) : R6.encode l = ([], 9) := by
  rw [h.enc, if_pos]
  simp only [List.any_eq_true, List.mem_range]
  exact ⟨j, hj, by rw [hk, ht]; rfl⟩
theorem Enc2.safe {l : List Val} (h : Enc2 l) : ∀ j, j < l.length → (l.getD j ⟨0, 0, []⟩).kind = 6 → Safe l (l.getD j ⟨0, 0, []⟩).kids.toNat (j + 1) := safe_all h.all6 h.one h.ne
theorem Enc3.enc3 {l : List Val} (h : Enc3 l) : R6.encode l = if 32 < (R6.behind l 0).2 ∨ 262144 < R6.total l then ([], 10)
    else let t := R6.tell l (l.length + 1) ⟨0, false, false⟩
      if t.2.long || decide (262144 < t.1.length) then ([], 10) else (t.1, 0) := by
  rw [h.enc, if_neg]
  intro hc
  simp only [List.any_eq_true, List.mem_range] at hc
  obtain ⟨j, hj, hc⟩ := hc
  rw [Bool.and_eq_true, beq_iff_eq] at hc
  rw [h.once j hj hc.1] at hc
  cases hc.2
theorem Enc3.lim {l : List Val} (h : Enc3 l) (hl : 32 < (R6.behind l 0).2 ∨ 262144 < R6.total l) : R6.encode l = ([], 10) := by rw [h.enc3, if_pos hl]
theorem Enc3.last {l : List Val} (h : Enc3 l) (h1 : ¬ 32 < (R6.behind l 0).2) (h2 : ¬ 262144 < R6.total l) : ∃ t o, ItF 32 l t o ∧ t.length ≤ 2000000 ∧ R6.encode l = if 262144 < t.length then ([], 10) else (t, 0) := by
  have hall := h.all6
  have hit := it_of_beh (l := l) (D := 32) hall h.one (by omega)
  have hlen := len_it _ _ _ _ hit
  have hf := h.few
  refine ⟨_, _, hit, by omega, ?_⟩
  rw [h.enc3, if_neg (by omega)]
  have hdp := beh_deep l [] 0 0
  have hbd : R6.behind l 0 = R6.behN l [] 0 0 := rfl
  rw [← hbd] at hdp
  have hit2 := it_of_beh (l := l) (D := (R6.behind l 0).2) hall h.one (Nat.le_refl _)
  obtain ⟨t', q, g, e1, e2, e3⟩ := tell_it _ _ _ _ hit2 l [] 0 (l.length + 1) (by simp) (by simp only [List.length_nil] at hdp; omega)
  simp only [e1]
  cases g with
  | true => rw [if_pos (e3 rfl), Bool.true_or]; rfl
  | false =>
    obtain ⟨rfl, _⟩ := e2 rfl
    rw [Bool.false_or]
    by_cases hz : 262144 < (txtN l []).length
    · rw [if_pos hz, if_pos (decide_eq_true hz)]
    · rw [if_neg hz, if_neg (by rw [decide_eq_false hz]; decide)]
theorem total_take (l : List Val) (k : Nat) (hk : k < l.length) : R6.total (l.take (k + 1)) = R6.total (l.take k) + l[k].text.length := by
  rw [List.take_succ_eq_append_getElem hk, total_append]
  rfl
theorem total_le_take (l : List Val) (k : Nat) : R6.total (l.take k) ≤ R6.total l := by
  have := total_append (l.take k) (l.drop k)
  rw [List.take_append_drop] at this
  omega
theorem total_mem : ∀ {l : List Val} {a : Val}, a ∈ l → a.text.length ≤ R6.total l
  | x :: l, a, h => by
    rw [R6.total]
    rcases List.mem_cons.1 h with rfl | h
    · omega
    · have := total_mem h; omega
end Go.Px.E6
namespace Go.Proofs.YtahojodgmjmpnaaDoor
open Go.RowKit Go.Px

def EncR (w : World) (l : List Val) (e : Ending) (w' : World) : Prop := e = .returned (.tuple #[S (R6.encode l).1, .int .i64 (R6.encode l).2]) ∧ Same w w'
theorem EncR.mk {w w' : World} {l : List Val} {e : Ending} (s : Bytes) (n : Int) (h : R6.encode l = (s, n)) (he : e = .returned (.tuple #[S s, .int .i64 n])) (hs : Same w w') : EncR w l e w' := by
  unfold EncR
  rw [h]
  exact ⟨he, hs⟩
set_option maxRecDepth 100000 in
set_option maxHeartbeats 16000000 in
theorem refencode16_any (v : Value) (l : List Val) (w : World) (h : Lies w 3 cVal v l) (hw : ∀ a ∈ l, Fair a) : Calls Tryd.prog 15 #[v] w (EncR w l) := by
  obtain ⟨va, vc, hv, hv1, hv2⟩ := h.slice
  subst hv
  unfold maxLen at hv2
  have H := Px.hid (And.intro h hw)
  clear h hw
  by_cases hlong : 4096 < l.length
  · have hlz : (4096 : Int) < (l.length : Int) := by omega
    have HR := Px.hid (E6.enc_many hlong)
    clear hlong
    go_enter Tryd.func15, Tryd.ntmps15
    go_wp2
    go_ret2
    exact EncR.mk [] 10 HR.out rfl (Same.refl w)
  · have hlz : ¬ (4096 : Int) < (l.length : Int) := by omega
    have hl : l.length ≤ 4096 := by omega
    have HCB := Px.hid (fun (W : World) (hW : Same w W) => behind_any _ l 0 W (Lies.same H.out.1 hW) hl (Nat.zero_le _) H.out.2)
    obtain ⟨eb, m, hem⟩ : ∃ eb m, R6.behind l 0 = (eb, m) := ⟨_, _, rfl⟩
    rw [hem] at HCB
    have HEM := Px.hid hem
    unfold behV at HCB
    clear hem hlong hv2
    go_enter Tryd.func15, Tryd.ntmps15
    go_wp2
    go_loopg [4] (l.length + 1) (fun gk t4 wr => ∃ k : Nat, gk + k = l.length + 1 ∧ k ≤ l.length ∧ t4 = .int .i64 (k : Nat) ∧ Hid (Same w wr ∧ ∀ j (hj : j < l.length), j < k → R6.right l[j] = true))
    case atStart => exact ⟨0, rfl, Nat.zero_le _, rfl, Px.hid ⟨Same.refl w, fun j hj h => absurd h (Nat.not_lt_zero j)⟩⟩
    case round =>
      obtain ⟨k, hgk, hk, rfl, HT⟩ := hrel
      have HG := Px.hid hgk
      clear hgk
      by_cases hlt : k < l.length
      · have hlz : (k : Int) < (l.length : Int) := by omega
        obtain ⟨g', rfl⟩ : ∃ g', gk = g' + 1 := ⟨gk - 1, by have := HG.out; omega⟩
        obtain ⟨xb, xo, xc, hve, hxb, hcx⟩ := (Lies.same H.out.1 HT.out.1).cell k l[k] (by simp [hlt])
        simp only [Value.slice.injEq, true_and] at hve
        obtain ⟨rfl, rfl⟩ := hve
        have x0 := hcx 0 _ rfl
        have x1 := hcx 1 _ rfl
        have x2 := hcx 2 _ rfl
        rw [← Nat.add_assoc] at x0 x1 x2
        rw [Nat.add_zero] at x0
        have hmem : l[k] ∈ l := List.getElem_mem _
        obtain ⟨x, hx⟩ : ∃ x, x = l[k] := ⟨_, rfl⟩
        rw [← hx] at x0 x1 x2 hmem
        have HX := Px.hid (And.intro hx hmem)
        have hxl := (H.out.2 x hmem).2.2
        have HC := Px.hid (fun W => right16_any x W (by omega))
        unfold valV at HC
        clear hx hcx hmem hxl
        go_wp2_with fail
        refine (HC.out _).mono ?_
        rintro e w2 ⟨rfl, hs2⟩
        have HS2 := Px.hid (HT.out.1.trans hs2)
        clear hs2 HC x0 x1 x2
        cases hrt : R6.right x with
        | false =>
          have HR := Px.hid (E6.enc_wrong (by omega) HX.out.2 hrt)
          clear hrt
          go_wp2
          go_ret2
          exact EncR.mk [] 9 HR.out rfl HS2.out
        | true =>
          have HRT := Px.hid hrt
          clear hrt
          go_wp2
          go_roundg g'
          case measure => omega
          case rel =>
            refine ⟨k + 1, by have := HG.out; omega, by omega, by go_num, Px.hid ⟨HS2.out, fun j hj hjk => ?_⟩⟩
            by_cases hjk2 : j < k
            · exact HT.out.2 j hj hjk2
            · obtain rfl : j = k := by omega
              rw [← HX.out.1]
              exact HRT.out
      · have hlz : ¬ (k : Int) < (l.length : Int) := by omega
        have HE1 := Px.hid (show E6.Enc1 l from ⟨by omega, fun a ha => by
          obtain ⟨j, hj, rfl⟩ := List.getElem_of_mem ha
          exact HT.out.2 j hj (by omega)⟩)
        have HS1 := Px.hid HT.out.1
        clear hk hlt HG
        by_cases hend : eb = some l.length
        · have hne : l ≠ [] := by
            intro e
            have h0 := HEM.out
            rw [e] at h0
            have : R6.behind [] 0 = (none, 0) := rfl
            rw [this, hend] at h0
            cases h0
          have HE2 := Px.hid (show E6.Enc2 l from ⟨HE1.out, by rw [HEM.out]; exact hend, hne⟩)
          have hpos : 0 < l.length := List.length_pos_iff.2 hne
          have hne0 : ((l.length : Int) == 0) = false := beq_eq_false_iff_ne.2 (by omega)
          subst hend
          clear hne
          go_wp2_with fail
          refine (HCB.out _ HS1.out).mono ?_
          rintro e w1 ⟨rfl, hs1⟩
          have HS2 := Px.hid (HS1.out.trans hs1)
          clear hs1 HCB HT
          go_wp2
          go_loopg [7] (l.length + 1) (fun gk t7 wr => ∃ k : Nat, gk + k = l.length + 1 ∧ k ≤ l.length ∧ t7 = .int .i64 (k : Nat) ∧ Hid (Same w wr ∧ ∀ j, j < k → (l.getD j ⟨0, 0, []⟩).kind = 6 → R6.twice l j = false))
          case atStart => exact ⟨0, rfl, Nat.zero_le _, rfl, Px.hid ⟨HS2.out, fun j h => absurd h (Nat.not_lt_zero j)⟩⟩
          case round =>
            clear HS2 HS1
            obtain ⟨k, hgk, hk, rfl, HT⟩ := hrel
            have HG := Px.hid hgk
            clear hgk
            by_cases hlt : k < l.length
            · have hlz : (k : Int) < (l.length : Int) := by omega
              obtain ⟨g', rfl⟩ : ∃ g', gk = g' + 1 := ⟨gk - 1, by have := HG.out; omega⟩
              obtain ⟨xb, xo, xc, hve, hxb, hcx⟩ := (Lies.same H.out.1 HT.out.1).cell k l[k] (by simp [hlt])
              simp only [Value.slice.injEq, true_and] at hve
              obtain ⟨rfl, rfl⟩ := hve
              have x0 := hcx 0 _ rfl
              rw [← Nat.add_assoc] at x0
              rw [Nat.add_zero] at x0
              have hgd : l.getD k ⟨0, 0, []⟩ = l[k] := by rw [List.getD_eq_getElem?_getD, List.getElem?_eq_getElem hlt]; rfl
              obtain ⟨x, hx⟩ : ∃ x, x = l[k] := ⟨_, rfl⟩
              rw [← hx] at x0 hgd
              have HX := Px.hid hgd
              clear hx hcx hgd
              by_cases h6 : x.kind = 6
              · rw [h6] at x0
                have HCT := Px.hid (twice_any _ l k _ (Lies.same H.out.1 HT.out.1) hl hlt H.out.2 (HE2.out.safe k hlt (by rw [HX.out]; exact h6)))
                have H6 := Px.hid h6
                clear h6
                go_wp2_with fail
                refine HCT.out.mono ?_
                rintro e w2 ⟨rfl, hs2⟩
                have HS2 := Px.hid (HT.out.1.trans hs2)
                clear hs2 HCT x0
                cases htw : R6.twice l k with
                | true =>
                  have HR := Px.hid (HE2.out.dup hlt (by rw [HX.out]; exact H6.out) htw)
                  clear htw
                  go_wp2
                  go_ret2
                  exact EncR.mk [] 9 HR.out rfl HS2.out
                | false =>
                  have HTW := Px.hid htw
                  clear htw
                  go_wp2
                  go_roundg g'
                  case measure => omega
                  case rel =>
                    refine ⟨k + 1, by have := HG.out; omega, by omega, by go_num, Px.hid ⟨HS2.out, fun j hjk hj6 => ?_⟩⟩
                    by_cases hjk2 : j < k
                    · exact HT.out.2 j hjk2 hj6
                    · obtain rfl : j = k := by omega
                      exact HTW.out
              · have z6 : (x.kind == 6) = false := by simpa using h6
                have H6 := Px.hid h6
                clear h6
                go_wp2
                go_roundg g'
                case measure => omega
                case rel =>
                  refine ⟨k + 1, by have := HG.out; omega, by omega, by go_num, Px.hid ⟨HT.out.1, fun j hjk hj6 => ?_⟩⟩
                  by_cases hjk2 : j < k
                  · exact HT.out.2 j hjk2 hj6
                  · obtain rfl : j = k := by omega
                    rw [HX.out] at hj6
                    exact absurd hj6 H6.out
            · have hlz : ¬ (k : Int) < (l.length : Int) := by omega
              have HE3 := Px.hid (show E6.Enc3 l from ⟨HE2.out, fun j hj h6 => HT.out.2 j (by omega) h6⟩)
              have HS1 := Px.hid HT.out.1
              clear hk hlt HG
              go_wp2
              go_loopg [8, 9] (l.length + 1) (fun gk t8 t9 wr => ∃ k : Nat, gk + k = l.length + 1 ∧ k ≤ l.length ∧ t8 = .int .i64 (R6.total (l.take k) : Nat) ∧ t9 = .int .i64 (k : Nat) ∧ Hid (Same w wr ∧ R6.total (l.take k) ≤ 524288))
              case atStart => exact ⟨0, rfl, Nat.zero_le _, rfl, rfl, Px.hid ⟨HS1.out, by simp [R6.total]⟩⟩
              case round =>
                clear HS1 HT
                obtain ⟨k, hgk, hk, rfl, rfl, HT⟩ := hrel
                have HG := Px.hid hgk
                clear hgk
                have htb := HT.out.2
                have HTK := Px.hid (fun hk => E6.total_take l k hk)
                have HTL := Px.hid (E6.total_le_take l k)
                obtain ⟨tk, htk⟩ : ∃ tk, tk = R6.total (l.take k) := ⟨_, rfl⟩
                rw [← htk] at HTK HTL htb ⊢
                have HTKE := Px.hid htk
                clear htk
                have hways : (k < l.length ∧ tk ≤ 262144) ∨ (k < l.length ∧ 262144 < tk) ∨ k = l.length := by omega
                rcases hways with ⟨hlt, hsm⟩ | hstop
                · have hlz : (k : Int) < (l.length : Int) := by omega
                  have hsz : (tk : Int) ≤ 262144 := by omega
                  obtain ⟨g', rfl⟩ : ∃ g', gk = g' + 1 := ⟨gk - 1, by have := HG.out; omega⟩
                  obtain ⟨xb, xo, xc, hve, hxb, hcx⟩ := (Lies.same H.out.1 HT.out.1).cell k l[k] (by simp [hlt])
                  simp only [Value.slice.injEq, true_and] at hve
                  obtain ⟨rfl, rfl⟩ := hve
                  have x2 := hcx 2 _ rfl
                  rw [← Nat.add_assoc] at x2
                  obtain ⟨x, hx⟩ : ∃ x, x = l[k] := ⟨_, rfl⟩
                  rw [← hx] at x2
                  have HX := Px.hid (And.intro hx (show x ∈ l by rw [hx]; exact List.getElem_mem _))
                  have htx := HTK.out hlt
                  rw [← hx] at htx
                  have HTX := Px.hid htx
                  have hszx : (ByteArray.mk x.text.toArray).size = x.text.length := size_S x.text
                  have hxl := (H.out.2 x HX.out.2).2.2
                  clear hx hcx htx
                  by_cases hbig : 262144 < x.text.length
                  · have hbz : (262144 : Int) < (x.text.length : Int) := by omega
                    have HR := Px.hid (HE3.out.lim (.inr (Nat.lt_of_lt_of_le hbig (E6.total_mem HX.out.2))))
                    clear hbig
                    go_wp2
                    go_ret2
                    exact EncR.mk [] 10 HR.out rfl HT.out.1
                  · have hbz : ¬ (262144 : Int) < (x.text.length : Int) := by omega
                    have hxs : x.text.length ≤ 262144 := by omega
                    clear hbig
                    go_wp2
                    go_roundg g'
                    case measure => omega
                    case rel => exact ⟨k + 1, by have := HG.out; omega, by omega, by rw [HTX.out]; go_num, by go_num, Px.hid ⟨HT.out.1, by rw [HTX.out]; omega⟩⟩
                · have hgo : (k : Int) < (l.length : Int) ∧ (¬ (tk : Int) ≤ 262144) ∨ ¬ (k : Int) < (l.length : Int) := by
                    rcases hstop with ⟨h1, h2⟩ | h1
                    · exact .inl ⟨by omega, by omega⟩
                    · exact .inr (by omega)
                  have HTT := Px.hid (show 262144 < tk ↔ 262144 < R6.total l by
                    rcases hstop with ⟨h1, h2⟩ | h1
                    · have := HTL.out; omega
                    · rw [HTKE.out, h1, List.take_length])
                  have HST := Px.hid hstop
                  clear hstop hk HG HTK
                  by_cases hlm : 32 < m
                  · have hmz : (32 : Int) < (m : Int) := by omega
                    have HR := Px.hid (HE3.out.lim (.inl (by rw [HEM.out]; exact hlm)))
                    clear hlm
                    rcases hgo with ⟨y1, y2⟩ | y1
                    all_goals
                      go_wp2
                      go_ret2
                      exact EncR.mk [] 10 HR.out rfl HT.out.1
                  · have hmz : ¬ (32 : Int) < (m : Int) := by omega
                    by_cases hbt : 262144 < tk
                    · have hbz : (262144 : Int) < (tk : Int) := by omega
                      have HR := Px.hid (HE3.out.lim (.inr (HTT.out.1 hbt)))
                      clear hbt hlm
                      rcases hgo with ⟨y1, y2⟩ | y1
                      all_goals
                        go_wp2
                        go_ret2
                        exact EncR.mk [] 10 HR.out rfl HT.out.1
                    · have hkn : k = l.length := by
                        rcases HST.out with ⟨_, h2⟩ | h1
                        · exact absurd h2 hbt
                        · exact h1
                      have hbz : ¬ (262144 : Int) < (tk : Int) := by omega
                      have hlz : ¬ (k : Int) < (l.length : Int) := by omega
                      have hnt : ¬ 262144 < R6.total l := fun e => hbt (HTT.out.2 e)
                      obtain ⟨t, o, hit, htl, henc⟩ := HE3.out.last (by rw [HEM.out]; exact hlm) hnt
                      obtain ⟨xb, xo, xc, hve, hxb, _⟩ := (Lies.same H.out.1 HT.out.1).cell 0 l[0] (by simp [hpos])
                      simp only [Value.slice.injEq, true_and] at hve
                      obtain ⟨rfl, rfl⟩ := hve
                      have hlst : Lst wr wr.heap.size xb xo l := ⟨fun j x hj i u hu => by
                        obtain ⟨b', o', c', hve, _, hc⟩ := (Lies.same H.out.1 HT.out.1).cell j x hj
                        simp only [Value.slice.injEq, Option.some.injEq, Addr.mk.injEq, and_true, true_and] at hve
                        obtain ⟨⟨rfl, rfl⟩, _⟩ := hve
                        exact hc i u hu, hxb, Nat.le_refl _, hl, fun a ha => by have := E6.total_mem ha; omega⟩
                      have HTO := Px.hid (And.intro (told_any16 wr wr.heap.size xb xo vc l hlst 32) (And.intro hit htl))
                      have HENC := Px.hid henc
                      clear hlst hit hlm hbt hnt hgo henc hkn
                      go_wp2_with fail
                      have HBX := Px.hid (show Tel (wr.alloc (.cells #[.slice (some ⟨xb, xo, none⟩) l.length vc, .int .i64 0, .int .i64 0, .bool false, .bool false] 74 (0, 0))) wr.heap.size (.slice (some ⟨xb, xo, none⟩) l.length vc) 0 0 false false from ⟨heap_alloc_new wr _⟩)
                      refine (HTO.out.1 _ 0 0 0 l [] t o HBX.out ((Same.refl wr).alloc _) HTO.out.2.1 (by simp) HTO.out.2.2 (by omega)).mono ?_
                      rintro e w5 ⟨s, q5, dp5, lg, rfl, htold⟩
                      have HQ := Px.hid htold
                      have q4 := htold.tel.cells.2.2.2.2
                      have hsz : (ByteArray.mk s.toArray).size = s.length := size_S s
                      clear htold
                      have HS5 := Px.hid (HT.out.1.trans HQ.out.same)
                      cases lg
                      · have hor : s = t := by
                          rcases HQ.out.or with ⟨_, e, _⟩ | ⟨e, _⟩
                          · exact e
                          · cases e
                        have hs1 : s.length ≤ 2000000 := by rw [hor]; exact HTO.out.2.2
                        have henc := HENC.out
                        rw [← hor] at henc
                        clear hor
                        by_cases hlong : 262144 < s.length
                        · have hlz2 : (262144 : Int) < (s.length : Int) := by omega
                          rw [if_pos hlong] at henc
                          have HR := Px.hid henc
                          clear hlong henc
                          go_wp2
                          go_ret2
                          exact EncR.mk [] 10 HR.out rfl HS5.out
                        · have hlz2 : ¬ (262144 : Int) < (s.length : Int) := by omega
                          rw [if_neg hlong] at henc
                          have HR := Px.hid henc
                          clear hlong henc
                          go_wp2
                          go_ret2
                          exact EncR.mk s 0 HR.out rfl HS5.out
                      · have HR := Px.hid (show R6.encode l = ([], 10) by
                          rw [HENC.out, if_pos]
                          rcases HQ.out.or with ⟨e, _⟩ | ⟨_, e, _⟩
                          · cases e
                          · exact e)
                        go_wp2
                        go_ret2
                        exact EncR.mk [] 10 HR.out rfl HS5.out
        · have HR := Px.hid (HE1.out.bad (fun e => hend (by have := e.1; rw [HEM.out] at this; exact this)))
          have HEND := Px.hid hend
          clear hend
          cases eb with
          | none =>
            have hne : ((-1 : Int) != (l.length : Int)) = true := bne_iff_ne.2 (by omega)
            go_wp2_with fail
            refine (HCB.out _ HS1.out).mono ?_
            rintro e w2 ⟨rfl, hs2⟩
            have HS2 := Px.hid (HS1.out.trans hs2)
            clear hs2
            go_wp2
            go_ret2
            exact EncR.mk [] 9 HR.out rfl HS2.out
          | some p =>
            have hne : ((p : Int) != (l.length : Int)) = true := bne_iff_ne.2 (fun e => HEND.out (by rw [show p = l.length by omega]))
            go_wp2_with fail
            refine (HCB.out _ HS1.out).mono ?_
            rintro e w2 ⟨rfl, hs2⟩
            have HS2 := Px.hid (HS1.out.trans hs2)
            clear hs2
            go_wp2
            go_ret2
            exact EncR.mk [] 9 HR.out rfl HS2.out
end Go.Proofs.YtahojodgmjmpnaaDoor
