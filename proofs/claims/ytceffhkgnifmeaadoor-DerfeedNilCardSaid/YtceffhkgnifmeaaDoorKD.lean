/-
  Several texts in one: The walk over derfeed's begins. The walk over derfeed's begun: joined. The walks over derfeed's length, digit and body. The walk over derfeed's Write. The walks over derfeed's New, End, State; and of a nil and a zero feed. The walks over the statements' own helpers of layer 18 (read, wakes), and over DerfeedNil and DerfeedStops. The walks over the statements DerfeedPieces and DerfeedSame.
-/
import Derived.Test.YtceffhkgnifmeaaDoorKB
import Derived.Deep.CutBlock
import Derived.Test.YtceffhkgnifmeaaDoorKG
import Derived.Test.YtceffhkgnifmeaaDoorKH
import Derived.Test.YtceffhkgnifmeaaDoorKA
import Derived.Deep.RegionWith
import Derived.Test.YtceffhkgnifmeaaDoorKJ
import Derived.Test.YtceffhkgnifmeaaDoorKE
/-! The walk over derfeed's begins. -/
namespace Go.Proofs.YtceffhkgnifmeaaDoor
open Go.RowKit Go.Px

def tagQ (cl : Nat) (z p m i : Bool) : Int := if (cl != 0 && cl != 2) || z || (cl == 0 && !p && !m) then 11 else if cl == 0 && i != m then 9 else 0
theorem tagE_q (t : Nat) : R5.tagE t = tagQ (t / 64) (t % 32 == 31) (R5.plainT (t % 32)) (R5.manyT (t % 32)) (R5.inner t) := rfl
/-- What the feed is behind the tag's switch. -/
def tagged (f : F5.Feed) (e : Int) : F5.Feed := if e = 0 then f else F5.wrong f f.place e
set_option maxRecDepth 100000 in
set_option maxHeartbeats 4000000 in
theorem begins_any (b : Nat) (f : F5.Feed) (c : UInt8) (F : Nat → Prop) (w : World) (h : FeedAt w b f F) (hok : F5.OkK 1 1 f) :
    Calls Tryd.prog 41 #[.pointer (some ⟨b, 0, none⟩), .int .u8 c.toNat] w fun r w' => r = .returned (.tuple #[]) ∧ FeedAt w' b (F5.begins f c) F ∧ Fr F w w' := by
  obtain ⟨vt, vo, vs, h, rfl⟩ := h
  obtain ⟨t, ht⟩ : ∃ t, t = c.toNat := ⟨_, rfl⟩
  have htb : t < 256 := by rw [ht]; exact c.toNat_lt
  have hb := bit32 t htb
  obtain ⟨L, hL⟩ : ∃ L, f.text.length = L := ⟨_, rfl⟩
  have hL1 : 1 ≤ L := by have := hok.sb; omega
  have hL2 : L ≤ 1000000 := by have := hok.tb; omega
  obtain ⟨ta, tc, htv, _⟩ := h.text.len
  obtain ⟨oa, oc, hov, _⟩ := h.out.len
  obtain ⟨sa, sc, hsv⟩ := h.stackLen
  have c4 : w.cell? ⟨b, 4, none⟩ = some vt := cellOf h.blk 4 rfl
  rw [htv, hL] at c4
  have hwl : IntKind.i64.wrap ((L : Int) - 1) = (L : Int) - 1 := IntWalk.i64_in _ ⟨by omega, by omega⟩
  have en : ((L - 1 : Nat) : Int) = (L : Int) - 1 := by omega
  have c8 : w.cell? ⟨b, 8, none⟩ = some (.int .u8 f.tag.toNat) := cellOf h.blk 8 rfl
  have c9 : w.cell? ⟨b, 9, none⟩ = some (.int .i64 (f.place : Nat)) := cellOf h.blk 9 rfl
  have f8 := h.free 8
  have f9 := h.free 9
  obtain ⟨g, hg⟩ : ∃ g, g = { f with tag := c, place := L - 1 } := ⟨_, rfl⟩
  have h2 := (h.set 8 (.int .u8 c.toNat) { f with tag := c } rfl rfl rfl rfl).set 9 (.int .i64 ((L - 1 : Nat) : Int)) { f with tag := c, place := L - 1 } rfl rfl rfl rfl
  have h2f := ((Fr.refl (foot b vt vo vs) w).setCell (p := ⟨b, 8, none⟩) (.inl (.inl rfl)) (.int .u8 c.toNat)).setCell (p := ⟨b, 9, none⟩) (.inl (.inl rfl)) (.int .i64 ((L - 1 : Nat) : Int))
  rw [en, ← ht] at h2 h2f
  rw [← hg] at h2
  have HG := Px.hid (And.intro h2 h2f)
  have HV := Px.hid (show vo = .slice oa g.out.length oc ∧ vs = .slice sa g.stack.length sc ∧ (L : Int) - 1 = (g.place : Nat) by rw [hg]; exact ⟨hov, hsv, en.symm⟩)
  have HR := Px.hid (show F5.begins f c = if (g.out.length : Int) == g.lim.i then F5.wrong g g.place 10 else if R5.tagE t ≠ 0 then { F5.wrong g g.place (R5.tagE t) with next := 1 } else if R5.inner t && (g.stack.length : Int) == g.lim.d then { F5.wrong g g.place 10 with next := 1 } else { g with next := 1 } by
    rw [hg, ht, ← hL]; rfl)
  rw [← ht]
  clear h hok h2 h2f hg htv hov hsv en hL ht
  go_enter Tryd.func41, Tryd.ntmps41
  go_upto_region 1 with fail
  obtain ⟨W1, hW1⟩ : ∃ W1, W1 = (w.setCell ⟨b, 8, none⟩ (.int .u8 t)).setCell ⟨b, 9, none⟩ (.int .i64 ((L : Int) - 1)) := ⟨_, rfl⟩
  rw [← hW1] at HG ⊢
  clear hW1 c4 c8 c9 f8 f9 hwl
  have c5 : W1.cell? ⟨b, 5, none⟩ = some (.slice oa g.out.length oc) := by rw [← HV.out.1]; exact cellOf HG.out.1.blk 5 rfl
  have c1 : W1.cell? ⟨b, 1, none⟩ = some (.int .i64 g.lim.i) := cellOf HG.out.1.blk 1 rfl
  have c9 : W1.cell? ⟨b, 9, none⟩ = some (.int .i64 (g.place : Nat)) := cellOf HG.out.1.blk 9 rfl
  rcases Bool.eq_false_or_eq_true ((g.out.length : Int) == g.lim.i) with hd | hd
  · have HR1 := Px.hid (HR.out.trans (if_pos hd))
    clear hb HR
    go_wp2_with fail
    go_quiet (fail)
    go_wp2_with fail
    refine (wrong_any b g.place 10 g _ _ ⟨_, _, _, HG.out.1.drewN nq, rfl⟩).mono ?_
    rintro e w' ⟨rfl, hF, hfr⟩
    go_wp2
    refine bodyPost_ret (results_none rfl _ _ _) rfl ?_
    rw [HR1.out]
    exact ⟨rfl, hF, (HG.out.2.drewN nq).step (Fresh.refl _ _) hfr⟩
  · have HR1 := Px.hid (HR.out.trans (if_neg (by rw [hd]; decide)))
    clear HR
    go_wp2_with fail
    go_quiet (fail)
    obtain ⟨W2, hW2⟩ : ∃ W2, W2 = W1.drewN nq := ⟨_, rfl⟩
    rw [← hW2]
    have HG := Px.hid (show FeedRep W2 b g vt vo vs ∧ Fr (foot b vt vo vs) w W2 from by rw [hW2]; exact ⟨HG.out.1.drewN nq, HG.out.2.drewN nq⟩)
    clear hW2 c5 c1 c9 hd
    obtain ⟨cl, hcl⟩ : ∃ cl, cl = t / 64 := ⟨_, rfl⟩
    obtain ⟨n, hn⟩ : ∃ n, n = t % 32 := ⟨_, rfl⟩
    obtain ⟨I, hI⟩ : ∃ I, I = R5.inner t := ⟨_, rfl⟩
    obtain ⟨P, hP⟩ : ∃ P, P = R5.plainT n := ⟨_, rfl⟩
    obtain ⟨M, hM⟩ : ∃ M, M = R5.manyT n := ⟨_, rfl⟩
    have hte := tagE_q t
    rw [← hcl, ← hn, ← hI, ← hP, ← hM] at hte
    have HR2 := HR1.out
    rw [hte, ← hI] at HR2
    have HR3 := Px.hid HR2
    rw [← hI] at hb
    have h1 : (t : Int) / 64 = (cl : Int) := by omega
    have h2 : (t : Int) % 32 = (n : Int) := by omega
    have hcl4 : cl < 4 := by omega
    have hn32 : n < 32 := by omega
    have hib : (bits .and .u8 (t : Int) 32 != 0) = I := by rw [hb]; cases I <;> rfl
    clear hte HR2 hcl hn hI hb HR1 htb
    go_upto_region 5 with fail
    rw [h2]
    go_cut [6] (fun t6 wx => t6 = .bool P ∧ wx = W2)
    case first =>
      have hnn : n = 0 ∨ (1 ≤ n ∧ n ≤ 6) ∨ n = 12 ∨ (7 ≤ n ∧ n ≠ 12) := by omega
      rcases hnn with hnn | ⟨n1, n2⟩ | hnn | ⟨n1, n2⟩
      · subst hnn
        have HPP := Px.hid hP
        clear hP hM h2
        go_wp2_with fail
        go_meet
        exact ⟨by rw [HPP.out]; rfl, rfl⟩
      · have p1 : (1 : Int) ≤ (n : Int) := by omega
        have p2 : (n : Int) ≤ 6 := by omega
        have HPP := Px.hid (show P = true by rw [hP]; unfold R5.plainT; simp [n1, n2])
        clear hP hM h2 n1 n2
        go_wp2_with fail
        go_meet
        exact ⟨by rw [HPP.out], rfl⟩
      · subst hnn
        have HPP := Px.hid hP
        clear hP hM h2
        go_wp2_with fail
        go_meet
        exact ⟨by rw [HPP.out]; rfl, rfl⟩
      · have p1 : (1 : Int) ≤ (n : Int) := by omega
        have p2 : decide ((n : Int) ≤ 6) = false := by simp; omega
        have p3 : ((n : Int) == 12) = false := by simp; omega
        have HPP := Px.hid (show P = false by rw [hP]; unfold R5.plainT; simp; omega)
        clear hP hM h2 n1 n2
        go_wp2_with fail
        go_meet
        exact ⟨by rw [HPP.out], rfl⟩
    case rest =>
      obtain ⟨rfl, rfl⟩ := hcut
      go_upto_region 6 with fail
      go_cut [7] (fun t7 wx => t7 = .bool M ∧ wx = wc)
      case first =>
        have hnn : n = 16 ∨ n = 17 ∨ (n ≠ 16 ∧ n ≠ 17) := by omega
        rcases hnn with hnn | hnn | ⟨n1, n2⟩
        · subst hnn
          have HPP := Px.hid hM
          clear hM hP h2
          go_wp2_with fail
          go_meet
          exact ⟨by rw [HPP.out]; rfl, rfl⟩
        · subst hnn
          have HPP := Px.hid hM
          clear hM hP h2
          go_wp2_with fail
          go_meet
          exact ⟨by rw [HPP.out]; rfl, rfl⟩
        · have p1 : ((n : Int) == 16) = false := by simp; omega
          have p2 : ((n : Int) == 17) = false := by simp; omega
          have HPP := Px.hid (show M = false by rw [hM]; unfold R5.manyT; simp [n1, n2])
          clear hM hP h2 n1 n2
          go_wp2_with fail
          go_meet
          exact ⟨by rw [HPP.out], rfl⟩
      case rest =>
        obtain ⟨rfl, rfl⟩ := hcut
        obtain ⟨Z, hZ⟩ : ∃ Z, Z = (n == 31) := ⟨_, rfl⟩
        have hzi : ((n : Int) == 31) = Z := by
          rw [hZ]
          by_cases e : n = 31
          · subst e; rfl
          · rw [show (n == 31) = false by simpa using e]; simp; omega
        rw [← hZ] at HR3
        obtain ⟨D, hD⟩ : ∃ D, D = ((g.stack.length : Int) == g.lim.d) := ⟨_, rfl⟩
        rw [← hD] at HR3
        have hdd := hD.symm
        obtain ⟨E, hE⟩ : ∃ E, E = if tagQ cl Z P M I ≠ 0 then tagQ cl Z P M I else if I && D then 10 else 0 := ⟨_, rfl⟩
        have HE := Px.hid hE
        have HF := Px.hid (show F5.begins f c = { tagged g E with next := 1 } by
          rw [HR3.out, hE]
          by_cases e1 : tagQ cl Z P M I = 0
          · have e1n : ¬ tagQ cl Z P M I ≠ 0 := fun h => h e1
            rw [if_neg e1n, if_neg e1n]
            by_cases e2 : (I && D) = true
            · rw [if_pos e2, if_pos e2]; rfl
            · rw [if_neg e2, if_neg e2]; rfl
          · rw [if_pos e1, if_pos e1]
            unfold tagged
            rw [if_neg e1])
        clear hZ hD hE hP hM HR3
        go_upto_block 0 with fail
        clear h1 h2
        have c9 : wc.cell? ⟨b, 9, none⟩ = some (.int .i64 (g.place : Nat)) := cellOf HG.out.1.blk 9 rfl
        have c0 : wc.cell? ⟨b, 0, none⟩ = some (.int .i64 g.lim.d) := cellOf HG.out.1.blk 0 rfl
        have c6 : wc.cell? ⟨b, 6, none⟩ = some (.slice sa g.stack.length sc) := by rw [← HV.out.2.1]; exact cellOf HG.out.1.blk 6 rfl
        go_cut [] (fun wx => FeedAt wx b (tagged g E) (foot b vt vo vs) ∧ Fr (foot b vt vo vs) w wx)
        case first =>
          have hc4 : cl = 0 ∨ cl = 1 ∨ cl = 2 ∨ cl = 3 := by omega
          rcases hc4 with hc4 | hc4 | hc4 | hc4 <;> subst hc4
          · cases Z
            · cases P
              · cases M
                · have HX := Px.hid (show tagged g E = F5.wrong g g.place 11 by rw [HE.out]; rfl)
                  go_wp2_with fail

                  refine (wrong_any b g.place 11 g _ _ ⟨_, _, _, HG.out.1, rfl⟩).mono ?_
                  rintro e w' ⟨rfl, hF, hfr⟩
                  have HY := Px.hid (And.intro hF hfr)
                  clear hF hfr
                  go_wp2
                  go_meet
                  rw [HX.out]
                  exact ⟨HY.out.1, HG.out.2.step (Fresh.refl _ _) HY.out.2⟩
                · cases I
                  · have HX := Px.hid (show tagged g E = F5.wrong g g.place 9 by rw [HE.out]; rfl)
                    go_wp2_with fail

                    refine (wrong_any b g.place 9 g _ _ ⟨_, _, _, HG.out.1, rfl⟩).mono ?_
                    rintro e w' ⟨rfl, hF, hfr⟩
                    have HY := Px.hid (And.intro hF hfr)
                    clear hF hfr
                    go_wp2
                    go_meet
                    rw [HX.out]
                    exact ⟨HY.out.1, HG.out.2.step (Fresh.refl _ _) HY.out.2⟩
                  · cases D
                    · have HX := Px.hid (show tagged g E = g by rw [HE.out]; rfl)
                      go_wp2_with fail
                      go_quiet (fail)
                      go_wp2
                      go_meet
                      rw [HX.out]
                      exact ⟨⟨_, _, _, HG.out.1.drewN nq, rfl⟩, HG.out.2.drewN nq⟩
                    · have HX := Px.hid (show tagged g E = F5.wrong g g.place 10 by rw [HE.out]; rfl)
                      go_wp2_with fail
                      go_quiet (fail)
                      go_wp2_with fail

                      refine (wrong_any b g.place 10 g _ _ ⟨_, _, _, HG.out.1.drewN nq, rfl⟩).mono ?_
                      rintro e w' ⟨rfl, hF, hfr⟩
                      have HY := Px.hid (And.intro hF hfr)
                      clear hF hfr
                      go_wp2
                      go_meet
                      rw [HX.out]
                      exact ⟨HY.out.1, (HG.out.2.drewN nq).step (Fresh.refl _ _) HY.out.2⟩
              · cases M
                · cases I
                  · have HX := Px.hid (show tagged g E = g by rw [HE.out]; rfl)
                    go_wp2_with fail
                    go_quiet (fail)
                    go_wp2
                    go_meet
                    rw [HX.out]
                    exact ⟨⟨_, _, _, HG.out.1.drewN nq, rfl⟩, HG.out.2.drewN nq⟩
                  · have HX := Px.hid (show tagged g E = F5.wrong g g.place 9 by rw [HE.out]; rfl)
                    go_wp2_with fail

                    refine (wrong_any b g.place 9 g _ _ ⟨_, _, _, HG.out.1, rfl⟩).mono ?_
                    rintro e w' ⟨rfl, hF, hfr⟩
                    have HY := Px.hid (And.intro hF hfr)
                    clear hF hfr
                    go_wp2
                    go_meet
                    rw [HX.out]
                    exact ⟨HY.out.1, HG.out.2.step (Fresh.refl _ _) HY.out.2⟩
                · cases I
                  · have HX := Px.hid (show tagged g E = F5.wrong g g.place 9 by rw [HE.out]; rfl)
                    go_wp2_with fail

                    refine (wrong_any b g.place 9 g _ _ ⟨_, _, _, HG.out.1, rfl⟩).mono ?_
                    rintro e w' ⟨rfl, hF, hfr⟩
                    have HY := Px.hid (And.intro hF hfr)
                    clear hF hfr
                    go_wp2
                    go_meet
                    rw [HX.out]
                    exact ⟨HY.out.1, HG.out.2.step (Fresh.refl _ _) HY.out.2⟩
                  · cases D
                    · have HX := Px.hid (show tagged g E = g by rw [HE.out]; rfl)
                      go_wp2_with fail
                      go_quiet (fail)
                      go_wp2
                      go_meet
                      rw [HX.out]
                      exact ⟨⟨_, _, _, HG.out.1.drewN nq, rfl⟩, HG.out.2.drewN nq⟩
                    · have HX := Px.hid (show tagged g E = F5.wrong g g.place 10 by rw [HE.out]; rfl)
                      go_wp2_with fail
                      go_quiet (fail)
                      go_wp2_with fail

                      refine (wrong_any b g.place 10 g _ _ ⟨_, _, _, HG.out.1.drewN nq, rfl⟩).mono ?_
                      rintro e w' ⟨rfl, hF, hfr⟩
                      have HY := Px.hid (And.intro hF hfr)
                      clear hF hfr
                      go_wp2
                      go_meet
                      rw [HX.out]
                      exact ⟨HY.out.1, (HG.out.2.drewN nq).step (Fresh.refl _ _) HY.out.2⟩
            · have HX := Px.hid (show tagged g E = F5.wrong g g.place 11 by rw [HE.out]; rfl)
              go_wp2_with fail

              refine (wrong_any b g.place 11 g _ _ ⟨_, _, _, HG.out.1, rfl⟩).mono ?_
              rintro e w' ⟨rfl, hF, hfr⟩
              have HY := Px.hid (And.intro hF hfr)
              clear hF hfr
              go_wp2
              go_meet
              rw [HX.out]
              exact ⟨HY.out.1, HG.out.2.step (Fresh.refl _ _) HY.out.2⟩
          · have HX := Px.hid (show tagged g E = F5.wrong g g.place 11 by rw [HE.out]; rfl)
            go_wp2_with fail

            refine (wrong_any b g.place 11 g _ _ ⟨_, _, _, HG.out.1, rfl⟩).mono ?_
            rintro e w' ⟨rfl, hF, hfr⟩
            have HY := Px.hid (And.intro hF hfr)
            clear hF hfr
            go_wp2
            go_meet
            rw [HX.out]
            exact ⟨HY.out.1, HG.out.2.step (Fresh.refl _ _) HY.out.2⟩
          · cases Z
            · cases I
              · have HX := Px.hid (show tagged g E = g by rw [HE.out]; rfl)
                go_wp2_with fail
                go_quiet (fail)
                go_wp2
                go_meet
                rw [HX.out]
                exact ⟨⟨_, _, _, HG.out.1.drewN nq, rfl⟩, HG.out.2.drewN nq⟩
              · cases D
                · have HX := Px.hid (show tagged g E = g by rw [HE.out]; rfl)
                  go_wp2_with fail
                  go_quiet (fail)
                  go_wp2
                  go_meet
                  rw [HX.out]
                  exact ⟨⟨_, _, _, HG.out.1.drewN nq, rfl⟩, HG.out.2.drewN nq⟩
                · have HX := Px.hid (show tagged g E = F5.wrong g g.place 10 by rw [HE.out]; rfl)
                  go_wp2_with fail
                  go_quiet (fail)
                  go_wp2_with fail

                  refine (wrong_any b g.place 10 g _ _ ⟨_, _, _, HG.out.1.drewN nq, rfl⟩).mono ?_
                  rintro e w' ⟨rfl, hF, hfr⟩
                  have HY := Px.hid (And.intro hF hfr)
                  clear hF hfr
                  go_wp2
                  go_meet
                  rw [HX.out]
                  exact ⟨HY.out.1, (HG.out.2.drewN nq).step (Fresh.refl _ _) HY.out.2⟩
            · have HX := Px.hid (show tagged g E = F5.wrong g g.place 11 by rw [HE.out]; rfl)
              go_wp2_with fail

              refine (wrong_any b g.place 11 g _ _ ⟨_, _, _, HG.out.1, rfl⟩).mono ?_
              rintro e w' ⟨rfl, hF, hfr⟩
              have HY := Px.hid (And.intro hF hfr)
              clear hF hfr
              go_wp2
              go_meet
              rw [HX.out]
              exact ⟨HY.out.1, HG.out.2.step (Fresh.refl _ _) HY.out.2⟩
          · have HX := Px.hid (show tagged g E = F5.wrong g g.place 11 by rw [HE.out]; rfl)
            go_wp2_with fail

            refine (wrong_any b g.place 11 g _ _ ⟨_, _, _, HG.out.1, rfl⟩).mono ?_
            rintro e w' ⟨rfl, hF, hfr⟩
            have HY := Px.hid (And.intro hF hfr)
            clear hF hfr
            go_wp2
            go_meet
            rw [HX.out]
            exact ⟨HY.out.1, HG.out.2.step (Fresh.refl _ _) HY.out.2⟩
        case rest =>
          obtain ⟨⟨vt2, vo2, vs2, h2, hfo⟩, hfr⟩ := hcut
          have c7 : wc.cell? ⟨b, 7, none⟩ = some (waitV b (tagged g E).next) := cellOf h2.blk 7 rfl
          have f7 := h2.free 7
          have HZ := Px.hid (And.intro (h2.set 7 (metV b 52) { tagged g E with next := 1 } rfl rfl rfl rfl) (And.intro hfo (hfr.setCell (p := ⟨b, 7, none⟩) (.inl (.inl rfl)) (metV b 52))))
          clear h2 hfo hfr c9 c0 c6
          go_wp2
          go_end0
          rw [HF.out]
          exact ⟨rfl, ⟨_, _, _, HZ.out.1, HZ.out.2.1⟩, HZ.out.2.2⟩
end Go.Proofs.YtceffhkgnifmeaaDoor

/-! The walk over derfeed's begun: joined. -/
namespace Go.Proofs.YtceffhkgnifmeaaDoor
open Go.RowKit Go.Px

theorem begun_any (b : Nat) (f : F5.Feed) (n : Nat) (F : Nat → Prop) (w : World) (h : FeedAt w b f F) (hok : F5.OkK 1 1 f) (he : f.err = 0) (hn : n ≤ 4294967296) (hF2 : ∀ k, F k → 2 ≤ k) (hT : Tabs w) :
    Calls Tryd.prog 60 #[.pointer (some ⟨b, 0, none⟩), .int .i64 (n : Nat)] w fun r w' => BegunPost w b F (F5.begun f n) r w' := by
  obtain ⟨vt, vo, vs, h, rfl⟩ := h
  rcases hs : f.stack with _ | ⟨x, rest⟩
  · exact begun_n b f n w vt vo vs h hok he hn hF2 hT hs
  · by_cases hx : x.end_ < f.text.length + n
    · exact begun_w b f n w vt vo vs h hok hn hF2 hT x rest hs hx
    · exact begun_c b f n w vt vo vs h hok he hn hF2 hT x rest hs hx
end Go.Proofs.YtceffhkgnifmeaaDoor

/-! The walks over derfeed's length, digit and body. -/
namespace Go.Proofs.YtceffhkgnifmeaaDoor
open Go.RowKit Go.Px

set_option maxRecDepth 100000 in
set_option maxHeartbeats 4000000 in
theorem length_any18 (b : Nat) (f : F5.Feed) (c : UInt8) (F : Nat → Prop) (w : World) (h : FeedAt w b f F) (hok : F5.OkK 1 1 f) (he : f.err = 0) (hF2 : ∀ k, F k → 2 ≤ k) (hT : Tabs w) :
    Calls Tryd.prog 52 #[.pointer (some ⟨b, 0, none⟩), .int .u8 c.toNat] w fun r w' => BegunPost w b F (F5.length f c.toNat) r w' := by
  obtain ⟨t, ht⟩ : ∃ t, t = c.toNat := ⟨_, rfl⟩
  have htb : t < 256 := by rw [ht]; exact c.toNat_lt
  rw [← ht]
  clear ht
  have H := Px.hid (And.intro h (And.intro hok (And.intro he (And.intro hF2 hT))))
  clear h hok he hF2 hT
  by_cases h1 : t < 128
  · have HR := Px.hid (show F5.length f t = F5.begun f t from if_pos h1)
    have h1z : (t : Int) < 128 := by omega
    clear h1
    go_enter Tryd.func52, Tryd.ntmps52
    go_wp2_with fail
    refine (begun_any b f t F w H.out.1 H.out.2.1 H.out.2.2.1 (by omega) H.out.2.2.2.1 H.out.2.2.2.2).mono ?_
    rintro e w' ⟨rfl, F', hF, hfr, hnn⟩
    go_wp2
    go_end0
    rw [HR.out]
    exact ⟨rfl, F', hF, hfr, hnn⟩
  · have h1z : ¬ (t : Int) < 128 := by omega
    by_cases h2 : t = 128 ∨ 132 < t
    · have HR := Px.hid (show F5.length f t = F5.wrong f (f.text.length - 1 : Nat) 9 from (if_neg h1).trans (if_pos h2))
      obtain ⟨vt, vo, vs, hrep, rfl⟩ := H.out.1
      obtain ⟨L, hL⟩ : ∃ L, f.text.length = L := ⟨_, rfl⟩
      have hL1 : 1 ≤ L := by have := H.out.2.1.sb; omega
      have hL2 : L ≤ 1000000 := by have := H.out.2.1.tb; omega
      obtain ⟨ta, tc, htv, _⟩ := hrep.text.len
      have c4 : w.cell? ⟨b, 4, none⟩ = some vt := cellOf hrep.blk 4 rfl
      rw [htv, hL] at c4
      have hwl : IntKind.i64.wrap ((L : Int) - 1) = (L : Int) - 1 := IntWalk.i64_in _ ⟨by omega, by omega⟩
      have HEN := Px.hid (show ((f.text.length - 1 : Nat) : Int) = (L : Int) - 1 by omega)
      have HQ := Px.hid hrep
      clear h1 hrep htv hL
      have h3 : t = 128 ∨ (((t : Int) == 128) = false ∧ (132 : Int) < t) := by
        by_cases e : t = 128
        · exact .inl e
        · exact .inr ⟨by simp; omega, by omega⟩
      clear h2
      rcases h3 with h3 | ⟨h3, h4⟩
      · subst h3
        go_enter Tryd.func52, Tryd.ntmps52
        go_wp2_with fail
        refine (wrong_any b ((L : Int) - 1) 9 f _ _ ⟨_, _, _, HQ.out, rfl⟩).mono ?_
        rintro e w' ⟨rfl, hF, hfr⟩
        go_wp2
        go_end0
        rw [HR.out, HEN.out]
        exact ⟨rfl, _, hF, hfr, Fresh.refl _ _⟩
      · go_enter Tryd.func52, Tryd.ntmps52
        go_wp2_with fail
        refine (wrong_any b ((L : Int) - 1) 9 f _ _ ⟨_, _, _, HQ.out, rfl⟩).mono ?_
        rintro e w' ⟨rfl, hF, hfr⟩
        go_wp2
        go_end0
        rw [HR.out, HEN.out]
        exact ⟨rfl, _, hF, hfr, Fresh.refl _ _⟩
    · have HR := Px.hid (show F5.length f t = { f with number := 0, more := t % 128, next := 2 } from (if_neg h1).trans (if_neg h2))
      have e1 : ((t : Int) == 128) = false := by simp; omega
      have e2 : ¬ (132 : Int) < (t : Int) := by omega
      have hwu : IntKind.u8.wrap ((t : Int) - 128) = (t : Int) - 128 := IntWalk.u8_in _ ⟨by omega, by omega⟩
      have hwi : IntKind.i64.wrap ((t : Int) - 128) = (t : Int) - 128 := IntWalk.i64_in _ ⟨by omega, by omega⟩
      have en : ((t % 128 : Nat) : Int) = (t : Int) - 128 := by omega
      obtain ⟨vt, vo, vs, hrep, rfl⟩ := H.out.1
      have c10 : w.cell? ⟨b, 10, none⟩ = some (.int .i64 (f.number : Nat)) := cellOf hrep.blk 10 rfl
      have c11 : w.cell? ⟨b, 11, none⟩ = some (.int .i64 (f.more : Nat)) := cellOf hrep.blk 11 rfl
      have c7 : w.cell? ⟨b, 7, none⟩ = some (waitV b f.next) := cellOf hrep.blk 7 rfl
      have f10 := hrep.free 10
      have f11 := hrep.free 11
      have f7 := hrep.free 7
      have hz := ((hrep.set 10 (.int .i64 0) { f with number := 0 } rfl rfl rfl rfl).set 11 (.int .i64 (t % 128 : Nat)) { f with number := 0, more := t % 128 } rfl rfl rfl rfl).set 7 (metV b 61) { f with number := 0, more := t % 128, next := 2 } rfl rfl rfl rfl
      have hzf := (((Fr.refl (foot b vt vo vs) w).setCell (p := ⟨b, 10, none⟩) (.inl (.inl rfl)) (.int .i64 0)).setCell (p := ⟨b, 11, none⟩) (.inl (.inl rfl)) (.int .i64 (t % 128 : Nat))).setCell (p := ⟨b, 7, none⟩) (.inl (.inl rfl)) (metV b 61)
      rw [en] at hz hzf
      have HZ := Px.hid (And.intro hz hzf)
      clear hz hzf hrep en h1 h2
      go_enter Tryd.func52, Tryd.ntmps52
      go_wp2
      go_end0
      rw [HR.out]
      exact ⟨rfl, _, ⟨_, _, _, HZ.out.1, rfl⟩, HZ.out.2, Fresh.refl _ _⟩

set_option maxRecDepth 100000 in
set_option maxHeartbeats 4000000 in
theorem digit_any18 (b : Nat) (f : F5.Feed) (c : UInt8) (F : Nat → Prop) (w : World) (h : FeedAt w b f F) (hok : F5.OkK 1 1 f) (he : f.err = 0) (hm : 1 ≤ f.more) (hm2 : f.more ≤ 4) (hn : f.number < 256 ^ (4 - f.more)) (hF2 : ∀ k, F k → 2 ≤ k) (hT : Tabs w) :
    Calls Tryd.prog 61 #[.pointer (some ⟨b, 0, none⟩), .int .u8 c.toNat] w fun r w' => BegunPost w b F (F5.digit f c.toNat) r w' := by
  obtain ⟨t, ht⟩ : ∃ t, t = c.toNat := ⟨_, rfl⟩
  have htb : t < 256 := by rw [ht]; exact c.toNat_lt
  have hn3 : f.number ≤ 16777215 := by
    have : 256 ^ (4 - f.more) ≤ 256 ^ 3 := Nat.pow_le_pow_right (by decide) (by omega)
    omega
  rw [← ht]
  clear ht hn
  obtain ⟨vt, vo, vs, hrep, rfl⟩ := h
  obtain ⟨L, hL⟩ : ∃ L, f.text.length = L := ⟨_, rfl⟩
  have hL1 : 1 ≤ L := by have := hok.sb; omega
  have hL2 : L ≤ 1000000 := by have := hok.tb; omega
  obtain ⟨ta, tc, htv, _⟩ := hrep.text.len
  have c4 : w.cell? ⟨b, 4, none⟩ = some vt := cellOf hrep.blk 4 rfl
  rw [htv, hL] at c4
  have hwl : IntKind.i64.wrap ((L : Int) - 1) = (L : Int) - 1 := IntWalk.i64_in _ ⟨by omega, by omega⟩
  have HEN := Px.hid (show ((f.text.length - 1 : Nat) : Int) = (L : Int) - 1 by omega)
  obtain ⟨n, hnn⟩ : ∃ n, n = f.number := ⟨_, rfl⟩
  obtain ⟨m, hmm⟩ : ∃ m, m = f.more := ⟨_, rfl⟩
  rw [← hnn] at hn3
  rw [← hmm] at hm hm2
  have c10 : w.cell? ⟨b, 10, none⟩ = some (.int .i64 (n : Nat)) := by rw [hnn]; exact cellOf hrep.blk 10 rfl
  have c11 : w.cell? ⟨b, 11, none⟩ = some (.int .i64 (m : Nat)) := by rw [hmm]; exact cellOf hrep.blk 11 rfl
  have f10 := hrep.free 10
  have f11 := hrep.free 11
  have HR := Px.hid (show F5.digit f t = if t == 0 && n == 0 then F5.wrong f (f.text.length - 1 : Nat) 9 else if 0 < m - 1 then { f with number := n * 256 + t, more := m - 1 } else if n * 256 + t < 128 then F5.wrong { f with number := n * 256 + t, more := m - 1 } (f.text.length - 1 : Nat) 9 else F5.begun { f with number := n * 256 + t, more := m - 1 } (n * 256 + t) by rw [hnn, hmm]; rfl)
  have H := Px.hid (And.intro hrep (And.intro hok (And.intro he (And.intro hF2 hT))))
  clear hrep hok he hF2 hT htv hL hnn hmm
  by_cases hz : t = 0 ∧ n = 0
  · have HR1 := Px.hid (HR.out.trans (if_pos (by simp [hz.1, hz.2])))
    obtain ⟨z1, z2⟩ := hz
    subst z1
    subst z2
    clear HR
    go_enter Tryd.func61, Tryd.ntmps61
    go_wp2_with fail
    refine (wrong_any b ((L : Int) - 1) 9 f _ _ ⟨_, _, _, H.out.1, rfl⟩).mono ?_
    rintro e w' ⟨rfl, hF, hfr⟩
    go_wp2
    refine bodyPost_ret (results_none rfl _ _ _) rfl ?_
    rw [HR1.out, HEN.out]
    exact ⟨rfl, _, hF, hfr, Fresh.refl _ _⟩
  · have hz3 : ((t : Int) == 0) = false ∨ (((t : Int) == 0) = true ∧ ((n : Int) == 0) = false) := by
      by_cases e : t = 0
      · exact .inr ⟨by simp [e], by simp; omega⟩
      · exact .inl (by simp; omega)
    have HR1 := Px.hid (HR.out.trans (if_neg (by simpa using hz)))
    have hor := or_byte_i n t htb hn3
    have hwn : IntKind.i64.wrap ((n : Int) * 256) = (n : Int) * 256 := IntWalk.i64_in _ ⟨by omega, by omega⟩
    have hwm : IntKind.i64.wrap ((m : Int) - 1) = (m : Int) - 1 := IntWalk.i64_in _ ⟨by omega, by omega⟩
    have en : ((m - 1 : Nat) : Int) = (m : Int) - 1 := by omega
    have e256 : 256 * n + t = n * 256 + t := by omega
    rw [e256] at hor
    obtain ⟨v, hv⟩ : ∃ v, v = n * 256 + t := ⟨_, rfl⟩
    have hv32 : v ≤ 4294967295 := by omega
    have HV32 := Px.hid hv32
    rw [← hv] at hor HR1
    have hzr := (H.out.1.set 10 (.int .i64 (v : Nat)) { f with number := v } rfl rfl rfl rfl).set 11 (.int .i64 (m - 1 : Nat)) { f with number := v, more := m - 1 } rfl rfl rfl rfl
    have hzf := ((Fr.refl (foot b vt vo vs) w).setCell (p := ⟨b, 10, none⟩) (.inl (.inl rfl)) (.int .i64 (v : Nat))).setCell (p := ⟨b, 11, none⟩) (.inl (.inl rfl)) (.int .i64 (m - 1 : Nat))
    rw [en] at hzr hzf
    have HZ := Px.hid (And.intro hzr hzf)
    have HZO := Px.hid (show F5.OkK 1 1 { f with number := v, more := m - 1 } from ⟨H.out.2.1.sb, H.out.2.1.ob, H.out.2.1.tb, H.out.2.1.each, H.out.2.1.kids, H.out.2.1.pl⟩)
    clear hzr hzf en hz e256 hv HR hn3 hv32
    by_cases hm1 : 0 < m - 1
    · have HR2 := Px.hid (HR1.out.trans (if_pos hm1))
      have hm1z : (0 : Int) < (m : Int) - 1 := by omega
      clear hm1 HR1
      rcases hz3 with hz3 | ⟨hz3, hz4⟩
      · go_enter Tryd.func61, Tryd.ntmps61
        go_wp2
        refine bodyPost_ret (results_none rfl _ _ _) rfl ?_
        rw [HR2.out]
        exact ⟨rfl, _, ⟨_, _, _, HZ.out.1, rfl⟩, HZ.out.2, Fresh.refl _ _⟩
      · go_enter Tryd.func61, Tryd.ntmps61
        go_wp2
        refine bodyPost_ret (results_none rfl _ _ _) rfl ?_
        rw [HR2.out]
        exact ⟨rfl, _, ⟨_, _, _, HZ.out.1, rfl⟩, HZ.out.2, Fresh.refl _ _⟩
    · have HR2 := Px.hid (HR1.out.trans (if_neg hm1))
      have hm1z : ¬ (0 : Int) < (m : Int) - 1 := by omega
      clear hm1 HR1
      by_cases hv1 : v < 128
      · have HR3 := Px.hid (HR2.out.trans (if_pos hv1))
        have hv1z : (v : Int) < 128 := by omega
        clear hv1 HR2
        rcases hz3 with hz3 | ⟨hz3, hz4⟩
        all_goals
          go_enter Tryd.func61, Tryd.ntmps61
          go_wp2_with fail
          refine (wrong_any b ((L : Int) - 1) 9 _ _ _ ⟨_, _, _, HZ.out.1, rfl⟩).mono ?_
          rintro e w' ⟨rfl, hF, hfr⟩
          go_wp2
          refine bodyPost_ret (results_none rfl _ _ _) rfl ?_
          rw [HR3.out, HEN.out]
          exact ⟨rfl, _, hF, HZ.out.2.step (Fresh.refl _ _) hfr, Fresh.refl _ _⟩
      · have HR3 := Px.hid (HR2.out.trans (if_neg hv1))
        have hv1z : ¬ (v : Int) < 128 := by omega
        have HW2 := Px.hid (show 2 ≤ w.heap.size by have := H.out.2.2.2.1 b (.inl rfl); have := H.out.1.lt; omega)
        clear hv1 HR2
        rcases hz3 with hz3 | ⟨hz3, hz4⟩
        all_goals
          go_enter Tryd.func61, Tryd.ntmps61
          go_wp2_with fail
          refine (begun_any b _ v _ _ ⟨_, _, _, HZ.out.1, rfl⟩ HZO.out H.out.2.2.1 (by have := HV32.out; omega) H.out.2.2.2.1 (H.out.2.2.2.2.fr HZ.out.2 H.out.2.2.2.1 HW2.out)).mono ?_
          rintro e w' ⟨rfl, F', hF, hfr, hnn⟩
          go_wp2
          go_end0
          rw [HR3.out]
          exact ⟨rfl, F', hF, HZ.out.2.step (Fresh.refl _ _) hfr, Fresh.trans (Fresh.refl _ _) HZ.out.2.size hnn⟩

set_option maxRecDepth 100000 in
set_option maxHeartbeats 4000000 in
theorem body_any18 (b : Nat) (f : F5.Feed) (c : UInt8) (F : Nat → Prop) (w : World) (h : FeedAt w b f F) (hok : F5.OkK 1 0 f) (hm : 1 ≤ f.more) (hm2 : f.more ≤ 4294967296) (hF2 : ∀ k, F k → 2 ≤ k) (hT : Tabs w) :
    Calls Tryd.prog 64 #[.pointer (some ⟨b, 0, none⟩), .int .u8 c.toNat] w fun r w' => BegunPost w b F (if f.more - 1 == 0 then F5.whole { f with more := f.more - 1 } else { f with more := f.more - 1 }) r w' := by
  obtain ⟨vt, vo, vs, hrep, rfl⟩ := h
  obtain ⟨m, hmm⟩ : ∃ m, m = f.more := ⟨_, rfl⟩
  rw [← hmm] at hm hm2 ⊢
  have c11 : w.cell? ⟨b, 11, none⟩ = some (.int .i64 (m : Nat)) := by rw [hmm]; exact cellOf hrep.blk 11 rfl
  have f11 := hrep.free 11
  have hwm : IntKind.i64.wrap ((m : Int) - 1) = (m : Int) - 1 := IntWalk.i64_in _ ⟨by omega, by omega⟩
  have en : ((m - 1 : Nat) : Int) = (m : Int) - 1 := by omega
  have hzr := hrep.set 11 (.int .i64 (m - 1 : Nat)) { f with more := m - 1 } rfl rfl rfl rfl
  have hzf := (Fr.refl (foot b vt vo vs) w).setCell (p := ⟨b, 11, none⟩) (.inl (.inl rfl)) (.int .i64 (m - 1 : Nat))
  have hzt := hT.fr hzf hF2 (by have := hF2 b (.inl rfl); have := hrep.lt; omega)
  rw [en] at hzr hzf hzt
  have HZ := Px.hid (And.intro hzr (And.intro hzf hzt))
  have HZO := Px.hid (show F5.OkK 1 0 { f with more := m - 1 } from ⟨hok.sb, hok.ob, hok.tb, hok.each, hok.kids, hok.pl⟩)
  clear hzr hzf hzt en hrep hok hT hmm hF2
  by_cases m1 : m = 1
  · subst m1
    go_enter Tryd.func64, Tryd.ntmps64
    go_wp2_with fail
    refine (whole_any b { f with more := 1 - 1 } _ _ ⟨_, _, _, HZ.out.1, rfl⟩ HZO.out HZ.out.2.2).mono ?_
    rintro e w' ⟨rfl, F', hF, hfr, hnn⟩
    go_wp2
    go_end0
    exact ⟨rfl, F', hF, HZ.out.2.1.step (Fresh.refl _ _) hfr, Fresh.trans (Fresh.refl _ _) HZ.out.2.1.size hnn⟩
  · have hz : ((m : Int) - 1 == 0) = false := by simp; omega
    rw [if_neg (show ¬ (m - 1 == 0) = true by simp; omega)]
    clear m1
    go_enter Tryd.func64, Tryd.ntmps64
    go_wp2
    go_end0
    exact ⟨rfl, _, ⟨_, _, _, HZ.out.1, rfl⟩, HZ.out.2.1, Fresh.refl _ _⟩
end Go.Proofs.YtceffhkgnifmeaaDoor

/-! The walk over derfeed's Write. -/
namespace Go.Proofs.YtceffhkgnifmeaaDoor
open Go.RowKit Go.Px

@[go_sem] theorem eqg_func (op : BinOp) (t : TypeId) (x y : Operand) (fn : Fn) (a b : Array Value) (w : World) : (eqGuard op t x y (.func fn a b) .nilFunc).run Tryd.prog w = .ok () w := by cases op <;> rfl
@[go_sem] theorem eqg_nilf (op : BinOp) (t : TypeId) (x y : Operand) (w : World) : (eqGuard op t x y .nilFunc .nilFunc).run Tryd.prog w = .ok () w := by cases op <;> rfl
@[go_sem] theorem eql_func (fn : Fn) (a b : Array Value) (w : World) : (binOp .eql 58 (.func fn a b) .nilFunc).run Tryd.prog w = .ok (.bool false) w := by kernel_rfl
@[go_sem] theorem eql_nilf (w : World) : (binOp .eql 58 .nilFunc .nilFunc).run Tryd.prog w = .ok (.bool true) w := by kernel_rfl
@[go_sem] theorem neq_func (fn : Fn) (a b : Array Value) (w : World) : (binOp .neq 58 (.func fn a b) .nilFunc).run Tryd.prog w = .ok (.bool true) w := by kernel_rfl
@[go_sem] theorem neq_nilf (w : World) : (binOp .neq 58 .nilFunc .nilFunc).run Tryd.prog w = .ok (.bool false) w := by kernel_rfl
theorem write_drop (f : F5.Feed) (s : List UInt8) (k : Nat) (hk : k < s.length) (h : f.err = 0) : F5.write f (s.drop k) = F5.write (F5.byte f s[k]) (s.drop (k + 1)) := by
  rw [List.drop_eq_getElem_cons hk, F5.write_cons, if_pos (by rw [h]; rfl)]
theorem write_err (f : F5.Feed) {s : List UInt8} (h : f.err ≠ 0) : F5.write f s = f := F5.write_stop (by simpa using h) s
set_option maxRecDepth 100000 in
set_option maxHeartbeats 4000000 in
theorem write_any (b : Nat) (f : F5.Feed) (s : List UInt8) (F : Nat → Prop) (w : World) (h : FeedAt w b f F) (hok : F5.Fits f) (hs : s.length ≤ maxLen) (hF2 : ∀ k, F k → 2 ≤ k) (hT : Tabs w) :
    Calls Tryd.prog 25 #[.pointer (some ⟨b, 0, none⟩), S s] w fun r w' => r = .returned (.int .i64 (F5.write f s).err) ∧ ∃ F', FeedAt w' b (F5.write f s) F' ∧ Fr F w w' ∧ Fresh w F F' ∧ F5.Fits (F5.write f s) := by
  unfold maxLen at hs
  have hm := may_parts hok.may
  have c2 : w.cell? ⟨b, 2, none⟩ = some (.int .i64 f.lim.b) := by obtain ⟨vt, vo, vs, h, rfl⟩ := h; exact cellOf h.blk 2 rfl
  have h0 : (f.lim.b == 0) = false := by simp; omega
  have hw2 : 2 ≤ w.heap.size := by obtain ⟨vt, vo, vs, h, rfl⟩ := h; have := h.lt; have := hF2 b (.inl rfl); omega
  have hsz : (ByteArray.mk s.toArray).size = s.length := size_S s
  have H := Px.hid (And.intro h (And.intro hok hT))
  clear h hok hT hm
  go_enter Tryd.func25, Tryd.ntmps25
  go_wp2
  go_loopw [5] (fun i wr => ∃ k q F', k ≤ s.length ∧ i = .int .i64 (k : Nat) ∧ FeedAt wr b q F' ∧ Fr F w wr ∧ Fresh w F F' ∧ F5.Fits q ∧ F5.write f s = F5.write q (s.drop k)) (fun i _ => s.length - (intOf i).toNat)
  case atStart => exact ⟨0, f, F, Nat.zero_le _, rfl, H.out.1, Fr.refl _ _, Fresh.refl _ _, H.out.2.1, by simp⟩
  case round =>
    obtain ⟨k, q, F', hk, rfl, hq, hfr, hfs, hok, hwr⟩ := hrel
    have HF2 : ∀ j, F' j → 2 ≤ j := fun j hj => by rcases hfs j hj with x | x; exact hF2 j x; omega
    have HT := Px.hid (H.out.2.2.fr hfr hF2 hw2)
    have HW2 : 2 ≤ wr.heap.size := by have := hfr.size; omega
    have HFR := Px.hid (And.intro hfr hfs)
    have HOK := Px.hid hok
    have HWR := Px.hid hwr
    clear hfr hfs hok hwr H c2 h0
    obtain ⟨vt, vo, vs, h, rfl⟩ := hq
    have HQ := Px.hid h
    have c12 : wr.cell? ⟨b, 12, none⟩ = some (.int .i64 q.err) := cellOf h.blk 12 rfl
    clear h
    by_cases hlt : k < s.length
    · have hltz : (k : Int) < (s.length : Int) := by omega
      by_cases he : q.err = 0
      · have he' : (q.err == 0) = true := by simpa using he
        have hm := may_parts HOK.out.may
        have hbl := HOK.out.tl
        have HWR := Px.hid (HWR.out.trans (write_drop q s k hlt he))
        have HOKB := Px.hid (HOK.out.byte he s[k])
        obtain ⟨c, hc⟩ : ∃ c, s[k] = c := ⟨_, rfl⟩
        rw [hc] at HWR HOKB
        have hidx : ∀ w', (Instr.index 9 (S s) (.int .i64 (k : Int))).run Tryd.prog w' = .ok (.int .u8 c.toNat) w' := fun w' => by
          have e := idx_S s k hlt w'
          have hg : s.getD k 0 = c := by rw [← hc]; simp [hlt]
          rw [hg] at e
          exact e
        have HE := Px.hid he
        have hql : q.text.length ≤ 1000000 := by have := HOK.out.ok.tb; omega
        clear he hm hc
        obtain ⟨ta, tc, htv, _⟩ := HQ.out.text.len
        have c4 : wr.cell? ⟨b, 4, none⟩ = some (.slice ta q.text.length tc) := by rw [← htv]; exact cellOf HQ.out.blk 4 rfl
        have c2 : wr.cell? ⟨b, 2, none⟩ = some (.int .i64 q.lim.b) := cellOf HQ.out.blk 2 rfl
        have HTV := Px.hid htv
        clear htv
        rcases Bool.eq_false_or_eq_true ((q.text.length : Int) == q.lim.b) with hd | hd
        · have HB := Px.hid (show F5.byte q c = F5.wrong q q.lim.b 10 by unfold F5.byte; rw [if_pos hd])
          go_wp2_with fail
          go_quiet (fail)
          have HX := Px.hid (HQ.out.drewN nq)
          have HXF := Px.hid (HFR.out.1.drewN nq)
          obtain ⟨WX, hWX⟩ : ∃ WX, WX = wr.drewN nq := ⟨_, rfl⟩
          rw [← hWX] at HX HXF ⊢
          clear hWX c2 c4 c12
          have c2 : WX.cell? ⟨b, 2, none⟩ = some (.int .i64 q.lim.b) := cellOf HX.out.blk 2 rfl
          go_wp2_with fail
          refine (wrong_any b q.lim.b 10 q _ _ ⟨_, _, _, HX.out, rfl⟩).mono ?_
          rintro e w' ⟨rfl, hF, hfr⟩
          have c12 : w'.cell? ⟨b, 12, none⟩ = some (.int .i64 10) := by obtain ⟨_, _, _, hF, _⟩ := hF; exact cellOf hF.blk 12 rfl
          have HE2 := Px.hid (And.intro hF hfr)
          clear hF hfr
          go_wp2
          go_ret
          rw [HB.out] at HWR HOKB
          rw [HWR.out, write_err _ (by simp [F5.wrong])]
          exact ⟨rfl, _, HE2.out.1, HXF.out.step HFR.out.2 HE2.out.2, HFR.out.2, HOKB.out⟩
        · have hd' : ¬ (q.text.length : Int) = q.lim.b := by simpa using hd
          have HQB : q.text.length + 1 ≤ 262144 := by have h1 := (may_parts HOK.out.may).2.2.2.2.2.1; omega
          have HQB := Px.hid HQB
          go_wp2_with fail
          go_quiet (fail)
          have HX := Px.hid (HQ.out.drewN nq)
          have HXF := Px.hid (HFR.out.1.drewN nq)
          have HT := Px.hid (HT.out.drewN nq)
          obtain ⟨WX, hWX⟩ : ∃ WX, WX = wr.drewN nq := ⟨_, rfl⟩
          rw [← hWX] at HX HXF HT ⊢
          clear hWX c2 c4 c12
          have c4 : WX.cell? ⟨b, 4, none⟩ = some vt := cellOf HX.out.blk 4 rfl
          have f4 := HX.out.free 4
          have hb : b < WX.heap.size := HX.out.lt
          obtain ⟨i0, hi0, hz0, hz1, hz2⟩ := info_parts Tryd.infoU8F
          go_upto_region 8 with fail
          go_cut [] (fun wx => AfterText WX wx b q c vt vo vs)
          case first =>
            go_region_law
              ((refine step_append_lies _ (by rfl) _ _ _ (by rfl) 0 5 i0 _ 1 1 Tryd.underlying42 hi0 hz0 hz1 hz2 rfl (by omega) vt q.text.length (q.text.flatMap cByte) (by rfl) ((HX.out.text.alloc _).drew)
                    ⟨WX.heap.size, 0, none⟩ 1 1 (cByte c) (by rfl) (by rfl) (World.news_of_block (cs := #[.int .u8 c.toNat]) (t := 5) (fr := (0, 0)) (heap_alloc_new WX _)) (by simp [cByte, Value.oneCell'])
                    (by omega) (by unfold maxLen; omega) (by omega) (by simp) (WX.heap.size + 1) (by simp) ?_; intro gg cap w1 hown1 hgrow hat hlt; have k4 := grown_cell hgrow c4 HX.out.tb.ne; have e4 := grown_free hgrow c4 f4 HX.out.tb.ne))
            all_goals (go_wp2_with fail; go_meet; exact HX.out.afterText hown1 (grown_alloc hgrow) (hat.imp id (fun e => by omega)))
          case rest =>
            obtain ⟨vt', hy, hyf, hyn⟩ := hcut
            have HY := Px.hid hy
            have HF3 : ∀ j, foot b vt' vo vs j → 2 ≤ j := fun j hj => by rcases hyn j hj with x | x; exact HF2 j x; have := HXF.out.size; omega
            have HX1 := Px.hid (And.intro (HXF.out.step HFR.out.2 hyf) (Fresh.trans HFR.out.2 HXF.out.size hyn))
            have HT1 := Px.hid (HT.out.fr hyf HF2 (by have := HXF.out.size; omega))
            have HG := Px.hid (HOK.out.ok.more c HQB.out)
            have HON := Px.hid (HOK.out.on HE.out)
            have hby : F5.byte q c = _ := F5.byte_on hd' c
            have HBY := Px.hid hby
            have c7 : wc.cell? ⟨b, 7, none⟩ = some (waitV b q.next) := cellOf hy.blk 7 rfl
            clear hy hyf hyn c4 f4 hd' hby
            have hnx := HON.out
            rcases hnx with n0 | n0 | ⟨n0, m1, m2, m3⟩ | ⟨n0, m1, m2⟩ | n0
            · rw [n0] at c7
              replace c7 : wc.cell? ⟨b, 7, none⟩ = some (.func (.func 41) #[.pointer (some ⟨b, 0, none⟩)] #[]) := c7
              have HB := Px.hid (show F5.byte q c = F5.begins { q with text := q.text ++ [c] } c by rw [HBY.out]; unfold F5.byteOn; simp only [n0]; rfl)
              have HN0 := Px.hid n0
              clear n0 HBY HON
              go_upto_region 11 with fail
              go_region_with
                (go_at_call 41; refine (begins_any b { q with text := q.text ++ [c] } c _ _ ⟨_, _, _, HY.out.drew, rfl⟩ HG.out).mono ?_; rintro e w' ⟨rfl, hF, hfr⟩)
              all_goals
                have HE2 := Px.hid (And.intro hF (And.intro (((Fr.refl (foot b vt' vo vs) wc).drew).step (Fresh.refl _ _) hfr) (Fresh.refl wc (foot b vt' vo vs))))
                clear hF hfr c7
                go_wp2
                go_roundw
                case rel =>
                  refine ⟨k + 1, _, _, by omega, by go_num, HE2.out.1, HX1.out.1.step HX1.out.2 HE2.out.2.1, Fresh.trans HX1.out.2 HX1.out.1.size HE2.out.2.2, ?_, ?_⟩
                  · have := HOKB.out; rw [HB.out] at this; exact this
                  · rw [HWR.out, HB.out]
                case measure => simp [intOf]; omega
            · rw [n0] at c7
              replace c7 : wc.cell? ⟨b, 7, none⟩ = some (.func (.func 52) #[.pointer (some ⟨b, 0, none⟩)] #[]) := c7
              have HB := Px.hid (show F5.byte q c = F5.length { q with text := q.text ++ [c] } c.toNat by rw [HBY.out]; unfold F5.byteOn; simp only [n0]; rfl)
              have HN0 := Px.hid n0
              clear n0 HBY HON
              go_upto_region 11 with fail
              go_region_with
                (go_at_call 52; refine (length_any18 b { q with text := q.text ++ [c] } c _ _ ⟨_, _, _, HY.out.drew, rfl⟩ HG.out HE.out HF3 HT1.out.drew).mono ?_; rintro e w' ⟨rfl, F2, hF, hfr, hnn⟩)
              all_goals
                have HE2 := Px.hid (And.intro hF (And.intro (((Fr.refl (foot b vt' vo vs) wc).drew).step (Fresh.refl _ _) hfr) (show Fresh wc (foot b vt' vo vs) F2 from hnn)))
                clear hF hfr hnn c7
                go_wp2
                go_roundw
                case rel =>
                  refine ⟨k + 1, _, _, by omega, by go_num, HE2.out.1, HX1.out.1.step HX1.out.2 HE2.out.2.1, Fresh.trans HX1.out.2 HX1.out.1.size HE2.out.2.2, ?_, ?_⟩
                  · have := HOKB.out; rw [HB.out] at this; exact this
                  · rw [HWR.out, HB.out]
                case measure => simp [intOf]; omega
            · rw [n0] at c7
              replace c7 : wc.cell? ⟨b, 7, none⟩ = some (.func (.func 61) #[.pointer (some ⟨b, 0, none⟩)] #[]) := c7
              have HB := Px.hid (show F5.byte q c = F5.digit { q with text := q.text ++ [c] } c.toNat by rw [HBY.out]; unfold F5.byteOn; simp only [n0]; rfl)
              have HMM := Px.hid (And.intro m1 (And.intro m2 m3))
              clear m1 m2 m3
              have HN0 := Px.hid n0
              clear n0 HBY HON
              go_upto_region 11 with fail
              go_region_with
                (go_at_call 61; refine (digit_any18 b { q with text := q.text ++ [c] } c _ _ ⟨_, _, _, HY.out.drew, rfl⟩ HG.out HE.out HMM.out.1 HMM.out.2.1 HMM.out.2.2 HF3 HT1.out.drew).mono ?_; rintro e w' ⟨rfl, F2, hF, hfr, hnn⟩)
              all_goals
                have HE2 := Px.hid (And.intro hF (And.intro (((Fr.refl (foot b vt' vo vs) wc).drew).step (Fresh.refl _ _) hfr) (show Fresh wc (foot b vt' vo vs) F2 from hnn)))
                clear hF hfr hnn c7
                go_wp2
                go_roundw
                case rel =>
                  refine ⟨k + 1, _, _, by omega, by go_num, HE2.out.1, HX1.out.1.step HX1.out.2 HE2.out.2.1, Fresh.trans HX1.out.2 HX1.out.1.size HE2.out.2.2, ?_, ?_⟩
                  · have := HOKB.out; rw [HB.out] at this; exact this
                  · rw [HWR.out, HB.out]
                case measure => simp [intOf]; omega
            · rw [n0] at c7
              replace c7 : wc.cell? ⟨b, 7, none⟩ = some (.func (.func 64) #[.pointer (some ⟨b, 0, none⟩)] #[]) := c7
              have HB := Px.hid (show F5.byte q c = if q.more - 1 == 0 then F5.whole { q with text := q.text ++ [c], more := q.more - 1 } else { q with text := q.text ++ [c], more := q.more - 1 } by rw [HBY.out]; unfold F5.byteOn; simp only [n0]; rfl)
              have HMM := Px.hid (And.intro m1 m2)
              clear m1 m2
              have HN0 := Px.hid n0
              clear n0 HBY HON
              go_upto_region 11 with fail
              go_region_with
                (go_at_call 64; refine (body_any18 b { q with text := q.text ++ [c] } c _ _ ⟨_, _, _, HY.out.drew, rfl⟩ (HG.out.mono (Nat.le_refl _) (Nat.zero_le _)) HMM.out.1 HMM.out.2 HF3 HT1.out.drew).mono ?_; rintro e w' ⟨rfl, F2, hF, hfr, hnn⟩)
              all_goals
                have HE2 := Px.hid (And.intro hF (And.intro (((Fr.refl (foot b vt' vo vs) wc).drew).step (Fresh.refl _ _) hfr) (show Fresh wc (foot b vt' vo vs) F2 from hnn)))
                clear hF hfr hnn c7
                go_wp2
                go_roundw
                case rel =>
                  refine ⟨k + 1, _, _, by omega, by go_num, HE2.out.1, HX1.out.1.step HX1.out.2 HE2.out.2.1, Fresh.trans HX1.out.2 HX1.out.1.size HE2.out.2.2, ?_, ?_⟩
                  · have := HOKB.out; rw [HB.out] at this; exact this
                  · rw [HWR.out, HB.out]
                case measure => simp [intOf]; omega
            · rw [n0] at c7
              replace c7 : wc.cell? ⟨b, 7, none⟩ = some .nilFunc := c7
              have HB := Px.hid (show F5.byte q c = F5.wrong { q with text := q.text ++ [c] } q.text.length 9 by rw [HBY.out]; unfold F5.byteOn; simp only [n0]; rw [show (q.text ++ [c]).length - 1 = q.text.length by simp]; rfl)
              obtain ⟨ta2, tc2, htv2, _⟩ := HY.out.text.len
              have htv2 : vt' = .slice ta2 (q.text.length + 1) tc2 := by rw [htv2]; simp
              have c4 : wc.cell? ⟨b, 4, none⟩ = some (.slice ta2 (q.text.length + 1) tc2) := by rw [← htv2]; exact cellOf HY.out.blk 4 rfl
              clear htv2 n0 HBY HON
              go_wp2_with fail
              refine (wrong_any b (q.text.length : Nat) 9 { q with text := q.text ++ [c] } _ _ ⟨_, _, _, HY.out, rfl⟩).mono ?_
              rintro e w' ⟨rfl, hF, hfr⟩
              have c12 : w'.cell? ⟨b, 12, none⟩ = some (.int .i64 9) := by obtain ⟨_, _, _, hF, _⟩ := hF; exact cellOf hF.blk 12 rfl
              have HE2 := Px.hid (And.intro hF hfr)
              clear hF hfr c7 c4
              go_wp2
              go_ret
              rw [HB.out] at HWR HOKB
              rw [HWR.out, write_err _ (by simp [F5.wrong])]
              exact ⟨rfl, _, HE2.out.1, HX1.out.1.step HX1.out.2 HE2.out.2, HX1.out.2, HOKB.out⟩
      · have he' : (q.err == 0) = false := by simpa using he
        have HWE := Px.hid (HWR.out.trans (write_err _ he))
        clear he
        go_wp2
        go_ret
        rw [HWE.out]
        exact ⟨rfl, _, ⟨_, _, _, HQ.out, rfl⟩, HFR.out.1, HFR.out.2, HOK.out⟩
    · have hlt' : ¬ (k : Int) < (s.length : Int) := by omega
      have HWE := Px.hid (HWR.out.trans (by rw [List.drop_eq_nil_of_le (by omega)]; rfl : F5.write q (s.drop k) = q))
      go_wp2
      go_ret
      rw [HWE.out]
      exact ⟨rfl, _, ⟨_, _, _, HQ.out, rfl⟩, HFR.out.1, HFR.out.2, HOK.out⟩
end Go.Proofs.YtceffhkgnifmeaaDoor

/-! The walks over derfeed's New, End, State; and of a nil and a zero feed. -/
namespace Go.Proofs.YtceffhkgnifmeaaDoor
open Go.RowKit Go.Px

theorem wait_func (b n : Nat) (h : n ≤ 3) : ∃ k, waitV b n = .func (.func k) #[.pointer (some ⟨b, 0, none⟩)] #[] := by
  match n, h with
  | 0, _ => exact ⟨_, rfl⟩
  | 1, _ => exact ⟨_, rfl⟩
  | 2, _ => exact ⟨_, rfl⟩
  | 3, _ => exact ⟨_, rfl⟩
theorem FeedAt.same {w w' : World} {b : Nat} {f : F5.Feed} {F : Nat → Prop} (h : FeedAt w b f F) (hs : Same w w') : FeedAt w' b f F := by
  obtain ⟨vt, vo, vs, h, e⟩ := h
  exact ⟨vt, vo, vs, h.fr hs (fun _ _ x => x), e⟩
theorem state_any (b : Nat) (f : F5.Feed) (F : Nat → Prop) (w : World) (h : FeedAt w b f F) :
    Calls Tryd.prog 28 #[.pointer (some ⟨b, 0, none⟩)] w fun e w' => e = .returned (.tuple #[.int .i64 f.text.length, .int .i64 f.stack.length]) ∧ Same w w' := by
  obtain ⟨vt, vo, vs, h, rfl⟩ := h
  obtain ⟨ta, tc, htv, _⟩ := h.text.len
  obtain ⟨sa, sc, hsv⟩ := h.stackLen
  have c4 : w.cell? ⟨b, 4, none⟩ = some (.slice ta f.text.length tc) := by rw [← htv]; exact cellOf h.blk 4 rfl
  have c6 : w.cell? ⟨b, 6, none⟩ = some (.slice sa f.stack.length sc) := by rw [← hsv]; exact cellOf h.blk 6 rfl
  clear htv hsv h
  go_enter Tryd.func28, Tryd.ntmps28
  go_wp2_with fail
  go_quiet (fail)
  go_wp2
  go_ret2
  exact ⟨rfl, (Fr.refl _ w).drewN nq⟩
theorem state_nil (w : World) : Calls Tryd.prog 28 #[.pointer none] w fun e w' => e = .returned (.tuple #[.int .i64 0, .int .i64 0]) ∧ Same w w' := by
  go_enter Tryd.func28, Tryd.ntmps28
  go_wp2
  go_ret2
  exact ⟨rfl, Same.refl w⟩
theorem end_nil (w : World) : Calls Tryd.prog 27 #[.pointer none] w fun e w' => e = .returned (.tuple #[.slice none 0 0, .int .i64 0, .int .i64 1]) ∧ Same w w' := by
  go_enter Tryd.func27, Tryd.ntmps27
  go_wp2
  go_ret3
  exact ⟨rfl, Same.refl w⟩
theorem write_nil (s : List UInt8) (w : World) : Calls Tryd.prog 25 #[.pointer none, S s] w fun e w' => e = .returned (.int .i64 1) ∧ Same w w' := by
  go_enter Tryd.func25, Tryd.ntmps25
  go_wp2
  go_ret
  exact ⟨rfl, Same.refl w⟩
theorem end_zero (b : Nat) (w : World) (c2 : w.cell? ⟨b, 2, none⟩ = some (.int .i64 0)) : Calls Tryd.prog 27 #[.pointer (some ⟨b, 0, none⟩)] w fun e w' => e = .returned (.tuple #[.slice none 0 0, .int .i64 0, .int .i64 1]) ∧ Same w w' := by
  go_enter Tryd.func27, Tryd.ntmps27
  go_wp2
  go_ret3
  exact ⟨rfl, Same.refl w⟩
theorem write_zero (b : Nat) (s : List UInt8) (w : World) (c2 : w.cell? ⟨b, 2, none⟩ = some (.int .i64 0)) : Calls Tryd.prog 25 #[.pointer (some ⟨b, 0, none⟩), S s] w fun e w' => e = .returned (.int .i64 1) ∧ Same w w' := by
  go_enter Tryd.func25, Tryd.ntmps25
  go_wp2
  go_ret
  exact ⟨rfl, Same.refl w⟩

theorem new_no (l : Lim) (w : World) (hm : l.may = false) : Calls Tryd.prog 23 #[limV l] w fun e w' => e = .returned (.tuple #[.pointer none, .int .i64 2]) ∧ Same w w' := by
  have H := Px.hid hm
  clear hm
  unfold limV
  go_enter Tryd.func23, Tryd.ntmps23
  go_wp2_with fail
  refine (derMay_any l _).mono ?_
  rintro e w' ⟨rfl, hs⟩
  have HS := Px.hid (Same.trans ((Fr.refl (fun _ => False) w).alloc _) hs)
  clear hs
  rw [H.out]
  go_wp2
  go_ret2
  exact ⟨rfl, HS.out⟩
theorem new_yes (l : Lim) (w : World) (hm : l.may = true) : Calls Tryd.prog 23 #[limV l] w fun e w' => ∃ b, e = .returned (.tuple #[.pointer (some ⟨b, 0, none⟩), .int .i64 0]) ∧ Same w w' ∧ w.heap.size ≤ b ∧ FeedAt w' b (F5.init l) (fun k => k = b) := by
  have H := Px.hid hm
  clear hm
  unfold limV
  go_enter Tryd.func23, Tryd.ntmps23
  go_wp2_with fail
  refine (derMay_any l _).mono ?_
  rintro e w' ⟨rfl, hs⟩
  have HS := Px.hid (Same.trans ((Fr.refl (fun _ => False) w).alloc _) hs)
  have c0 : w'.cell? ⟨w.heap.size, 0, none⟩ = some (.int .i64 l.d) := (hs.cell (p := ⟨w.heap.size, 0, none⟩) (by simp) (fun x => x)).trans (cellOf (heap_alloc_new w _) 0 rfl)
  have c1 : w'.cell? ⟨w.heap.size, 1, none⟩ = some (.int .i64 l.i) := (hs.cell (p := ⟨w.heap.size, 1, none⟩) (by simp) (fun x => x)).trans (cellOf (heap_alloc_new w _) 1 rfl)
  have c2 : w'.cell? ⟨w.heap.size, 2, none⟩ = some (.int .i64 l.b) := (hs.cell (p := ⟨w.heap.size, 2, none⟩) (by simp) (fun x => x)).trans (cellOf (heap_alloc_new w _) 2 rfl)
  have c3 : w'.cell? ⟨w.heap.size, 3, none⟩ = some (.int .i64 l.r) := (hs.cell (p := ⟨w.heap.size, 3, none⟩) (by simp) (fun x => x)).trans (cellOf (heap_alloc_new w _) 3 rfl)
  clear hs
  rw [H.out]
  go_wp2
  go_ret2
  refine ⟨w'.heap.size, rfl, HS.out.alloc _, HS.out.size, .slice none 0 0, .slice none 0 0, .slice none 0 0, ⟨heap_alloc_new w' _, owns_nil _ _ _ _, owns_nil _ _ _ _, owns_nil _ _ _ _, ?_, ?_, ?_, ?_, ?_, ?_⟩, ?_⟩
  · intro k hk; simp [Value.ownBlock] at hk
  · intro k hk; simp [Value.ownBlock] at hk
  · intro k hk; simp [Value.ownBlock] at hk
  · intro k hk; simp [Value.ownBlock] at hk
  · intro k hk; simp [Value.ownBlock] at hk
  · intro k hk; simp [Value.ownBlock] at hk
  · funext k; simp [foot, Value.ownBlock]

theorem node_oneF (l : List Px.Node) : ∀ u ∈ l.flatMap cNode, u.oneCell' = true := by
  intro u hu
  simp only [List.mem_flatMap] at hu
  obtain ⟨a, _, hu⟩ := hu
  simp only [cNode, List.mem_cons, List.not_mem_nil, or_false] at hu
  rcases hu with rfl | rfl | rfl <;> rfl

set_option maxRecDepth 100000 in
set_option maxHeartbeats 1000000 in
theorem end_any (b : Nat) (f : F5.Feed) (F : Nat → Prop) (w : World) (h : FeedAt w b f F) (hb0 : f.lim.b ≠ 0) (ho : f.out.length ≤ 1000000) (hne : f.err = 0 → f.next = 4 → f.out ≠ []) (hnx : f.err = 0 → f.next ≤ 4) :
    Calls Tryd.prog 27 #[.pointer (some ⟨b, 0, none⟩)] w fun e w' => ∃ v, e = .returned (.tuple #[v, .int .i64 (F5.End f).2.1, .int .i64 (F5.End f).2.2]) ∧ Owns w' 63 3 cNode v (F5.End f).1 ∧ Same w w' ∧ (∀ k, v.ownBlock = some k → w.heap.size ≤ k) := by
  obtain ⟨vt, vo, vs, h, rfl⟩ := h
  have h0 : (f.lim.b == 0) = false := by simpa using hb0
  have c2 : w.cell? ⟨b, 2, none⟩ = some (.int .i64 f.lim.b) := cellOf h.blk 2 rfl
  have c12 : w.cell? ⟨b, 12, none⟩ = some (.int .i64 f.err) := cellOf h.blk 12 rfl
  have c13 : w.cell? ⟨b, 13, none⟩ = some (.int .i64 f.at_) := cellOf h.blk 13 rfl
  have c7 : w.cell? ⟨b, 7, none⟩ = some (waitV b f.next) := cellOf h.blk 7 rfl
  clear hb0
  by_cases he : f.err = 0
  · have he' : (f.err == 0) = true := by simpa using he
    have he2 : (f.err != 0) = false := by simp [he]
    by_cases hn : f.next = 4
    · have hn2 : (f.next != 4) = false := by simp [hn]
      have HE := Px.hid (show F5.End f = (f.out, 0, 0) by simp [F5.End, he2, hn2])
      have he0 := he
      clear he
      rw [hn] at c7
      replace c7 : w.cell? ⟨b, 7, none⟩ = some .nilFunc := c7
      obtain ⟨oa, oc, hov, hoc1, hoc2, hon⟩ := h.out.len
      have c5 : w.cell? ⟨b, 5, none⟩ = some (.slice oa f.out.length oc) := by rw [← hov]; exact cellOf h.blk 5 rfl
      have hpos : 0 < f.out.length := List.length_pos_iff.2 (hne he0 hn)
      obtain ⟨g, rfl⟩ : ∃ g, oa = some ⟨g, 0, none⟩ := by
        obtain ⟨g, cap, hv, _⟩ := h.out.at cNode_len (j := 0) (a := f.out[0]) (by simp [hpos])
        rw [hov] at hv
        simp only [Value.slice.injEq] at hv
        exact ⟨g, hv.1⟩
      have hown : w.ownsRow 0 63 3 (.slice (some ⟨g, 0, none⟩) f.out.length oc) f.out.length (f.out.flatMap cNode) := by have := h.out; rw [hov] at this; exact this
      have HC := Px.hid (hown.cells (g := g) rfl)
      obtain ⟨i0, hi0, hz0, hz1, hz2⟩ := info_parts Tryd.infoNode
      clear he0 hn hov hon h hown hoc1 hoc2
      go_enter Tryd.func27, Tryd.ntmps27
      go_wp2_with (at_builtin; refine wpList_append_lies _ rfl _ _ _ rfl 0 63 i0 _ 3 32 Tryd.underlying25 hi0 hz0 hz1 hz2 rfl (by omega) (.slice none 0 0) 0 [] rfl (World.ownsRow_nil _ _ _ _) ⟨g, 0, none⟩ f.out.length oc (f.out.flatMap cNode) rfl (flat_len cNode_len _) HC.out (node_oneF _) hpos (by unfold maxLen; omega) (by omega) (by omega) w.heap.size rfl ?_)
      intro gg cap w1 hown1 hgrow hat hlt
      have HW := Px.hid (And.intro hown1 (And.intro hgrow hat))
      clear hown1 hgrow hat
      go_wp2
      go_ret3
      rw [HE.out]
      obtain ⟨h1, h2, h3⟩ := HW.out
      refine ⟨.slice (some ⟨gg, 0, none⟩) f.out.length cap, rfl, ?_, (Fr.refl _ w).grown h2 (fun k e => by simp [Value.ownBlock] at e), fun k hk => ?_⟩
      · unfold Owns
        simpa using h1
      · simp only [Value.ownBlock, Option.some.injEq] at hk
        subst hk
        rcases h3 with e | e
        · simp [Value.ownBlock] at e
        · omega
    · have hn2 : (f.next != 4) = true := by simp [hn]
      have HE := Px.hid (show F5.End f = ([], (f.text.length : Int), 9) by simp [F5.End, he2, hn2])
      obtain ⟨ta, tc, htv, _⟩ := h.text.len
      have c4 : w.cell? ⟨b, 4, none⟩ = some (.slice ta f.text.length tc) := by rw [← htv]; exact cellOf h.blk 4 rfl
      obtain ⟨kf, hkf⟩ := wait_func b f.next (by have := hnx he; omega)
      rw [hkf] at c7
      clear he hn htv h hkf
      go_enter Tryd.func27, Tryd.ntmps27
      go_wp2_with fail
      go_quiet (fail)
      go_wp2
      go_ret3
      rw [HE.out]
      exact ⟨_, rfl, owns_nil _ _ _ _, (Fr.refl _ w).drewN nq, fun k hk => by simp [Value.ownBlock] at hk⟩
  · have he2 : (f.err != 0) = true := by simp [he]
    have HE := Px.hid (show F5.End f = ([], f.at_, f.err) by simp [F5.End, he2])
    clear he h
    go_enter Tryd.func27, Tryd.ntmps27
    go_wp2_with fail
    go_quiet (fail)
    go_wp2
    go_ret3
    rw [HE.out]
    exact ⟨_, rfl, owns_nil _ _ _ _, (Fr.refl _ w).drewN nq, fun k hk => by simp [Value.ownBlock] at hk⟩
end Go.Proofs.YtceffhkgnifmeaaDoor

/-! The walks over the statements' own helpers of layer 18 (read, wakes), and over DerfeedNil and DerfeedStops. -/
namespace Go.Proofs.YtceffhkgnifmeaaDoor
open Go.RowKit Go.Px

/-- What the statements' read hands back. -/
def readV (v : Value) (x : R5.St) : Value := .tuple #[v, .int .i64 x.place, .int .i64 x.err, .int .i64 (x.taken : Nat), .int .i64 (x.frames : Nat), .int .i64 (if x.ended then 0 else x.err)]
set_option maxRecDepth 100000 in
set_option maxHeartbeats 2000000 in
theorem lawread_any (s : Bytes) (lim : Lim) (w : World) (hm : lim.may = true) (hs : s.length ≤ 140737488355327) :
    Calls Tryd.prog 26 #[S s, limV lim] w fun r w' => ∃ v, r = .returned (readV v (R5.read s lim)) ∧ Owns w' 63 3 cNode v (R5.list (R5.read s lim)) ∧ Same w w' := by
  have HM := Px.hid (And.intro hm hs)
  clear hm hs
  unfold limV
  go_enter Tryd.func26, Tryd.ntmps26
  go_wp2_with fail
  refine (read15_any s lim _ HM.out.1 HM.out.2).mono ?_
  rintro e w1 ⟨b, v, rfl, hrep, hs, hvf⟩
  have HV := Px.hid (And.intro hrep.out (Same.trans ((Fr.refl (fun _ => False) w).alloc _) hs))
  obtain ⟨_, _, _, _, c6, c7, c8, c9, c10⟩ := hrep.rd.cells
  have c5 : w1.cell? ⟨b, 5, none⟩ = some v := cellOf hrep.rd.blk 5 (by simp [rdCells])
  clear hrep hs hvf
  obtain ⟨x, hx⟩ : ∃ x, x = R5.read s lim := ⟨_, rfl⟩
  rw [← hx] at HV c6 c7 c8 c9 c10
  simp only at c6 c7 c8 c9 c10
  have HX := Px.hid hx
  clear hx
  cases he : x.ended
  · have HR := Px.hid (show readV v x = .tuple #[v, .int .i64 x.place, .int .i64 x.err, .int .i64 (x.taken : Nat), .int .i64 (x.frames : Nat), .int .i64 x.err] by unfold readV; rw [he]; rfl)
    rw [he] at c10
    clear he
    go_wp2_with fail
    go_quiet (fail)
    go_wp2
    refine bodyPost_ret (v := .tuple #[v, .int .i64 x.place, .int .i64 x.err, .int .i64 (x.taken : Nat), .int .i64 (x.frames : Nat), .int .i64 x.err]) (by simp [results, Tryd.results26, go_sem]) rfl ?_
    rw [← HX.out]
    refine ⟨v, congrArg Ending.returned HR.out.symm, ?_⟩
    exact ⟨HV.out.1.drewN nq, HV.out.2.drewN nq⟩
  · have HR := Px.hid (show readV v x = .tuple #[v, .int .i64 x.place, .int .i64 x.err, .int .i64 (x.taken : Nat), .int .i64 (x.frames : Nat), .int .i64 0] by unfold readV; rw [he]; rfl)
    rw [he] at c10
    clear he
    go_wp2_with fail
    go_quiet (fail)
    go_wp2
    refine bodyPost_ret (v := .tuple #[v, .int .i64 x.place, .int .i64 x.err, .int .i64 (x.taken : Nat), .int .i64 (x.frames : Nat), .int .i64 0]) (by simp [results, Tryd.results26, go_sem]) rfl ?_
    rw [← HX.out]
    refine ⟨v, congrArg Ending.returned HR.out.symm, ?_⟩
    exact ⟨HV.out.1.drewN nq, HV.out.2.drewN nq⟩
/-- A feed to which some text was written from its beginning on. -/
def OkF (f : F5.Feed) : Prop := F5.Fits f ∧ ∃ l s, l.may = true ∧ f = F5.write (F5.init l) s
/-- A feed of the call's own: it lies in blocks that are newer than w. -/
def Own (w w' : World) (b : Nat) (f : F5.Feed) : Prop := ∃ F, FeedAt w' b f F ∧ OkF f ∧ Same w w' ∧ (∀ k, F k → w.heap.size ≤ k)

theorem Own.write {w w1 : World} {b : Nat} {f : F5.Feed} (h : Own w w1 b f) (hw : 2 ≤ w.heap.size) (hT : Tabs w) (s : List UInt8) (hs : s.length ≤ maxLen) :
    Calls Tryd.prog 25 #[.pointer (some ⟨b, 0, none⟩), S s] w1 fun r w' => r = .returned (.int .i64 (F5.write f s).err) ∧ Own w w' b (F5.write f s) := by
  obtain ⟨F, h1, ⟨h2, l, s0, h5, h6⟩, h3, h4⟩ := h
  refine (write_any b f s F w1 h1 h2 hs (fun k hk => Nat.le_trans hw (h4 k hk)) (hT.same h3)).mono ?_
  rintro e w' ⟨rfl, F', g1, g2, g3, g4⟩
  have hf : ∀ k, F' k → w.heap.size ≤ k := fun k hk => by rcases g3 k hk with x | x; exact h4 k x; exact Nat.le_trans h3.size x
  exact ⟨rfl, F', g1, ⟨g4, l, s0 ++ s, h5, by rw [h6, F5.write_app]⟩, Fr.toSame ((h3.fr F).trans g2 (fun _ _ x => x)) h4, hf⟩
theorem full_of {s : Bytes} {l : Lim} (hm : l.may = true) (he : (F5.write (F5.init l) s).err = 0) (hn : (F5.write (F5.init l) s).next = 4) : (F5.write (F5.init l) s).out ≠ [] := by
  have hr := (F5.feed_ref s l hm).2
  have hE : F5.End (F5.write (F5.init l) s) = ((F5.write (F5.init l) s).out, 0, 0) := by
    unfold F5.End
    rw [if_neg (by simp [he]), if_neg (by simp [hn])]
  rw [hE] at hr
  have h0 : (R5.decode s l).2.2 = 0 := by rw [E5.decode_yes hm, ← hr]
  have hel := (E5.decode_sound h0).2.2.1
  have h1 : (R5.decode s l).1 = (F5.write (F5.init l) s).out := by rw [E5.decode_yes hm, ← hr]
  rw [h1] at hel
  intro e
  have := hel.pos
  rw [e] at this
  simp at this
theorem feed_end_ok (b : Nat) (f : F5.Feed) (F : Nat → Prop) (w : World) (h : FeedAt w b f F) (hok : OkF f) :
    Calls Tryd.prog 27 #[.pointer (some ⟨b, 0, none⟩)] w fun e w' => ∃ v, e = .returned (.tuple #[v, .int .i64 (F5.End f).2.1, .int .i64 (F5.End f).2.2]) ∧ Owns w' 63 3 cNode v (F5.End f).1 ∧ Same w w' ∧ (∀ k, v.ownBlock = some k → w.heap.size ≤ k) := by
  obtain ⟨hf, l, s, hm, hw⟩ := hok
  have hmay := may_parts hf.may
  refine end_any b f F w h (by omega) (by have := hf.ok.ob; have := hf.ok.tb; omega) (fun he hn => ?_) (fun he => ?_)
  · rw [hw] at he hn ⊢
    exact full_of hm he hn
  · rcases hf.on he with x | x | ⟨x, _⟩ | ⟨x, _⟩ | x <;> omega
theorem Own.ends {w w1 : World} {b : Nat} {f : F5.Feed} (h : Own w w1 b f) :
    Calls Tryd.prog 27 #[.pointer (some ⟨b, 0, none⟩)] w1 fun e w' => ∃ v, e = .returned (.tuple #[v, .int .i64 (F5.End f).2.1, .int .i64 (F5.End f).2.2]) ∧ Owns w' 63 3 cNode v (F5.End f).1 ∧ Same w1 w' ∧ (∀ k, v.ownBlock = some k → w1.heap.size ≤ k) := by
  obtain ⟨F, h1, h2, h3, h4⟩ := h
  exact feed_end_ok b f F w1 h1 h2
theorem Own.same {w w1 w2 : World} {b : Nat} {f : F5.Feed} (h : Own w w1 b f) (hs : Same w1 w2) : Own w w2 b f := by
  obtain ⟨F, h1, h2, h3, h4⟩ := h
  exact ⟨F, h1.same hs, h2, h3.trans hs, h4⟩
theorem Own.state {w w1 : World} {b : Nat} {f : F5.Feed} (h : Own w w1 b f) :
    Calls Tryd.prog 28 #[.pointer (some ⟨b, 0, none⟩)] w1 fun e w' => e = .returned (.tuple #[.int .i64 f.text.length, .int .i64 f.stack.length]) ∧ Same w1 w' := by
  obtain ⟨F, h1, h2, h3, h4⟩ := h
  exact state_any b f F w1 h1
theorem init_ok {l : Lim} (h : l.may = true) : OkF (F5.init l) := ⟨F5.Fits.init h, l, [], h, rfl⟩
theorem Own.new {w w1 : World} {l : Lim} (hs : Same w w1) (hm : l.may = true) :
    Calls Tryd.prog 23 #[limV l] w1 fun e w' => ∃ b, e = .returned (.tuple #[.pointer (some ⟨b, 0, none⟩), .int .i64 0]) ∧ Own w w' b (F5.init l) ∧ Same w1 w' ∧ w1.heap.size ≤ b := by
  refine (new_yes l w1 hm).mono ?_
  rintro e w' ⟨b, rfl, h1, h2, h3⟩
  exact ⟨b, rfl, ⟨_, h3, init_ok hm, hs.trans h1, fun k hk => by subst hk; exact Nat.le_trans hs.size h2⟩, h1, h2⟩

def wakeS : List UInt8 := [48, 2, 5, 0]
theorem wake_slice (k : Nat) (c : UInt8) (hc : wakeS[k]? = some c) (w : World) :
    (Instr.slice 9 (.string ⟨#[48, 2, 5, 0]⟩) (some (.int .i64 (k : Int))) (some (.int .i64 ((k : Int) + 1))) none).run Tryd.prog w = .ok (S [c]) w := by
  have hk : k < 4 := (List.getElem?_eq_some_iff.1 hc).1
  have e : (⟨#[48, 2, 5, 0]⟩ : ByteArray) = ⟨wakeS.toArray⟩ := rfl
  rw [e, run_slice_string w _ _ _ _ _ _ Tryd.underlying9 (by omega) (by omega) (by rw [size_S]; show _ ≤ ((4 : Nat) : Int); omega), ByteArray.extract_mk]
  have e1 : ((k : Int)).toNat = k := by omega
  have e2 : ((k : Int) + 1).toNat = k + 1 := by omega
  rw [e1, e2]
  have : (wakeS.drop k).take (k + 1 - k) = [c] := by
    have h4 : k = 0 ∨ k = 1 ∨ k = 2 ∨ k = 3 := by omega
    rcases h4 with rfl | rfl | rfl | rfl <;> (cases hc; rfl)
  rw [this]
theorem wake_err : ∀ k, k ≤ 4 → (F5.write (F5.init most) (wakeS.take k)).err = 0 := by
  intro k hk
  have h4 : k = 0 ∨ k = 1 ∨ k = 2 ∨ k = 3 ∨ k = 4 := by omega
  rcases h4 with rfl | rfl | rfl | rfl | rfl <;> decide +kernel
theorem wake_end : (F5.End (F5.write (F5.init most) wakeS)).2 = (0, 0) ∧ (F5.End (F5.write (F5.init most) wakeS)).1.length = 2 ∧ (F5.write (F5.init most) wakeS).text.length = 4 ∧ (F5.write (F5.init most) wakeS).stack.length = 0 := by
  decide +kernel
set_option maxRecDepth 100000 in
set_option maxHeartbeats 2000000 in
theorem wakes_any (w : World) (hT : Tabs w) (hw : 2 ≤ w.heap.size) : Calls Tryd.prog 22 #[] w fun e w' => e = .returned (.bool true) ∧ Same w w' := by
  have HT := Px.hid hT
  clear hT
  go_enter Tryd.func22, Tryd.ntmps22
  go_wp2_with fail
  refine (most_any _).mono ?_
  rintro e w1 ⟨rfl, hs1⟩
  have H1 := Px.hid hs1
  clear hs1
  go_wp2_with fail
  refine (Own.new H1.out most_may).mono ?_
  rintro e w2 ⟨b, rfl, ho, hs, hb⟩
  have H2 := Px.hid ho
  clear ho hs
  go_wp2
  go_loopw [23] (fun i wr => ∃ k : Nat, k ≤ 4 ∧ i = .int .i64 k ∧ Own w wr b (F5.write (F5.init most) (wakeS.take k))) (fun i _ => 4 - (intOf i).toNat)
  case atStart => exact ⟨0, by omega, rfl, H2.out⟩
  case round =>
    obtain ⟨k, hk, rfl, ho⟩ := hrel
    have HO := Px.hid ho
    clear ho H1 H2
    by_cases hlt : k < 4
    · have hlt' : (k : Int) < 4 := by omega
      obtain ⟨c, hc⟩ : ∃ c, wakeS[k]? = some c := ⟨_, List.getElem?_eq_getElem (show k < wakeS.length from hlt)⟩
      have hsl := wake_slice k c hc
      have HC := Px.hid (And.intro hc hlt)
      clear hc hlt
      go_wp2_with fail
      refine (HO.out.write hw HT.out [c] (by unfold maxLen; simp)).mono ?_
      rintro e w' ⟨rfl, ho⟩
      have e1 : F5.write (F5.write (F5.init most) (wakeS.take k)) [c] = F5.write (F5.init most) (wakeS.take (k + 1)) := by
        rw [← F5.write_app, List.take_add_one, HC.out.1]; rfl
      rw [e1] at ho ⊢
      rw [wake_err (k + 1) (by have := HC.out.2; omega)]
      have HO2 := Px.hid ho
      clear ho e1
      go_wp2
      go_roundw
      case rel => exact ⟨k + 1, by have := HC.out.2; omega, by go_num, HO2.out⟩
      case measure => simp [intOf]; have := HC.out.2; omega
    · have hlt' : ¬ (k : Int) < 4 := by omega
      have hk4 : k = 4 := by omega
      subst hk4
      obtain ⟨we, wl, wt, wk⟩ := wake_end
      have ets : wakeS.take 4 = wakeS := rfl
      have HO3 := Px.hid HO.out
      rw [ets] at HO3
      have HW := Px.hid (And.intro we (And.intro wl (And.intro wt wk)))
      clear we wl wt wk ets hlt hlt' HO hk
      go_wp2_with fail
      refine HO3.out.ends.mono ?_
      rintro e w3 ⟨v, rfl, hv, hs3, hvf⟩
      obtain ⟨va, vc, hvl, _⟩ := hv.len
      have HO4 := Px.hid (HO3.out.same hs3)
      rw [HW.out.2.1] at hvl
      subst hvl
      rw [HW.out.1]
      clear hv hs3 hvf HO3
      go_wp2_with fail
      refine HO4.out.state.mono ?_
      rintro e w4 ⟨rfl, hs4⟩
      have HO5 := Px.hid (HO4.out.same hs4)
      clear hs4
      rw [HW.out.2.2.1, HW.out.2.2.2]
      go_wp2
      go_ret
      obtain ⟨_, _, _, hs, _⟩ := HO5.out
      exact ⟨rfl, hs⟩
theorem Tabs.two {w : World} (h : Tabs w) : 2 ≤ w.heap.size := by
  have h1 := World.block_lt_of_cell? w _ (h.2 0 (by omega)).1
  simp only at h1
  omega
def zeroF : F5.Feed := ⟨⟨0, 0, 0, 0⟩, [], [], [], 4, 0, 0, 0, 0, 0, 0⟩
theorem zero_at {b : Nat} (w : World) (h : w.heap[b]? = some (.cells (feedCells b zeroF (.slice none 0 0) (.slice none 0 0) (.slice none 0 0)) 60 (0, 0))) : FeedAt w b zeroF (fun k => k = b) := by
  refine ⟨.slice none 0 0, .slice none 0 0, .slice none 0 0, ⟨h, owns_nil _ _ _ _, owns_nil _ _ _ _, owns_nil _ _ _ _, ?_, ?_, ?_, ?_, ?_, ?_⟩, ?_⟩
  · intro k hk; simp [Value.ownBlock] at hk
  · intro k hk; simp [Value.ownBlock] at hk
  · intro k hk; simp [Value.ownBlock] at hk
  · intro k hk; simp [Value.ownBlock] at hk
  · intro k hk; simp [Value.ownBlock] at hk
  · intro k hk; simp [Value.ownBlock] at hk
  · funext k; simp [foot, Value.ownBlock]

/-- What a feed made of nothing reads as, as long as nothing of it has changed. -/
def Zero (w0 w : World) (b : Nat) : Prop := Same w0 w ∧ w.heap[b]? = some (.cells (feedCells b zeroF (.slice none 0 0) (.slice none 0 0) (.slice none 0 0)) 60 (0, 0))
theorem Zero.same {w0 w w' : World} {b : Nat} (h : Zero w0 w b) (hs : Same w w') : Zero w0 w' b := ⟨h.1.trans hs, (hs.block b (ltOf h.2) (fun x => x)).trans h.2⟩
theorem Zero.cell {w0 w : World} {b : Nat} (h : Zero w0 w b) : w.cell? ⟨b, 2, none⟩ = some (.int .i64 0) := cellOf h.2 2 rfl
theorem Zero.at {w0 w : World} {b : Nat} (h : Zero w0 w b) : FeedAt w b zeroF (fun k => k = b) := zero_at w h.2
theorem state_zero {w0 : World} (b : Nat) (w : World) (h : Zero w0 w b) : Calls Tryd.prog 28 #[.pointer (some ⟨b, 0, none⟩)] w fun e w' => e = .returned (.tuple #[.int .i64 0, .int .i64 0]) ∧ Same w w' := state_any b _ _ w h.at
theorem Tabs.zero {w w' : World} {b : Nat} (h : Tabs w) (hz : Zero w w' b) : Tabs w' := h.same hz.1

set_option maxRecDepth 100000 in
set_option maxHeartbeats 2000000 in
theorem law_DerfeedNil (s : List UInt8) (w : World) (_ : s.length ≤ maxLen) (hT : Tabs w) :
    Calls Tryd.prog 12 #[S s] w fun e w' => e = .returned (.bool true) ∧ Below w.heap.size w w' := by
  have HT := Px.hid hT
  clear hT
  go_enter Tryd.func12, Tryd.ntmps12
  go_wp2_with fail
  have HZ := Px.hid (show Zero w (w.alloc _) w.heap.size from ⟨(Fr.refl _ w).alloc _, heap_alloc_new w _⟩)
  refine (end_nil _).mono ?_
  rintro e w1 ⟨rfl, hs⟩
  have HZ := Px.hid (HZ.out.same hs)
  clear hs
  go_wp2_with fail
  refine (end_zero _ _ HZ.out.cell).mono ?_
  rintro e w2 ⟨rfl, hs⟩
  have HZ := Px.hid (HZ.out.same hs)
  clear hs
  go_wp2_with fail
  refine (state_nil _).mono ?_
  rintro e w3 ⟨rfl, hs⟩
  have HZ := Px.hid (HZ.out.same hs)
  clear hs
  go_wp2_with fail
  refine (state_zero _ _ HZ.out).mono ?_
  rintro e w4 ⟨rfl, hs⟩
  have HZ := Px.hid (HZ.out.same hs)
  clear hs
  go_wp2_with fail
  refine (wakes_any _ (HT.out.zero HZ.out) (HT.out.zero HZ.out).two).mono ?_
  rintro e w5 ⟨rfl, hs⟩
  have HZ := Px.hid (HZ.out.same hs)
  clear hs
  go_wp2_with fail
  refine (write_nil s _).mono ?_
  rintro e w6 ⟨rfl, hs⟩
  have HZ := Px.hid (HZ.out.same hs)
  clear hs
  go_wp2_with fail
  refine (write_zero _ s _ HZ.out.cell).mono ?_
  rintro e w7 ⟨rfl, hs⟩
  have HZ := Px.hid (HZ.out.same hs)
  clear hs
  go_wp2
  go_ret
  exact ⟨rfl, HZ.out.1.below⟩

theorem end_told (f : F5.Feed) (h : f.err ≠ 0) : F5.End f = ([], f.at_, f.err) := by simp [F5.End, h]

set_option maxRecDepth 100000 in
set_option maxHeartbeats 2000000 in
theorem law_DerfeedStops (s more : List UInt8) (l : Lim) (w : World) (hs : s.length ≤ maxLen) (hm : more.length ≤ maxLen) (hT : Tabs w) :
    Calls Tryd.prog 11 #[S s, S more, limV l] w fun e w' => e = .returned (.bool true) ∧ Below w.heap.size w w' := by
  have HT := Px.hid hT
  have HS := Px.hid (And.intro hs hm)
  clear hT hs hm
  unfold limV
  go_enter Tryd.func11, Tryd.ntmps11
  go_wp2_with fail
  have HL := Px.hid (LimIn.boxed w l)
  refine (wakes_any _ (HT.out.lim HL.out) (HT.out.lim HL.out).two).mono ?_
  rintro e w1 ⟨rfl, hs⟩
  have HL := Px.hid (HL.out.same hs)
  clear hs
  obtain ⟨c0, c1, c2, c3⟩ := HL.out.cells
  cases hm : l.may
  · have HM := Px.hid hm
    clear hm
    go_wp2_with fail
    refine (new_no l _ HM.out).mono ?_
    rintro e w2 ⟨rfl, hs⟩
    have HL := Px.hid (HL.out.same hs)
    clear hs c0 c1 c2 c3
    obtain ⟨c0, c1, c2, c3⟩ := HL.out.cells
    go_wp2_with fail
    refine (refMay_any l _).mono ?_
    rintro e w3 ⟨rfl, hs⟩
    have HL := Px.hid (HL.out.same hs)
    clear hs
    rw [HM.out]
    go_wp2
    go_ret
    exact ⟨rfl, HL.out.1.below⟩
  · have HM := Px.hid hm
    clear hm
    go_wp2_with fail
    refine (Own.new HL.out.1 HM.out).mono ?_
    rintro e w2 ⟨b, rfl, ho, hs, hb⟩
    have HO := Px.hid ho
    clear ho hs hb
    go_wp2_with fail
    refine (HO.out.write HT.out.two HT.out s HS.out.1).mono ?_
    rintro e w3 ⟨rfl, ho⟩
    have HO := Px.hid ho
    clear ho
    by_cases he : (F5.write (F5.init l) s).err = 0
    · have hw : F5.write (F5.write (F5.init l) s) [] = F5.write (F5.init l) s := rfl
      rw [he]
      have HE := Px.hid (And.intro he hw)
      clear he hw
      go_wp2_with fail
      refine (HO.out.write HT.out.two HT.out [] (Nat.zero_le _)).mono ?_
      rintro e w4 ⟨rfl, ho⟩
      rw [HE.out.2] at ho ⊢
      rw [HE.out.1]
      have HO := Px.hid ho
      clear ho
      go_wp2
      go_ret
      obtain ⟨_, _, _, hs, _⟩ := HO.out
      exact ⟨rfl, hs.below⟩
    · obtain ⟨g, hg⟩ : ∃ g, g = F5.write (F5.init l) s := ⟨_, rfl⟩
      have he' : (g.err == 0) = false := by rw [hg]; simpa using he
      rw [← hg] at HO he ⊢
      have HE := Px.hid he
      clear he hg
      go_wp2_with fail
      refine HO.out.ends.mono ?_
      rintro e w4 ⟨v, rfl, hv, hs, hvf⟩
      rw [end_told g HE.out]
      have HO := Px.hid (HO.out.same hs)
      clear hv hs hvf
      go_wp2_with fail
      refine HO.out.state.mono ?_
      rintro e w5 ⟨rfl, hs⟩
      have HO := Px.hid (HO.out.same hs)
      clear hs
      go_wp2_with fail
      refine (HO.out.write HT.out.two HT.out more HS.out.2).mono ?_
      rintro e w6 ⟨rfl, ho⟩
      rw [write_err _ HE.out] at ho ⊢
      have HO := Px.hid ho
      clear ho
      go_wp2_with fail
      refine HO.out.ends.mono ?_
      rintro e w7 ⟨v2, rfl, hv, hs, hvf⟩
      rw [end_told g HE.out] at hv ⊢
      obtain ⟨va, vc, hvl, _⟩ := hv.len
      simp only [List.length_nil] at hvl
      subst hvl
      have HO := Px.hid (HO.out.same hs)
      clear hv hs hvf
      go_wp2_with fail
      refine HO.out.state.mono ?_
      rintro e w8 ⟨rfl, hs⟩
      have HO := Px.hid (HO.out.same hs)
      clear hs
      go_wp2
      go_ret
      obtain ⟨_, _, _, hs, _⟩ := HO.out
      exact ⟨rfl, hs.below⟩
end Go.Proofs.YtceffhkgnifmeaaDoor

/-! The walks over the statements DerfeedPieces and DerfeedSame. -/
namespace Go.Proofs.YtceffhkgnifmeaaDoor
open Go.RowKit Go.Px

/-- A slice that reads as these strings. -/
structure StrsAt (w : World) (v : Value) (ss : List Bytes) : Prop where
  slice : ∃ a cap, v = .slice a ss.length cap
  len : ss.length ≤ maxLen
  each : ∀ i (h : i < ss.length), ss[i].length ≤ maxLen
  cell : ∀ i (h : i < ss.length), ∃ b off cap, v = .slice (some ⟨b, off, none⟩) ss.length cap ∧ b < w.heap.size ∧ w.cell? ⟨b, off + i, none⟩ = some (S ss[i])
theorem StrsAt.same {w w' : World} {v : Value} {ss : List Bytes} (h : StrsAt w v ss) (hs : Same w w') : StrsAt w' v ss :=
  ⟨h.slice, h.len, h.each, fun i hi => by
    obtain ⟨b, off, cap, h1, h2, h3⟩ := h.cell i hi
    exact ⟨b, off, cap, h1, Nat.lt_of_lt_of_le h2 hs.size, (hs.cell (p := ⟨b, off + i, none⟩) h2 (fun x => x)).trans h3⟩⟩
theorem app_S (a b : List UInt8) : (ByteArray.mk a.toArray) ++ (ByteArray.mk b.toArray) = ⟨(a ++ b).toArray⟩ := by
  apply ByteArray.ext
  simp
/-- The pieces so far. -/
def upto (ss : List Bytes) (k : Nat) : Bytes := (ss.take k).flatten
theorem Own.sm {w w' : World} {b : Nat} {f : F5.Feed} (h : Own w w' b f) : Same w w' := by
  obtain ⟨_, _, _, h, _⟩ := h
  exact h
theorem upto_succ (ss : List Bytes) (k : Nat) (h : k < ss.length) : upto ss (k + 1) = upto ss k ++ ss[k] := by
  unfold upto
  rw [List.take_succ_eq_append_getElem h, List.flatten_append]
  simp

/-- What the feed tells, by the reference. -/
theorem feed_now (s : Bytes) (lim : Lim) (hm : lim.may = true) : (if (R5.read s lim).ended then 0 else (R5.read s lim).err) = (F5.write (F5.init lim) s).err := (F5.feed_ref s lim hm).1.symm

set_option maxRecDepth 100000 in
set_option maxHeartbeats 4000000 in
theorem law_DerfeedPieces {v : Value} (ss : List Bytes) (l : Lim) (w : World) (hv : StrsAt w v ss) (hT : Tabs w) :
    Calls Tryd.prog 9 #[v, limV l] w fun e w' => e = .returned (.bool true) ∧ Below w.heap.size w w' := by
  have HT := Px.hid hT
  have HV := Px.hid hv
  obtain ⟨va, vc, hvs⟩ := hv.slice
  have hlm := hv.len
  unfold maxLen at hlm
  subst hvs
  clear hT hv
  unfold limV
  go_enter Tryd.func9, Tryd.ntmps9
  go_wp2_with fail
  have HL := Px.hid (LimIn.boxed w l)
  refine (wakes_any _ (HT.out.lim HL.out) (HT.out.lim HL.out).two).mono ?_
  rintro e w1 ⟨rfl, hs⟩
  have HL := Px.hid (HL.out.same hs)
  have HL1 := HL
  have HT := Px.hid (HT.out.lim HL.out)
  have HV := Px.hid (HV.out.same HL.out.1)
  clear hs
  obtain ⟨c0, c1, c2, c3⟩ := HL.out.cells
  cases hm : l.may
  · have HM := Px.hid hm
    clear hm
    go_wp2_with fail
    refine (new_no l _ HM.out).mono ?_
    rintro e w2 ⟨rfl, hs⟩
    have HL := Px.hid (HL.out.same hs)
    clear hs c0 c1 c2 c3
    obtain ⟨c0, c1, c2, c3⟩ := HL.out.cells
    go_wp2_with fail
    refine (refMay_any l _).mono ?_
    rintro e w3 ⟨rfl, hs⟩
    have HL := Px.hid (HL.out.same hs)
    clear hs
    rw [HM.out]
    go_wp2
    go_ret
    exact ⟨rfl, HL.out.1.below⟩
  · have HM := Px.hid hm
    clear hm
    go_wp2_with fail
    refine (Own.new (Same.refl w1) HM.out).mono ?_
    rintro e w2 ⟨b, rfl, ho, hs, hb⟩
    have HO := Px.hid ho
    have HL := Px.hid (HL.out.same hs)
    clear ho hs hb c0 c1 c2 c3
    obtain ⟨c0, c1, c2, c3⟩ := HL.out.cells
    go_wp2_with fail
    refine (refMay_any l _).mono ?_
    rintro e w3 ⟨rfl, hs⟩
    have HO := Px.hid (HO.out.same hs)
    have HL := Px.hid (HL.out.same hs)
    clear hs c0 c1 c2 c3
    rw [HM.out]
    by_cases h100 : 100 < ss.length
    · have hz : (100 : Int) < (ss.length : Int) := by omega
      clear h100
      go_wp2
      go_ret
      exact ⟨rfl, HL.out.1.below⟩
    · have hz : ¬ (100 : Int) < (ss.length : Int) := by omega
      go_wp2
      go_loopw [7, 60] (fun al i wr => ∃ k : Nat, k ≤ ss.length ∧ i = .int .i64 (k : Nat) ∧ al = S (upto ss k) ∧ Hid ((upto ss k).length ≤ 4000 ∧ Own w1 wr b (F5.write (F5.init l) (upto ss k)))) (fun _ i _ => ss.length - (intOf i).toNat)
      case atStart => exact ⟨0, Nat.zero_le _, rfl, rfl, Px.hid ⟨by simp [upto], HO.out⟩⟩
      case round =>
        clear HO HL
        obtain ⟨k, hk, rfl, rfl, HR⟩ := hrel
        obtain ⟨hl4, ho⟩ := HR.out
        obtain ⟨c0, c1, c2, c3⟩ := (HL1.out.same ho.sm).cells
        have hsz : (ByteArray.mk (upto ss k).toArray).size = (upto ss k).length := size_S _
        by_cases hlt : k < ss.length
        · have hltz : (k : Int) < (ss.length : Int) := by omega
          obtain ⟨vb, voff, vc2, hve, hvb, hcell⟩ := HV.out.cell k hlt
          simp only [Value.slice.injEq, true_and] at hve
          obtain ⟨rfl, rfl⟩ := hve
          have hcell := (ho.sm.cell (p := ⟨vb, voff + k, none⟩) hvb (fun x => x)).trans hcell
          have HUP := Px.hid (upto_succ ss k hlt)
          have hpl := HV.out.each k hlt
          unfold maxLen at hpl
          obtain ⟨pc, hpc⟩ : ∃ pc, pc = ss[k] := ⟨_, rfl⟩
          rw [← hpc] at hcell HUP hpl
          have hpsz : (ByteArray.mk pc.toArray).size = pc.length := size_S _
          clear hpc ho
          by_cases h2000 : 2000 < (upto ss k).length
          · have z1 : (2000 : Int) < ((upto ss k).length : Int) := by omega
            clear h2000
            go_wp2
            go_ret
            exact ⟨rfl, (HL1.out.1.trans HR.out.2.sm).below⟩
          · have z1 : ¬ (2000 : Int) < ((upto ss k).length : Int) := by omega
            by_cases hp2000 : 2000 < pc.length
            · have z2 : (2000 : Int) < (pc.length : Int) := by omega
              clear h2000 hp2000
              go_wp2
              go_ret
              exact ⟨rfl, (HL1.out.1.trans HR.out.2.sm).below⟩
            · have z2 : ¬ (2000 : Int) < (pc.length : Int) := by omega
              have happ := app_S (upto ss k) pc
              have HLL := Px.hid (show (upto ss k ++ pc).length ≤ 4000 by rw [List.length_append]; omega)
              have HPL := Px.hid (show pc.length ≤ maxLen by unfold maxLen; omega)
              clear h2000 hp2000
              go_wp2_with fail
              refine (HR.out.2.write HT.out.two HT.out pc HPL.out).mono ?_
              rintro e w4 ⟨rfl, ho⟩
              rw [← F5.write_app, ← HUP.out] at ho ⊢
              have hnow := feed_now (upto ss (k + 1)) l HM.out
              rw [← HUP.out] at HLL
              have HO := Px.hid ho
              clear c0 c1 c2 c3 hcell happ hpsz hsz
              obtain ⟨c0, c1, c2, c3⟩ := (HL1.out.same ho.sm).cells
              have HN := Px.hid hnow
              clear ho hnow
              go_wp2_with fail
              refine (lawread_any (upto ss (k + 1)) l _ HM.out (by have := HLL.out; omega)).mono ?_
              rintro e w5 ⟨vr, rfl, hvr, hs⟩
              unfold readV
              rw [HN.out]
              have HO := Px.hid (HO.out.same hs)
              clear hvr hs c0 c1 c2 c3
              go_wp2
              go_roundw
              case rel => exact ⟨k + 1, by omega, by go_num, rfl, Px.hid ⟨HLL.out, HO.out⟩⟩
              case measure => simp [intOf]; omega
        · have hltz : ¬ (k : Int) < (ss.length : Int) := by omega
          have hke : k = ss.length := by omega
          have hfr := F5.feed_ref (upto ss k) l HM.out
          have HF := Px.hid (show F5.End (F5.write (F5.init l) (upto ss k)) = (R5.list (R5.read (upto ss k) l), (R5.read (upto ss k) l).place, (R5.read (upto ss k) l).err) from hfr.2)
          have HK := Px.hid hke
          clear hfr ho c0 c1 c2 c3 hke hk
          go_wp2_with fail
          refine HR.out.2.ends.mono ?_
          rintro e w4 ⟨ve, rfl, hve, hs, hvf⟩
          rw [HF.out] at hve ⊢
          have HO := Px.hid (HR.out.2.same hs)
          have HE := Px.hid hve
          clear hve hs hvf
          obtain ⟨c0, c1, c2, c3⟩ := (HL1.out.same HO.out.sm).cells
          go_wp2_with fail
          refine (lawread_any (upto ss k) l _ HM.out (by have := HR.out.1; omega)).mono ?_
          rintro e w5 ⟨vr, rfl, hvr, hs⟩
          unfold readV
          obtain ⟨nw, hnw⟩ : ∃ nw, nw = (if (R5.read (upto ss k) l).ended then 0 else (R5.read (upto ss k) l).err) := ⟨_, rfl⟩
          rw [← hnw]
          clear hnw
          have HO := Px.hid (HO.out.same hs)
          have HE := Px.hid (And.intro (Owns.same HE.out hs) hvr)
          clear hvr hs c0 c1 c2 c3
          go_wp2_with fail
          refine (same_any _ ve vr _ HE.out.1 HE.out.2).mono ?_
          rintro e w6 ⟨rfl, hs⟩
          have HO := Px.hid (HO.out.same hs)
          clear hs
          go_wp2
          go_ret
          exact ⟨rfl, (HL1.out.1.trans HO.out.sm).below⟩
theorem FeedAt.footLt {w : World} {b : Nat} {f : F5.Feed} {F : Nat → Prop} (h : FeedAt w b f F) : ∀ k, F k → k < w.heap.size := by
  obtain ⟨vt, vo, vs, h, rfl⟩ := h
  exact h.footLt
/-- A feed of the call's own, and a list that lies elsewhere. -/
structure Beside (w wx : World) (b : Nat) (f : F5.Feed) (vl : Value) (L : List Px.Node) (F : Nat → Prop) : Prop where
  at_ : FeedAt wx b f F
  ok : OkF f
  old : ∀ k, F k → w.heap.size ≤ k
  same : Same w wx
  list : Owns wx 63 3 cNode vl L
  apart : ∀ g, vl.ownBlock = some g → ¬ F g
theorem Beside.sm {w wx wy : World} {b : Nat} {f : F5.Feed} {vl : Value} {L : List Px.Node} {F : Nat → Prop} (h : Beside w wx b f vl L F) (hs : Same wx wy) : Beside w wy b f vl L F :=
  ⟨h.at_.same hs, h.ok, h.old, h.same.trans hs, Owns.same h.list hs, h.apart⟩
theorem Beside.write {w wx : World} {b : Nat} {f : F5.Feed} {vl : Value} {L : List Px.Node} {F : Nat → Prop} (h : Beside w wx b f vl L F) (hT : Tabs w) (s : Bytes) (hs : s.length ≤ maxLen) :
    Calls Tryd.prog 25 #[.pointer (some ⟨b, 0, none⟩), S s] wx fun r w' => r = .returned (.int .i64 (F5.write f s).err) ∧ ∃ F', Beside w w' b (F5.write f s) vl L F' := by
  obtain ⟨hf, l, s0, h5, h6⟩ := h.ok
  refine (write_any b f s F wx h.at_ hf hs (fun k hk => Nat.le_trans hT.two (h.old k hk)) (hT.same h.same)).mono ?_
  rintro e w' ⟨rfl, F', g1, g2, g3, g4⟩
  refine ⟨rfl, F', g1, ⟨g4, l, s0 ++ s, h5, by rw [h6, F5.write_app]⟩, fun k hk => ?_, Fr.toSame (Fr.trans (h.same.fr F) g2 (fun _ _ e => e)) h.old, h.list.fr g2 h.apart, fun g hg e => ?_⟩
  · rcases g3 k hk with e | e
    · exact h.old k e
    · exact Nat.le_trans h.same.size e
  · rcases g3 g e with e | e
    · exact h.apart g hg e
    · have := h.list.lt hg; omega
theorem Beside.ends {w wx : World} {b : Nat} {f : F5.Feed} {vl : Value} {L : List Px.Node} {F : Nat → Prop} (h : Beside w wx b f vl L F) :
    Calls Tryd.prog 27 #[.pointer (some ⟨b, 0, none⟩)] wx fun e w' => ∃ v, e = .returned (.tuple #[v, .int .i64 (F5.End f).2.1, .int .i64 (F5.End f).2.2]) ∧ Owns w' 63 3 cNode v (F5.End f).1 ∧ Same wx w' ∧ (∀ k, v.ownBlock = some k → wx.heap.size ≤ k) := feed_end_ok b f F wx h.at_ h.ok
set_option maxRecDepth 100000 in
set_option maxHeartbeats 2000000 in
theorem law_DerfeedSame (s : Bytes) (n : Int) (lim : Lim) (w : World) (hs0 : s.length ≤ 140737488351232) (hn : -9223372036854775808 ≤ n ∧ n ≤ 9223372036854775807) (hT : Tabs w) :
    Calls Tryd.prog 10 #[S s, .int .i64 n, limV lim] w fun e w' => e = .returned (.bool true) ∧ Below w.heap.size w w' := by
  have hs : s.length ≤ 140737488355327 := by omega
  clear hs0
  have HS := Px.hid (And.intro hs hT)
  have HO := Px.hid (On.boxed lim hT)
  have hsz : (ByteArray.mk s.toArray).size = s.length := size_S s
  have hsl : s.length ≤ 140737488355327 := hs
  obtain ⟨hn1, hn2⟩ := hn
  clear hs hT
  unfold limV
  go_enter Tryd.func10, Tryd.ntmps10
  go_wp2_with fail
  refine (wakes_any _ HO.out.tabs HO.out.tabs.two).mono ?_
  rintro e w1 ⟨rfl, hs⟩
  have HO := Px.hid (HO.out.sm hs)
  have HT1 := Px.hid HO.out.tabs
  have HW0 := Px.hid HO.out.lim.1
  clear hs
  obtain ⟨c0, c1, c2, c3⟩ := HO.out.lim.cells
  cases hm : lim.may
  · have HM := Px.hid hm
    clear hm
    go_wp2_with fail
    refine (new_no lim _ HM.out).mono ?_
    rintro e w2 ⟨rfl, hs⟩
    have HO := Px.hid (HO.out.sm hs)
    clear hs c0 c1 c2 c3
    obtain ⟨c0, c1, c2, c3⟩ := HO.out.lim.cells
    go_wp2_with fail
    refine (decode_any s lim HS.out.1 _ HO.out.tabs).mono ?_
    intro e w3 hg
    obtain ⟨a, c, rfl, ho, hs⟩ := hg.len
    rw [E5.decode_no HM.out]
    have HO := Px.hid (HO.out.sm hs)
    clear hs hg ho c0 c1 c2 c3
    go_wp2
    go_ret
    exact ⟨rfl, HO.out.lim.1.below⟩
  · have HM := Px.hid hm
    clear hm
    go_wp2_with fail
    refine (Own.new (Same.refl w1) HM.out).mono ?_
    rintro e w2 ⟨b, rfl, ⟨F, f1, f2, f3, f4⟩, hs, hb⟩
    have HF := Px.hid (And.intro f1 (And.intro f2 (And.intro f1.footLt f4)))
    have HO := Px.hid (HO.out.sm hs)
    have HW1 := Px.hid (And.intro HO.out.lim.1 f3)
    clear f1 f2 f3 f4 hs hb c0 c1 c2 c3
    obtain ⟨c0, c1, c2, c3⟩ := HO.out.lim.cells
    go_wp2_with fail
    refine (decode_any s lim HS.out.1 _ HO.out.tabs).mono ?_
    rintro e w3 ⟨vo, rfl, ho, hs, hfr⟩
    obtain ⟨a, c, hv, _⟩ := ho.len
    subst hv
    have HO := Px.hid (HO.out.sm hs)
    have HB := Px.hid (show Beside w1 w3 b (F5.init lim) (.slice a (R5.decode s lim).1.length c) (R5.decode s lim).1 F from
      ⟨HF.out.1.same hs, HF.out.2.1, HF.out.2.2.2, HW1.out.2.trans hs, ho, fun g hg e => by have := hfr g hg; have := HF.out.2.2.1 g e; omega⟩)
    have HDY := Px.hid (show R5.decode s lim = F5.End (F5.write (F5.init lim) s) from by rw [E5.decode_yes HM.out]; exact (F5.feed_ref s lim HM.out).2.symm)
    clear hs ho hfr c0 c1 c2 c3 HF
    obtain ⟨d, hd⟩ : ∃ d, d = R5.decode s lim := ⟨_, rfl⟩
    rw [← hd] at HB HDY ⊢
    clear hd
    have HF2 := Px.hid (show ∀ k, k ≤ s.length → F5.write (F5.write (F5.init lim) (s.take k)) (s.drop k) = F5.write (F5.init lim) s from fun k _ => by rw [← F5.write_app, List.take_append_drop])
    go_upto_if 35 with fail
    go_cut [12] (fun t12 wx => (∃ k : Nat, k ≤ s.length ∧ t12 = .int .i64 (k : Nat)) ∧ wx = w3)
    case first =>
      by_cases hn0 : 0 < n
      · have hd1 : 0 ≤ n % ((s.length : Int) + 1) := Int.emod_nonneg _ (by omega)
        have hd2 : n % ((s.length : Int) + 1) < (s.length : Int) + 1 := Int.emod_lt_of_pos _ (by omega)
        obtain ⟨k, hk⟩ : ∃ k : Nat, n % ((s.length : Int) + 1) = (k : Int) := ⟨(n % ((s.length : Int) + 1)).toNat, by omega⟩
        have hk2 : k ≤ s.length := by omega
        have HK := Px.hid hk
        clear hk hd1 hd2
        go_wp2_with fail
        go_meet
        rw [HK.out]
        exact ⟨⟨k, hk2, rfl⟩, rfl⟩
      · go_wp2_with fail
        go_meet
        exact ⟨⟨0, Nat.zero_le _, rfl⟩, rfl⟩
    case rest =>
      obtain ⟨⟨k, hk, rfl⟩, hwc⟩ := hcut
      subst hwc
      have hto := to_S s k hk
      have hfrom := from_S s k hk
      have HK := Px.hid (And.intro (HF2.out k hk) (And.intro (show (s.take k).length ≤ maxLen by rw [List.length_take]; unfold maxLen; omega) (show (s.drop k).length ≤ maxLen by rw [List.length_drop]; unfold maxLen; omega)))
      clear HF2
      go_wp2_with fail
      refine (HB.out.write HT1.out (s.take k) HK.out.2.1).mono ?_
      rintro e w4 ⟨rfl, F4, hb4⟩
      have HB := Px.hid hb4
      clear hb4
      go_wp2_with fail
      refine (HB.out.write HT1.out (s.drop k) HK.out.2.2).mono ?_
      rintro e w5 ⟨rfl, F5, hb5⟩
      rw [HK.out.1] at hb5 ⊢
      have HB := Px.hid hb5
      clear hb5 hto hfrom
      go_wp2_with fail
      refine HB.out.ends.mono ?_
      rintro e w6 ⟨ve, rfl, hve, hs, _⟩
      rw [← HDY.out] at hve ⊢
      have HB := Px.hid (HB.out.sm hs)
      have HE := Px.hid hve
      clear hve hs
      go_wp2_with fail
      refine (same_any _ _ _ _ HB.out.list HE.out).mono ?_
      rintro e w7 ⟨rfl, hs⟩
      have HB := Px.hid (HB.out.sm hs)
      clear hs
      go_wp2
      go_ret
      exact ⟨rfl, (HW0.out.trans HB.out.same).below⟩
end Go.Proofs.YtceffhkgnifmeaaDoor
