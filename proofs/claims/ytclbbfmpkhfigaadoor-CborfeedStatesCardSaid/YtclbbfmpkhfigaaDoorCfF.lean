/-
  The walk over cborfeed's head.
-/
import Derived.Test.YtclbbfmpkhfigaaDoorCfD
import Derived.Test.YtclbbfmpkhfigaaDoorCfL
namespace Go.Proofs.YtclbbfmpkhfigaaDoor
open Go.RowKit Go.Px Go.Px.Cf

set_option maxRecDepth 100000 in
set_option maxHeartbeats 2000000 in
theorem head_any (b : Nat) (f : Feed) (c : UInt8) (F : Nat → Prop) (w : World) (h : FeedAt w b f F) (hg : FOk f) (hl : ∀ x ∈ f.stack, 0 < x.left) (hp : 0 < f.text.length)
    (hF2 : ∀ k, F k → 2 ≤ k) (ho : f.out.length ≤ 1000000) (hsk : f.stack.length ≤ 900) (hT : Tabs w) :
    Calls Tryd.prog 31 #[.pointer (some ⟨b, 0, none⟩), .int .u8 c.toNat] w fun r w' => r = .returned (.tuple #[]) ∧ ∃ F', FeedAt w' b (Cf.head f c.toNat) F' ∧ Fr F w w' ∧ Fresh w F F' := by
  obtain ⟨vt, vo, vs, h, rfl⟩ := h
  have hc := c.toNat_lt
  obtain ⟨at', capt, hvt, _⟩ := h.text.len
  have ht := hg.text
  have c4 : w.cell? ⟨b, 4, none⟩ = some (.slice at' f.text.length capt) := by rw [← hvt]; exact cellOf h.blk 4 rfl
  have f8 := h.free 8
  have f9 := h.free 9
  have f10 := h.free 10
  have f11 := h.free 11
  have f12 := h.free 12
  have c8 : w.cell? ⟨b, 8, none⟩ = some (.int .i64 f.kind) := cellOf h.blk 8 rfl
  have c9 : w.cell? ⟨b, 9, none⟩ = some (.int .i64 f.hat) := cellOf h.blk 9 rfl
  have c10 : w.cell? ⟨b, 10, none⟩ = some (.int .u8 f.info) := cellOf h.blk 10 rfl
  have c11 : w.cell? ⟨b, 11, none⟩ = some (.int .u64 f.num) := cellOf h.blk 11 rfl
  have c12 : w.cell? ⟨b, 12, none⟩ = some (.int .u64 f.more) := cellOf h.blk 12 rfl
  have H := Px.hid (And.intro h (And.intro hg (And.intro hl (And.intro hp hT))))
  clear h hg hl hT hvt
  have eK : ((c.toNat : Int) / 32) = ((c.toNat / 32 : Nat) : Int) := by omega
  have eA : ((c.toNat : Int) % 32) = ((c.toNat % 32 : Nat) : Int) := by omega
  have eP : ((f.text.length : Int) - 1) = ((f.text.length - 1 : Nat) : Int) := by omega
  have hK8 : c.toNat / 32 < 8 := by omega
  have hA32 : c.toNat % 32 < 32 := by omega
  have HR := Px.hid (show Cf.head f c.toNat = Cf.headOn { f with kind := (c.toNat / 32 : Nat), hat := f.text.length - 1, info := c.toNat % 32, num := 0, more := 0 } (f.text.length - 1) (c.toNat / 32) (c.toNat % 32) from rfl)
  have EK := Px.hid (And.intro eK (And.intro eA eP))
  clear eK eA eP
  go_enter Tryd.func31, Tryd.ntmps31
  go_wp2_with fail
  rw [EK.out.1, EK.out.2.1, EK.out.2.2]
  obtain ⟨K, hK⟩ : ∃ K, c.toNat / 32 = K := ⟨_, rfl⟩
  obtain ⟨A, hA⟩ : ∃ A, c.toNat % 32 = A := ⟨_, rfl⟩
  obtain ⟨p, hpp⟩ : ∃ p, f.text.length - 1 = p := ⟨_, rfl⟩
  rw [hK, hA, hpp] at HR ⊢
  rw [hK] at hK8
  rw [hA] at hA32
  have hpl : p < f.text.length := by omega
  clear EK hK hA hpp c8 c9 c10 c11 c12 c4 f8 f9 f10 f11 f12
  have HY := Px.hid (((((H.out.1.set 8 (.int .i64 K) { f with kind := K } rfl rfl rfl rfl).set 9 (.int .i64 p) { f with kind := K, hat := p } rfl rfl rfl rfl).set 10 (.int .u8 A) { f with kind := K, hat := p, info := A } rfl rfl rfl rfl).set 11 (.int .u64 0)
    { f with kind := K, hat := p, info := A, num := 0 } rfl rfl rfl rfl).set 12 (.int .u64 0) { f with kind := K, hat := p, info := A, num := 0, more := 0 } rfl rfl rfl rfl)
  have HYF := Px.hid ((((((Fr.refl (foot b vt vo vs) w).setCell (p := ⟨b, 8, none⟩) (.inl (.inl rfl)) (.int .i64 K)).setCell (p := ⟨b, 9, none⟩) (.inl (.inl rfl)) (.int .i64 p)).setCell (p := ⟨b, 10, none⟩) (.inl (.inl rfl)) (.int .u8 A)).setCell
    (p := ⟨b, 11, none⟩) (.inl (.inl rfl)) (.int .u64 0)).setCell (p := ⟨b, 12, none⟩) (.inl (.inl rfl)) (.int .u64 0))
  have HB : 2 ≤ w.heap.size := by have := hF2 b (.inl rfl); have := H.out.1.lt; omega
  have HT := Px.hid (H.out.2.2.2.2.fr HYF.out hF2 HB)
  obtain ⟨WX, hWX⟩ : ∃ WX, WX = ((((w.setCell ⟨b, 8, none⟩ (.int .i64 K)).setCell ⟨b, 9, none⟩ (.int .i64 p)).setCell ⟨b, 10, none⟩ (.int .u8 A)).setCell ⟨b, 11, none⟩ (.int .u64 0)).setCell ⟨b, 12, none⟩ (.int .u64 0) := ⟨_, rfl⟩
  rw [← hWX] at HY HYF HT ⊢
  clear hWX
  have HG := Px.hid (show FOk { f with kind := K, hat := p, info := A, num := 0, more := 0 } from ⟨H.out.2.1.each, H.out.2.1.tail, H.out.2.1.text, H.out.2.1.stack⟩)
  obtain ⟨g, hg⟩ : ∃ g : Feed, g = { f with kind := K, hat := p, info := A, num := 0, more := 0 } := ⟨_, rfl⟩
  have e1 : g.out = f.out := by rw [hg]
  have e2 : g.lim = f.lim := by rw [hg]
  have e3 : g.kind = K := by rw [hg]
  have e4 : g.info = A := by rw [hg]
  have e5 : g.stack = f.stack := by rw [hg]
  have e6 : g.text = f.text := by rw [hg]
  have e7 : g.hat = p := by rw [hg]
  rw [← hg] at HY HG HR
  have HR := Px.hid (HR.out.trans (show Cf.headOn g p K A = if (g.out.length : Int) == g.lim.i then Cf.wrong g p 10 else if 27 < A then Cf.wrong g p 9 else if K == 7 && (decide (A < 20) || decide (23 < A)) then Cf.wrong g p 11 else if A < 24 then Cf.known { g with num := A } else { g with more := 2 ^ (A - 24), next := 1 } from rfl))
  rw [← e1] at ho
  rw [← e5] at hsk
  have hps : g.stack ≠ [] → g.hat < g.text.length := fun _ => by rw [e6, e7]; exact hpl
  have hpg : g.hat < g.text.length := by rw [e6, e7]; exact hpl
  have hlg : ∀ x ∈ g.stack, 0 < x.left := by rw [e5]; exact H.out.2.2.1
  have HL := Px.hid (And.intro hpg hlg)
  have E3 := Px.hid e3
  have E4 := Px.hid e4
  clear H hg e1 e2 e3 e4 e5 e6 e7 hps hpg hlg hp ht hpl hc
  obtain ⟨ao, co, hvo, _⟩ := HY.out.out.len
  have c5 : WX.cell? ⟨b, 5, none⟩ = some (.slice ao g.out.length co) := by rw [← hvo]; exact cellOf HY.out.blk 5 rfl
  have c1 : WX.cell? ⟨b, 1, none⟩ = some (.int .i64 g.lim.i) := cellOf HY.out.blk 1 rfl
  clear hvo
  go_quiet (fail)
  have HX := Px.hid (HY.out.drewN nq)
  have HXF := Px.hid (HYF.out.drewN nq)
  have HT := Px.hid (HT.out.drewN nq)
  obtain ⟨WZ, hWZ⟩ : ∃ WZ, WZ = WX.drewN nq := ⟨_, rfl⟩
  rw [← hWZ] at HX HXF HT ⊢
  clear hWZ HY HYF c5 c1
  have c8 : WZ.cell? ⟨b, 8, none⟩ = some (.int .i64 K) := by rw [← E3.out]; exact cellOf HX.out.blk 8 rfl
  have c11 : WZ.cell? ⟨b, 11, none⟩ = some (.int .u64 g.num) := cellOf HX.out.blk 11 rfl
  have f11 := HX.out.free 11
  have c12 : WZ.cell? ⟨b, 12, none⟩ = some (.int .u64 g.more) := cellOf HX.out.blk 12 rfl
  have f12 := HX.out.free 12
  have c7 : WZ.cell? ⟨b, 7, none⟩ = some (.int .i64 g.next) := cellOf HX.out.blk 7 rfl
  have f7 := HX.out.free 7
  rcases Bool.eq_false_or_eq_true ((g.out.length : Int) == g.lim.i) with hd | hd
  · have HR := Px.hid (HR.out.trans (if_pos hd))
    go_wp2_with fail
    refine (wrong_any b p 10 g _ _ ⟨_, _, _, HX.out, rfl⟩).mono ?_
    rintro e w' ⟨rfl, hF, hfr⟩
    go_wp2
    go_end0
    rw [HR.out]
    exact ⟨rfl, _, hF, HXF.out.step (Fresh.refl _ _) hfr, Fresh.refl _ _⟩
  · have HR := Px.hid (HR.out.trans (if_neg (by rw [hd]; exact Bool.false_ne_true)))
    by_cases h27 : 27 < A
    · have HR := Px.hid (HR.out.trans (if_pos h27))
      have h27' : (27 : Int) < (A : Int) := by omega
      clear h27
      go_wp2_with fail
      refine (wrong_any b p 9 g _ _ ⟨_, _, _, HX.out, rfl⟩).mono ?_
      rintro e w' ⟨rfl, hF, hfr⟩
      go_wp2
      go_end0
      rw [HR.out]
      exact ⟨rfl, _, hF, HXF.out.step (Fresh.refl _ _) hfr, Fresh.refl _ _⟩
    · have HR := Px.hid (HR.out.trans (if_neg h27))
      have h27' : ¬ (27 : Int) < (A : Int) := by omega
      clear h27
      have known4 : A < 24 → ∀ WQ : World, WQ = WZ → Calls Tryd.prog 43 #[.pointer (some ⟨b, 0, none⟩)] (WQ.setCell ⟨b, 11, none⟩ (.int .u64 A)) fun r w' => r = .returned (.tuple #[]) ∧ ∃ F', FeedAt w' b (Cf.known { g with num := A }) F' ∧ Fr (foot b vt vo vs) (WQ.setCell ⟨b, 11, none⟩ (.int .u64 A)) w' ∧ Fresh (WQ.setCell ⟨b, 11, none⟩ (.int .u64 A)) (foot b vt vo vs) F' := by
        intro h24 WQ hWQ
        subst hWQ
        have hy := HX.out.set 11 (.int .u64 A) { g with num := A } rfl rfl rfl rfl
        have hyf := (Fr.refl (foot b vt vo vs) WQ).setCell (p := ⟨b, 11, none⟩) (.inl (.inl rfl)) (.int .u64 A)
        exact known_any b _ _ _ ⟨_, _, _, hy, rfl⟩ ⟨HG.out.each, HG.out.tail, HG.out.text, HG.out.stack⟩ HL.out.2 HL.out.1 (by show A < 18446744073709551616; omega) hF2 ho hsk
          (HT.out.fr hyf hF2 (by have := hF2 b (.inl rfl); have := HX.out.lt; omega))
      have K4 := Px.hid known4
      clear known4
      by_cases h7 : K = 7
      · have h7' : ((K : Int) == 7) = true := by simp [h7]
        have h7n : (K == 7) = true := by simp [h7]
        clear h7
        by_cases h20 : A < 20
        · have HR := Px.hid (HR.out.trans (if_pos (by simp [h7n, h20])))
          have h20' : (A : Int) < 20 := by omega
          clear h20
          go_wp2_with fail
          refine (wrong_any b p 11 g _ _ ⟨_, _, _, HX.out, rfl⟩).mono ?_
          rintro e w' ⟨rfl, hF, hfr⟩
          go_wp2
          go_end0
          rw [HR.out]
          exact ⟨rfl, _, hF, HXF.out.step (Fresh.refl _ _) hfr, Fresh.refl _ _⟩
        · have h20' : ¬ (A : Int) < 20 := by omega
          by_cases h23 : 23 < A
          · have HR := Px.hid (HR.out.trans (if_pos (by simp [h7n, h23])))
            have h23' : (23 : Int) < (A : Int) := by omega
            clear h20 h23
            go_wp2_with fail
            refine (wrong_any b p 11 g _ _ ⟨_, _, _, HX.out, rfl⟩).mono ?_
            rintro e w' ⟨rfl, hF, hfr⟩
            go_wp2
            go_end0
            rw [HR.out]
            exact ⟨rfl, _, hF, HXF.out.step (Fresh.refl _ _) hfr, Fresh.refl _ _⟩
          · have HR := Px.hid (HR.out.trans (if_neg (by simp [h20, h23])))
            have h23' : ¬ (23 : Int) < (A : Int) := by omega
            clear h20
            have h24 : A < 24 := by omega
            clear h23
            have h24' : (A : Int) < 24 := by omega
            have HR := Px.hid (HR.out.trans (if_pos h24))
            have K5 := Px.hid (K4.out h24 WZ rfl)
            have HXG := Px.hid (HXF.out.setCell (p := ⟨b, 11, none⟩) (.inl (.inl rfl)) (.int .u64 A))
            clear h24 K4
            go_wp2_with fail
            refine K5.out.mono ?_
            rintro e w' ⟨rfl, F', hF, hfr, hnn⟩
            have HE := Px.hid (And.intro hF (And.intro hfr hnn))
            clear hF hfr hnn
            go_wp2
            go_end0
            rw [HR.out]
            exact ⟨rfl, _, HE.out.1, HXG.out.step (Fresh.refl _ _) HE.out.2.1, Fresh.trans (Fresh.refl _ _) HXG.out.size HE.out.2.2⟩
      · have h7' : ((K : Int) == 7) = false := by simp; omega
        have HR := Px.hid (HR.out.trans (if_neg (by simp [h7])))
        clear h7
        by_cases h24 : A < 24
        · have h24' : (A : Int) < 24 := by omega
          have HR := Px.hid (HR.out.trans (if_pos h24))
          have K5 := Px.hid (K4.out h24 WZ rfl)
          have HXG := Px.hid (HXF.out.setCell (p := ⟨b, 11, none⟩) (.inl (.inl rfl)) (.int .u64 A))
          clear h24 K4
          go_wp2_with fail
          refine K5.out.mono ?_
          rintro e w' ⟨rfl, F', hF, hfr, hnn⟩
          have HE := Px.hid (And.intro hF (And.intro hfr hnn))
          clear hF hfr hnn
          go_wp2
          go_end0
          rw [HR.out]
          exact ⟨rfl, _, HE.out.1, HXG.out.step (Fresh.refl _ _) HE.out.2.1, Fresh.trans (Fresh.refl _ _) HXG.out.size HE.out.2.2⟩
        · have h24' : ¬ (A : Int) < 24 := by omega
          have HR := Px.hid (HR.out.trans (if_neg h24))
          clear K4
          have hA4 : A = 24 ∨ A = 25 ∨ A = 26 ∨ A = 27 := by omega
          clear h24
          rcases hA4 with hA4 | hA4 | hA4 | hA4
          · subst hA4
            have HY := Px.hid ((HX.out.set 12 (.int .u64 1) { g with more := 1 } rfl rfl rfl rfl).set 7 (.int .i64 1) { g with more := 1, next := 1 } rfl rfl rfl rfl)
            have HYF := Px.hid ((HXF.out.setCell (p := ⟨b, 12, none⟩) (.inl (.inl rfl)) (.int .u64 1)).setCell (p := ⟨b, 7, none⟩) (.inl (.inl rfl)) (.int .i64 1))
            go_wp2
            go_end0
            rw [HR.out]
            exact ⟨rfl, _, ⟨_, _, _, HY.out, rfl⟩, HYF.out, Fresh.refl _ _⟩
          · subst hA4
            have HY := Px.hid ((HX.out.set 12 (.int .u64 2) { g with more := 2 } rfl rfl rfl rfl).set 7 (.int .i64 1) { g with more := 2, next := 1 } rfl rfl rfl rfl)
            have HYF := Px.hid ((HXF.out.setCell (p := ⟨b, 12, none⟩) (.inl (.inl rfl)) (.int .u64 2)).setCell (p := ⟨b, 7, none⟩) (.inl (.inl rfl)) (.int .i64 1))
            go_wp2
            go_end0
            rw [HR.out]
            exact ⟨rfl, _, ⟨_, _, _, HY.out, rfl⟩, HYF.out, Fresh.refl _ _⟩
          · subst hA4
            have HY := Px.hid ((HX.out.set 12 (.int .u64 4) { g with more := 4 } rfl rfl rfl rfl).set 7 (.int .i64 1) { g with more := 4, next := 1 } rfl rfl rfl rfl)
            have HYF := Px.hid ((HXF.out.setCell (p := ⟨b, 12, none⟩) (.inl (.inl rfl)) (.int .u64 4)).setCell (p := ⟨b, 7, none⟩) (.inl (.inl rfl)) (.int .i64 1))
            go_wp2
            go_end0
            rw [HR.out]
            exact ⟨rfl, _, ⟨_, _, _, HY.out, rfl⟩, HYF.out, Fresh.refl _ _⟩
          · subst hA4
            have HY := Px.hid ((HX.out.set 12 (.int .u64 8) { g with more := 8 } rfl rfl rfl rfl).set 7 (.int .i64 1) { g with more := 8, next := 1 } rfl rfl rfl rfl)
            have HYF := Px.hid ((HXF.out.setCell (p := ⟨b, 12, none⟩) (.inl (.inl rfl)) (.int .u64 8)).setCell (p := ⟨b, 7, none⟩) (.inl (.inl rfl)) (.int .i64 1))
            go_wp2
            go_end0
            rw [HR.out]
            exact ⟨rfl, _, ⟨_, _, _, HY.out, rfl⟩, HYF.out, Fresh.refl _ _⟩
end Go.Proofs.YtclbbfmpkhfigaaDoor
