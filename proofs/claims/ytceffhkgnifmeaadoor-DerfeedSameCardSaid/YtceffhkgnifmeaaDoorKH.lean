/-
  Several texts in one: The walk over derfeed's begun: an element holds it.
-/
import Derived.Test.YtceffhkgnifmeaaDoorKB
/-! The walk over derfeed's begun: an element holds it. -/
namespace Go.Proofs.YtceffhkgnifmeaaDoor
open Go.RowKit Go.Px

set_option maxRecDepth 100000 in
set_option maxHeartbeats 4000000 in
theorem begun_c (b : Nat) (f : F5.Feed) (n : Nat) (w : World) (vt vo vs : Value) (h : FeedRep w b f vt vo vs) (hok : F5.OkK 1 1 f) (he : f.err = 0) (hn : n ≤ 4294967296) (hF2 : ∀ k, foot b vt vo vs k → 2 ≤ k) (hT : Tabs w) (x : D5.Fm) (rest : List D5.Fm) (hst : f.stack = x :: rest) (hx : ¬ x.end_ < f.text.length + n) :
    Calls Tryd.prog 60 #[.pointer (some ⟨b, 0, none⟩), .int .i64 (n : Nat)] w fun r w' => BegunPost w b (foot b vt vo vs) (F5.begun f n) r w' := by
  have hFb : foot b vt vo vs b := .inl rfl
  obtain ⟨L, hL⟩ : ∃ L, L = f.text.length := ⟨_, rfl⟩
  obtain ⟨ta, tc, htv, _⟩ := h.text.len
  have c4 : w.cell? ⟨b, 4, none⟩ = some vt := cellOf h.blk 4 rfl
  rw [htv, ← hL] at c4
  have hLb : L ≤ 1000000 := by have := hok.tb; omega
  have HSUM := Px.hid (show (L : Int) + (n : Int) = ((L + n : Nat) : Int) by omega)
  have hwn : IntKind.i64.wrap ((L : Int) + (n : Int)) = (L : Int) + (n : Int) := IntWalk.i64_in _ ⟨by omega, by omega⟩
  have HT := Px.hid hT
  have HN := Px.hid hn
  have HW0 := Px.hid (show 2 ≤ w.heap.size by have := hF2 b (.inl rfl); have := h.lt; omega)
  obtain ⟨g, cap', hv', hc1, hc2, k0, k1, k2, k3, k4, kf⟩ := h.top hst
  have c6 : w.cell? ⟨b, 6, none⟩ = some vs := cellOf h.blk 6 rfl
  rw [hv'] at c6
  unfold maxLen at hc2
  have hrl : rest.length ≤ 1000000 := by have h1 := hok.sb; have h2 := hok.tb; rw [hst] at h1; simp at h1; omega
  have n0 : (0 : Int) < (rest.length : Int) + 1 := by omega
  have hgt : ¬ (x.end_ : Int) < (L : Int) + (n : Int) := by omega
  have hno : x.no < f.out.length := (hok.each x (by rw [hst]; exact List.mem_cons_self ..)).2.1
  obtain ⟨a, ha⟩ : ∃ a, f.out[x.no]? = some a := ⟨f.out[x.no], by simp [hno]⟩
  have hka := hok.kids a (List.mem_of_getElem? ha)
  obtain ⟨go, capo, hvo', ho1, ho2, kk, kfo⟩ := h.kids (j := x.no) ha
  have c5 : w.cell? ⟨b, 5, none⟩ = some vo := cellOf h.blk 5 rfl
  rw [hvo'] at c5
  unfold maxLen at ho2
  have hwk : IntKind.i64.wrap (a.kids + 1) = a.kids + 1 := by have := hok.tb; exact IntWalk.i64_in _ ⟨by omega, by omega⟩
  have hr1 : IntKind.i64.wrap ((rest.length : Int) + 1 - 1) = (rest.length : Int) := by rw [show (rest.length : Int) + 1 - 1 = rest.length by omega]; exact IntWalk.i64_in _ ⟨by omega, by omega⟩
  have hr2 : IntKind.i64.wrap (rest.length : Int) = (rest.length : Int) := IntWalk.i64_in _ ⟨by omega, by omega⟩
  obtain ⟨f1, hf1⟩ : ∃ f1, f1 = { f with out := R5.bump f.out x.no } := ⟨_, rfl⟩
  have HR := Px.hid (show F5.begun f n = F5.begunOn f1 n by rw [hf1]; unfold F5.begun; rw [hst]; exact if_neg hx)
  have HO1 := Px.hid (show F5.OkK 1 0 f1 by rw [hf1]; exact hok.bump x.no)
  have HL := Px.hid (show f1.text.length = L by rw [hf1]; exact hL.symm)
  have HE := Px.hid (show f1.err = 0 by rw [hf1]; exact he)
  have HB0 := Px.hid (show FeedRep (w.setCell ⟨go, x.no * 3 + 1, none⟩ (.int .i64 (a.kids + 1))) b f1 vt vo vs ∧ Fr (foot b vt vo vs) w (w.setCell ⟨go, x.no * 3 + 1, none⟩ (.int .i64 (a.kids + 1))) by
    rw [hf1]
    have h1 := h
    rw [hvo'] at h1
    have h2 := h1.bumpAt (j := x.no) ha
    rw [← hvo'] at h2
    exact ⟨h2, (Fr.refl _ w).setCell (p := ⟨go, x.no * 3 + 1, none⟩) (.inl (.inr (.inr (.inl (by rw [hvo']; rfl))))) _⟩)
  have hhb : b < w.heap.size := h.lt
  clear h hok he hT hL htv hst hx hv' hvo' hka ha hf1 k0 k1 k4 kf
  go_enter Tryd.func60, Tryd.ntmps60
  go_wp2_with fail
  go_region
  obtain ⟨WB, hWB⟩ : ∃ WB, WB = (w.setCell ⟨go, x.no * 3 + 1, none⟩ (.int .i64 (a.kids + 1))).drew := ⟨_, rfl⟩
  rw [← hWB]
  have HB := Px.hid (show FeedRep WB b f1 vt vo vs ∧ Fr (foot b vt vo vs) w WB from by rw [hWB]; exact ⟨HB0.out.1.drewN 1, HB0.out.2.drew⟩)
  clear hWB c4 c5 c6 k2 k3 kk kfo HB0 hwk hr1 hr2

  have hW2 : 2 ≤ WB.heap.size := by have := hF2 b (.inl rfl); have := HB.out.1.lt; omega
  obtain ⟨sa, sc, hsv⟩ := HB.out.1.stackLen
  obtain ⟨oa, oc, hov, _⟩ := HB.out.1.out.len
  have HV := Px.hid (And.intro hsv hov)
  have c8 : WB.cell? ⟨b, 8, none⟩ = some (.int .u8 f1.tag.toNat) := cellOf HB.out.1.blk 8 rfl
  have hcb := f1.tag.toNat_lt
  have hol : f1.out.length ≤ 1000000 := by have := HO1.out.ob; have := HO1.out.tb; omega
  have hsk : f1.stack.length ≤ 1000000 := by have := HO1.out.sb; have := HO1.out.tb; omega
  clear hsv hov
  by_cases hin : R5.inner f1.tag.toNat = true
  · have hbt := bit32_t f1.tag.toNat hcb hin
    have HG := Px.hid (show F5.begunOn f1 n = F5.settle { f1 with stack := ⟨f1.tag, f1.place, L + n, f1.out.length, []⟩ :: f1.stack, out := f1.out ++ [⟨f1.tag, 0, []⟩] } by unfold F5.begunOn; rw [if_pos hin, HL.out])
    have HGO := Px.hid (show F5.OkK 0 0 { f1 with stack := ⟨f1.tag, f1.place, L + n, f1.out.length, []⟩ :: f1.stack, out := f1.out ++ [⟨f1.tag, 0, []⟩] } from push_ok HO1.out HL.out HN.out)
    clear hin
    have c6 : WB.cell? ⟨b, 6, none⟩ = some vs := cellOf HB.out.1.blk 6 rfl
    have c5 : WB.cell? ⟨b, 5, none⟩ = some vo := cellOf HB.out.1.blk 5 rfl
    rw [HV.out.2] at c5
    have c9 : WB.cell? ⟨b, 9, none⟩ = some (.int .i64 (f1.place : Nat)) := cellOf HB.out.1.blk 9 rfl
    have f6 := HB.out.1.free 6
    have hbl : b < WB.heap.size := HB.out.1.lt
    obtain ⟨j0, hj0, hy0, hy1, hy2⟩ := info_parts Tryd.infoFmF
    have HS := Px.hid (show WB.ownsRow 0 111 5 vs f1.stack.length (f1.stack.reverse.flatMap cFrame) by have := HB.out.1.stack; unfold Owns at this; rw [List.length_reverse] at this; exact this)
    clear hc1 hc2 ho1 ho2 hno n0 hgt hhb hrl hwn hW2
    go_upto_region 7 with fail
    go_cut [] (fun wx => AfterPush WB wx b f1 ⟨f1.tag, f1.place, L + n, f1.out.length, []⟩ vt vo vs)
    case first =>
      go_region_law
        ((refine step_append_lies _ (by rfl) _ _ _ (by rfl) 0 111 j0 _ 5 48 Tryd.underlying57 hj0 hy0 hy1 hy2 rfl (by omega) vs f1.stack.length (f1.stack.reverse.flatMap cFrame) (by rfl) ((HS.out.alloc _).drew) ⟨WB.heap.size, 0, none⟩ 1 1 (cFrame ⟨f1.tag, f1.place, L + n, f1.out.length, []⟩) (by rfl) (by rfl) (World.news_of_block (cs := #[.int .u8 f1.tag.toNat, .int .i64 (f1.place : Nat), .int .i64 ((L + n : Nat) : Int), .int .i64 (f1.out.length : Nat), .string ⟨#[]⟩]) (t := 111) (fr := (0, 0)) (by rw [← HSUM.out]; exact heap_alloc_new WB _)) (by simp [cFrame, Value.oneCell'])
              (by omega) (by unfold maxLen; omega) (by omega) (by simp) (WB.heap.size + 1) (by simp) ?_; intro gg cap w1 hown1 hgrow hat hlt; have k6 := grown_cell hgrow c6 HB.out.1.sb.ne; have e6 := grown_free hgrow c6 f6 HB.out.1.sb.ne))
      all_goals (go_wp2_with fail; go_meet; exact HB.out.1.afterPush hown1 (grown_alloc hgrow) (hat.elim .inl (fun e => .inr (by omega))))
    case rest =>
      obtain ⟨vs', hy, hyf, hyn⟩ := hcut
      have HY := Px.hid (And.intro hy (And.intro hyf hyn))
      clear hy hyf hyn c5 c6 c8 c9 f6
      have hb2 : b < wc.heap.size := HY.out.1.lt
      have c5 : wc.cell? ⟨b, 5, none⟩ = some vo := cellOf HY.out.1.blk 5 rfl
      have c8 : wc.cell? ⟨b, 8, none⟩ = some (.int .u8 f1.tag.toNat) := cellOf HY.out.1.blk 8 rfl
      have f5 := HY.out.1.free 5
      obtain ⟨i0, hi0, hz0, hz1, hz2⟩ := info_parts Tryd.infoNode
      have HOW := Px.hid (show wc.ownsRow 0 63 3 vo f1.out.length (f1.out.flatMap cNode) from HY.out.1.out)
      go_upto_region 8 with fail
      go_cut [] (fun wx => AfterOut wc wx b { f1 with stack := ⟨f1.tag, f1.place, L + n, f1.out.length, []⟩ :: f1.stack } ⟨f1.tag, 0, []⟩ vt vo vs')
      case first =>
        go_region_law
          ((refine step_append_lies _ (by rfl) _ _ _ (by rfl) 0 63 i0 _ 3 32 Tryd.underlying25 hi0 hz0 hz1 hz2 rfl (by omega) vo f1.out.length (f1.out.flatMap cNode) (by rfl) ((HOW.out.alloc _).drew)
                ⟨wc.heap.size, 0, none⟩ 1 1 (cNode ⟨f1.tag, 0, []⟩) (by rfl) (by rfl) (World.news_of_block (cs := #[.int .u8 f1.tag.toNat, .int .i64 0, .string ⟨#[]⟩]) (t := 63) (fr := (0, 0)) (heap_alloc_new wc _)) (by simp [cNode, Value.oneCell'])
                (by omega) (by unfold maxLen; omega) (by omega) (by simp) (wc.heap.size + 1) (by simp) ?_; intro gg cap w1 hown1 hgrow hat hlt; have k5 := grown_cell hgrow c5 HY.out.1.ob.ne; have e5 := grown_free hgrow c5 f5 HY.out.1.ob.ne))
        all_goals (go_wp2_with fail; go_meet; exact HY.out.1.afterOut hown1 (grown_alloc hgrow) (hat.imp id (fun e => by omega)))
      case rest =>
        obtain ⟨vo', hz, hzf, hzn⟩ := hcut
        have HZ := Px.hid (And.intro hz (And.intro hzf hzn))
        clear hz hzf hzn c5 c8 f5
        go_wp2_with fail
        refine (settle_any b _ _ _ ⟨_, _, _, HZ.out.1, rfl⟩ HGO.out HE.out).mono ?_
        rintro e w2 ⟨rfl, hF, hfr⟩
        go_wp2
        refine bodyPost_ret (results_none rfl _ _ _) rfl ?_
        rw [HR.out, HG.out]
        have hfA := HB.out.2.step (Fresh.refl _ _) HY.out.2.1
        have hnA := Fresh.trans (Fresh.refl w (foot b vt vo vs)) HB.out.2.size HY.out.2.2
        have hfB := hfA.step hnA HZ.out.2.1
        have hnB := Fresh.trans hnA hfA.size HZ.out.2.2
        exact ⟨rfl, _, hF, hfB.step hnB hfr, hnB⟩
  · have hin' : R5.inner f1.tag.toNat = false := by simpa using hin
    have hbt := bit32_f f1.tag.toNat hcb hin'
    have c11 : WB.cell? ⟨b, 11, none⟩ = some (.int .i64 (f1.more : Nat)) := cellOf HB.out.1.blk 11 rfl
    have f11 := HB.out.1.free 11
    have c7 : WB.cell? ⟨b, 7, none⟩ = some (waitV b f1.next) := cellOf HB.out.1.blk 7 rfl
    have f7 := HB.out.1.free 7
    have hz := (HB.out.1.set 11 (.int .i64 (n : Nat)) { f1 with more := n } rfl rfl rfl rfl).set 7 (metV b 64) { f1 with more := n, next := 3 } rfl rfl rfl rfl
    have hzf := (HB.out.2.setCell (p := ⟨b, 11, none⟩) (.inl (.inl rfl)) (.int .i64 (n : Nat))).setCell (p := ⟨b, 7, none⟩) (.inl (.inl rfl)) (metV b 64)
    have HZ := Px.hid (And.intro hz hzf)
    have HZO := Px.hid (show F5.OkK 1 0 { f1 with more := n, next := 3 } from ⟨HO1.out.sb, HO1.out.ob, HO1.out.tb, HO1.out.each, HO1.out.kids, HO1.out.pl⟩)
    clear hz hzf
    by_cases hn0 : n = 0
    · have hn0' : ((n : Int) == 0) = true := by simp; omega
      have HG := Px.hid (show F5.begunOn f1 n = F5.whole { f1 with more := n, next := 3 } by unfold F5.begunOn; rw [if_neg hin]; simp only; rw [if_pos (by simpa using hn0)])
      have HN0 := Px.hid hn0
      clear hin hin' hn0
      go_wp2_with fail
      refine (whole_any b _ _ _ ⟨_, _, _, HZ.out.1, rfl⟩ HZO.out (HT.out.fr HZ.out.2 hF2 (by have := HW0.out; omega))).mono ?_
      rintro e w2 ⟨rfl, F', hF, hfr, hnn⟩
      go_wp2
      go_end0
      rw [HR.out, HG.out]
      exact ⟨rfl, F', hF, HZ.out.2.step (Fresh.refl _ _) hfr, Fresh.trans (Fresh.refl _ _) HZ.out.2.size hnn⟩
    · have hn0' : ((n : Int) == 0) = false := by simp; omega
      have HG := Px.hid (show F5.begunOn f1 n = { f1 with more := n, next := 3 } by unfold F5.begunOn; rw [if_neg hin]; simp only; rw [if_neg (by simpa using hn0)])
      clear hin hin' hn0
      go_wp2
      go_end0
      rw [HR.out, HG.out]
      exact ⟨rfl, _, ⟨_, _, _, HZ.out.1, rfl⟩, HZ.out.2, Fresh.refl _ _⟩
end Go.Proofs.YtceffhkgnifmeaaDoor
