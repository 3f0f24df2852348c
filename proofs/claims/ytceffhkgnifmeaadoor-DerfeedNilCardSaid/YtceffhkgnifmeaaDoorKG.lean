/-
  Several texts in one: The walk over derfeed's begun: nothing holds the element.
-/
import Derived.Test.YtceffhkgnifmeaaDoorKB
/-! The walk over derfeed's begun: nothing holds the element. -/
namespace Go.Proofs.YtceffhkgnifmeaaDoor
open Go.RowKit Go.Px

set_option maxRecDepth 100000 in
set_option maxHeartbeats 4000000 in
theorem begun_n (b : Nat) (f : F5.Feed) (n : Nat) (w : World) (vt vo vs : Value) (h : FeedRep w b f vt vo vs) (hok : F5.OkK 1 1 f) (he : f.err = 0) (hn : n ≤ 4294967296) (hF2 : ∀ k, foot b vt vo vs k → 2 ≤ k) (hT : Tabs w) (hst : f.stack = []) :
    Calls Tryd.prog 60 #[.pointer (some ⟨b, 0, none⟩), .int .i64 (n : Nat)] w fun r w' => BegunPost w b (foot b vt vo vs) (F5.begun f n) r w' := by
  have hFb : foot b vt vo vs b := .inl rfl
  obtain ⟨L, hL⟩ : ∃ L, L = f.text.length := ⟨_, rfl⟩
  obtain ⟨ta, tc, htv, _⟩ := h.text.len
  have c4 : w.cell? ⟨b, 4, none⟩ = some vt := cellOf h.blk 4 rfl
  rw [htv, ← hL] at c4
  have hLb : L ≤ 1000000 := by have := hok.tb; omega
  have HSUM := Px.hid (show (L : Int) + (n : Int) = ((L + n : Nat) : Int) by omega)
  have hwn : IntKind.i64.wrap ((L : Int) + (n : Int)) = (L : Int) + (n : Int) := IntWalk.i64_in _ ⟨by omega, by omega⟩
  have HT := Px.hid hT
  have HN := Px.hid hn
  have HW0 := Px.hid (show 2 ≤ w.heap.size by have := hF2 b (.inl rfl); have := h.lt; omega)
  have c6 : w.cell? ⟨b, 6, none⟩ = some vs := cellOf h.blk 6 rfl
  obtain ⟨sa0, sc0, hsv0⟩ := h.stackLen
  rw [hsv0, hst] at c6
  have HR := Px.hid (show F5.begun f n = F5.begunOn f n by unfold F5.begun; rw [hst])
  have HB0 := Px.hid (And.intro h (Fr.refl (foot b vt vo vs) w))
  have HO1 := Px.hid (hok.mono (Nat.le_refl 1) (Nat.zero_le 1))
  have HL := Px.hid hL.symm
  have HE := Px.hid he
  clear h hok he hT hL htv hsv0 hst
  go_enter Tryd.func60, Tryd.ntmps60
  go_upto_region 6 with fail
  obtain ⟨WB, hWB⟩ : ∃ WB, WB = w := ⟨_, rfl⟩
  rw [← hWB]
  have HB := Px.hid (show FeedRep WB b f vt vo vs ∧ Fr (foot b vt vo vs) w WB from by rw [hWB]; exact HB0.out)
  clear hWB c4 c6 HB0

  have hW2 : 2 ≤ WB.heap.size := by have := hF2 b (.inl rfl); have := HB.out.1.lt; omega
  obtain ⟨sa, sc, hsv⟩ := HB.out.1.stackLen
  obtain ⟨oa, oc, hov, _⟩ := HB.out.1.out.len
  have HV := Px.hid (And.intro hsv hov)
  have c8 : WB.cell? ⟨b, 8, none⟩ = some (.int .u8 f.tag.toNat) := cellOf HB.out.1.blk 8 rfl
  have hcb := f.tag.toNat_lt
  have hol : f.out.length ≤ 1000000 := by have := HO1.out.ob; have := HO1.out.tb; omega
  have hsk : f.stack.length ≤ 1000000 := by have := HO1.out.sb; have := HO1.out.tb; omega
  clear hsv hov
  by_cases hin : R5.inner f.tag.toNat = true
  · have hbt := bit32_t f.tag.toNat hcb hin
    have HG := Px.hid (show F5.begunOn f n = F5.settle { f with stack := ⟨f.tag, f.place, L + n, f.out.length, []⟩ :: f.stack, out := f.out ++ [⟨f.tag, 0, []⟩] } by unfold F5.begunOn; rw [if_pos hin, HL.out])
    have HGO := Px.hid (show F5.OkK 0 0 { f with stack := ⟨f.tag, f.place, L + n, f.out.length, []⟩ :: f.stack, out := f.out ++ [⟨f.tag, 0, []⟩] } from push_ok HO1.out HL.out HN.out)
    clear hin
    have c6 : WB.cell? ⟨b, 6, none⟩ = some vs := cellOf HB.out.1.blk 6 rfl
    have c5 : WB.cell? ⟨b, 5, none⟩ = some vo := cellOf HB.out.1.blk 5 rfl
    rw [HV.out.2] at c5
    have c9 : WB.cell? ⟨b, 9, none⟩ = some (.int .i64 (f.place : Nat)) := cellOf HB.out.1.blk 9 rfl
    have f6 := HB.out.1.free 6
    have hbl : b < WB.heap.size := HB.out.1.lt
    obtain ⟨j0, hj0, hy0, hy1, hy2⟩ := info_parts Tryd.infoFmF
    have HS := Px.hid (show WB.ownsRow 0 111 5 vs f.stack.length (f.stack.reverse.flatMap cFrame) by have := HB.out.1.stack; unfold Owns at this; rw [List.length_reverse] at this; exact this)
    go_upto_region 7 with fail
    go_cut [] (fun wx => AfterPush WB wx b f ⟨f.tag, f.place, L + n, f.out.length, []⟩ vt vo vs)
    case first =>
      go_region_law
        ((refine step_append_lies _ (by rfl) _ _ _ (by rfl) 0 111 j0 _ 5 48 Tryd.underlying57 hj0 hy0 hy1 hy2 rfl (by omega) vs f.stack.length (f.stack.reverse.flatMap cFrame) (by rfl) ((HS.out.alloc _).drew) ⟨WB.heap.size, 0, none⟩ 1 1 (cFrame ⟨f.tag, f.place, L + n, f.out.length, []⟩) (by rfl) (by rfl) (World.news_of_block (cs := #[.int .u8 f.tag.toNat, .int .i64 (f.place : Nat), .int .i64 ((L + n : Nat) : Int), .int .i64 (f.out.length : Nat), .string ⟨#[]⟩]) (t := 111) (fr := (0, 0)) (by rw [← HSUM.out]; exact heap_alloc_new WB _)) (by simp [cFrame, Value.oneCell'])
              (by omega) (by unfold maxLen; omega) (by omega) (by simp) (WB.heap.size + 1) (by simp) ?_; intro gg cap w1 hown1 hgrow hat hlt; have k6 := grown_cell hgrow c6 HB.out.1.sb.ne; have e6 := grown_free hgrow c6 f6 HB.out.1.sb.ne))
      all_goals (go_wp2_with fail; go_meet; exact HB.out.1.afterPush hown1 (grown_alloc hgrow) (hat.elim .inl (fun e => .inr (by omega))))
    case rest =>
      obtain ⟨vs', hy, hyf, hyn⟩ := hcut
      have HY := Px.hid (And.intro hy (And.intro hyf hyn))
      clear hy hyf hyn c5 c6 c8 c9 f6
      have hb2 : b < wc.heap.size := HY.out.1.lt
      have c5 : wc.cell? ⟨b, 5, none⟩ = some vo := cellOf HY.out.1.blk 5 rfl
      have c8 : wc.cell? ⟨b, 8, none⟩ = some (.int .u8 f.tag.toNat) := cellOf HY.out.1.blk 8 rfl
      have f5 := HY.out.1.free 5
      obtain ⟨i0, hi0, hz0, hz1, hz2⟩ := info_parts Tryd.infoNode
      have HOW := Px.hid (show wc.ownsRow 0 63 3 vo f.out.length (f.out.flatMap cNode) from HY.out.1.out)
      go_upto_region 8 with fail
      go_cut [] (fun wx => AfterOut wc wx b { f with stack := ⟨f.tag, f.place, L + n, f.out.length, []⟩ :: f.stack } ⟨f.tag, 0, []⟩ vt vo vs')
      case first =>
        go_region_law
          ((refine step_append_lies _ (by rfl) _ _ _ (by rfl) 0 63 i0 _ 3 32 Tryd.underlying25 hi0 hz0 hz1 hz2 rfl (by omega) vo f.out.length (f.out.flatMap cNode) (by rfl) ((HOW.out.alloc _).drew)
                ⟨wc.heap.size, 0, none⟩ 1 1 (cNode ⟨f.tag, 0, []⟩) (by rfl) (by rfl) (World.news_of_block (cs := #[.int .u8 f.tag.toNat, .int .i64 0, .string ⟨#[]⟩]) (t := 63) (fr := (0, 0)) (heap_alloc_new wc _)) (by simp [cNode, Value.oneCell'])
                (by omega) (by unfold maxLen; omega) (by omega) (by simp) (wc.heap.size + 1) (by simp) ?_; intro gg cap w1 hown1 hgrow hat hlt; have k5 := grown_cell hgrow c5 HY.out.1.ob.ne; have e5 := grown_free hgrow c5 f5 HY.out.1.ob.ne))
        all_goals (go_wp2_with fail; go_meet; exact HY.out.1.afterOut hown1 (grown_alloc hgrow) (hat.imp id (fun e => by omega)))
      case rest =>
        obtain ⟨vo', hz, hzf, hzn⟩ := hcut
        have HZ := Px.hid (And.intro hz (And.intro hzf hzn))
        clear hz hzf hzn c5 c8 f5
        go_wp2_with fail
        refine (settle_any b _ _ _ ⟨_, _, _, HZ.out.1, rfl⟩ HGO.out HE.out).mono ?_
        rintro e w2 ⟨rfl, hF, hfr⟩
        go_wp2
        refine bodyPost_ret (results_none rfl _ _ _) rfl ?_
        rw [HR.out, HG.out]
        have hfA := HB.out.2.step (Fresh.refl _ _) HY.out.2.1
        have hnA := Fresh.trans (Fresh.refl w (foot b vt vo vs)) HB.out.2.size HY.out.2.2
        have hfB := hfA.step hnA HZ.out.2.1
        have hnB := Fresh.trans hnA hfA.size HZ.out.2.2
        exact ⟨rfl, _, hF, hfB.step hnB hfr, hnB⟩
  · have hin' : R5.inner f.tag.toNat = false := by simpa using hin
    have hbt := bit32_f f.tag.toNat hcb hin'
    have c11 : WB.cell? ⟨b, 11, none⟩ = some (.int .i64 (f.more : Nat)) := cellOf HB.out.1.blk 11 rfl
    have f1 := HB.out.1.free 11
    have c7 : WB.cell? ⟨b, 7, none⟩ = some (waitV b f.next) := cellOf HB.out.1.blk 7 rfl
    have f7 := HB.out.1.free 7
    have hz := (HB.out.1.set 11 (.int .i64 (n : Nat)) { f with more := n } rfl rfl rfl rfl).set 7 (metV b 64) { f with more := n, next := 3 } rfl rfl rfl rfl
    have hzf := (HB.out.2.setCell (p := ⟨b, 11, none⟩) (.inl (.inl rfl)) (.int .i64 (n : Nat))).setCell (p := ⟨b, 7, none⟩) (.inl (.inl rfl)) (metV b 64)
    have HZ := Px.hid (And.intro hz hzf)
    have HZO := Px.hid (show F5.OkK 1 0 { f with more := n, next := 3 } from ⟨HO1.out.sb, HO1.out.ob, HO1.out.tb, HO1.out.each, HO1.out.kids, HO1.out.pl⟩)
    clear hz hzf
    by_cases hn0 : n = 0
    · have hn0' : ((n : Int) == 0) = true := by simp; omega
      have HG := Px.hid (show F5.begunOn f n = F5.whole { f with more := n, next := 3 } by unfold F5.begunOn; rw [if_neg hin]; simp only; rw [if_pos (by simpa using hn0)])
      have HN0 := Px.hid hn0
      clear hin hin' hn0
      go_wp2_with fail
      refine (whole_any b _ _ _ ⟨_, _, _, HZ.out.1, rfl⟩ HZO.out (HT.out.fr HZ.out.2 hF2 (by have := HW0.out; omega))).mono ?_
      rintro e w2 ⟨rfl, F', hF, hfr, hnn⟩
      go_wp2
      go_end0
      rw [HR.out, HG.out]
      exact ⟨rfl, F', hF, HZ.out.2.step (Fresh.refl _ _) hfr, Fresh.trans (Fresh.refl _ _) HZ.out.2.size hnn⟩
    · have hn0' : ((n : Int) == 0) = false := by simp; omega
      have HG := Px.hid (show F5.begunOn f n = { f with more := n, next := 3 } by unfold F5.begunOn; rw [if_neg hin]; simp only; rw [if_neg (by simpa using hn0)])
      clear hin hin' hn0
      go_wp2
      go_end0
      rw [HR.out, HG.out]
      exact ⟨rfl, _, ⟨_, _, _, HZ.out.1, rfl⟩, HZ.out.2, Fresh.refl _ _⟩
end Go.Proofs.YtceffhkgnifmeaaDoor
