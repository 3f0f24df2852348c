/-
  The walk over cborfeed's known.
-/
import Derived.Test.YtclbbfmpkhfigaaDoorCfC
namespace Go.Proofs.YtclbbfmpkhfigaaDoor
open Go.RowKit Go.Px Go.Px.Cf

set_option maxRecDepth 100000 in
set_option maxHeartbeats 4000000 in
theorem known_any (b : Nat) (f : Feed) (F : Nat → Prop) (w : World) (h : FeedAt w b f F) (hg : FOk f) (hl : ∀ x ∈ f.stack, 0 < x.left) (hp : f.hat < f.text.length)
    (hn : f.num < 18446744073709551616) (hF2 : ∀ k, F k → 2 ≤ k) (ho : f.out.length ≤ 1000000) (hsk : f.stack.length ≤ 900) (hT : Tabs w) :
    Calls Tryd.prog 43 #[.pointer (some ⟨b, 0, none⟩)] w fun r w' => r = .returned (.tuple #[]) ∧ ∃ F', FeedAt w' b (Cf.known f) F' ∧ Fr F w w' ∧ Fresh w F F' := by
  obtain ⟨vt, vo, vs, h, rfl⟩ := h
  have ht := hg.text
  have c8 : w.cell? ⟨b, 8, none⟩ = some (.int .i64 f.kind) := cellOf h.blk 8 rfl
  have c11 : w.cell? ⟨b, 11, none⟩ = some (.int .u64 f.num) := cellOf h.blk 11 rfl
  have hb : b < w.heap.size := h.lt
  have HG := Px.hid (show ∀ N, N < 18446744073709551616 → FOk { f with out := f.out ++ [⟨f.kind, f.num, []⟩], stack := ⟨f.kind, f.hat, f.info, f.num, f.more, N, [], false⟩ :: f.stack } from
    fun N hN => (hg.push hl N hN hp hsk).out _)
  have H := Px.hid (And.intro h (And.intro hg (And.intro hl (And.intro hp hT))))
  clear h hg hl hT

  by_cases k2 : f.kind = 2
  · have hk := k2
    clear k2
    have k2' : (f.kind == 2) = true := by rw [hk]; rfl
    have c7 : w.cell? ⟨b, 7, none⟩ = some (.int .i64 f.next) := cellOf H.out.1.blk 7 rfl
    have c12 : w.cell? ⟨b, 12, none⟩ = some (.int .u64 f.more) := cellOf H.out.1.blk 12 rfl
    have f7 := H.out.1.free 7
    have f12 := H.out.1.free 12
    have HY := Px.hid (((H.out.1.set 12 (.int .u64 f.num) { f with more := f.num } rfl rfl rfl rfl).set 7 (.int .i64 2) { f with more := f.num, next := 2 } rfl rfl rfl rfl).alloc (.cells #[.int .i64 f.kind, .int .u64 f.num, .string ⟨#[]⟩] 72))
    have HYF := Px.hid ((((Fr.refl (foot b vt vo vs) w).setCell (p := ⟨b, 12, none⟩) (.inl (.inl rfl)) (.int .u64 f.num)).setCell (p := ⟨b, 7, none⟩) (.inl (.inl rfl)) (.int .i64 2)).alloc (.cells #[.int .i64 f.kind, .int .u64 f.num, .string ⟨#[]⟩] 72))
    by_cases hz : f.num = 0
    · have hz' : ((f.num : Int) == 0) = true := by simp [hz]
      have HR := Px.hid (show Cf.known f = Cf.whole { f with more := f.num, next := 2 } by simp [Cf.known, hk, hz])
      have HZ := Px.hid hz
      clear hk hz
      go_enter Tryd.func43, Tryd.ntmps43
      go_wp2_with fail
      refine (whole_any b { f with more := f.num, next := 2 } _ _ ⟨_, _, _, HY.out, rfl⟩ ⟨H.out.2.1.each, H.out.2.1.tail, H.out.2.1.text, H.out.2.1.stack⟩ H.out.2.2.1 (fun _ => H.out.2.2.2.1) (by show f.num ≤ _; rw [HZ.out]; exact Nat.zero_le _) ho (H.out.2.2.2.2.fr HYF.out hF2 (by have := hF2 b (.inl rfl); omega))).mono ?_
      rintro e w' ⟨rfl, F', hF, hfr, hn'⟩
      have HE := Px.hid (And.intro hF (And.intro hfr hn'))
      clear hF hfr hn'
      go_wp2
      refine bodyPost_ret (results_none rfl _ _ _) rfl ?_
      rw [HR.out]
      exact ⟨rfl, _, HE.out.1, HYF.out.step (Fresh.refl _ _) HE.out.2.1, Fresh.trans (Fresh.refl _ _) HYF.out.size HE.out.2.2⟩
    · have hz' : ((f.num : Int) == 0) = false := by simp [hz]
      have HR := Px.hid (show Cf.known f = { f with more := f.num, next := 2 } by simp [Cf.known, hk, hz])
      clear hk hz
      go_enter Tryd.func43, Tryd.ntmps43
      go_wp2
      refine bodyPost_ret (results_none rfl _ _ _) rfl ?_
      rw [HR.out]
      exact ⟨rfl, _, ⟨_, _, _, HY.out, rfl⟩, HYF.out, Fresh.refl _ _⟩
  by_cases k3 : f.kind = 3
  · have hk := k3
    clear k3
    have k2' : (f.kind == 2) = false := by rw [hk]; rfl
    have k3' : (f.kind == 3) = true := by rw [hk]; rfl
    have c7 : w.cell? ⟨b, 7, none⟩ = some (.int .i64 f.next) := cellOf H.out.1.blk 7 rfl
    have c12 : w.cell? ⟨b, 12, none⟩ = some (.int .u64 f.more) := cellOf H.out.1.blk 12 rfl
    have f7 := H.out.1.free 7
    have f12 := H.out.1.free 12
    have HY := Px.hid (((H.out.1.set 12 (.int .u64 f.num) { f with more := f.num } rfl rfl rfl rfl).set 7 (.int .i64 2) { f with more := f.num, next := 2 } rfl rfl rfl rfl).alloc (.cells #[.int .i64 f.kind, .int .u64 f.num, .string ⟨#[]⟩] 72))
    have HYF := Px.hid ((((Fr.refl (foot b vt vo vs) w).setCell (p := ⟨b, 12, none⟩) (.inl (.inl rfl)) (.int .u64 f.num)).setCell (p := ⟨b, 7, none⟩) (.inl (.inl rfl)) (.int .i64 2)).alloc (.cells #[.int .i64 f.kind, .int .u64 f.num, .string ⟨#[]⟩] 72))
    by_cases hz : f.num = 0
    · have hz' : ((f.num : Int) == 0) = true := by simp [hz]
      have HR := Px.hid (show Cf.known f = Cf.whole { f with more := f.num, next := 2 } by simp [Cf.known, hk, hz])
      have HZ := Px.hid hz
      clear hk hz
      go_enter Tryd.func43, Tryd.ntmps43
      go_wp2_with fail
      refine (whole_any b { f with more := f.num, next := 2 } _ _ ⟨_, _, _, HY.out, rfl⟩ ⟨H.out.2.1.each, H.out.2.1.tail, H.out.2.1.text, H.out.2.1.stack⟩ H.out.2.2.1 (fun _ => H.out.2.2.2.1) (by show f.num ≤ _; rw [HZ.out]; exact Nat.zero_le _) ho (H.out.2.2.2.2.fr HYF.out hF2 (by have := hF2 b (.inl rfl); omega))).mono ?_
      rintro e w' ⟨rfl, F', hF, hfr, hn'⟩
      have HE := Px.hid (And.intro hF (And.intro hfr hn'))
      clear hF hfr hn'
      go_wp2
      refine bodyPost_ret (results_none rfl _ _ _) rfl ?_
      rw [HR.out]
      exact ⟨rfl, _, HE.out.1, HYF.out.step (Fresh.refl _ _) HE.out.2.1, Fresh.trans (Fresh.refl _ _) HYF.out.size HE.out.2.2⟩
    · have hz' : ((f.num : Int) == 0) = false := by simp [hz]
      have HR := Px.hid (show Cf.known f = { f with more := f.num, next := 2 } by simp [Cf.known, hk, hz])
      clear hk hz
      go_enter Tryd.func43, Tryd.ntmps43
      go_wp2
      refine bodyPost_ret (results_none rfl _ _ _) rfl ?_
      rw [HR.out]
      exact ⟨rfl, _, ⟨_, _, _, HY.out, rfl⟩, HYF.out, Fresh.refl _ _⟩
  by_cases k4 : f.kind = 4
  · have hk := k4
    clear k4
    have k2' : (f.kind == 2) = false := by rw [hk]; rfl
    have k3' : (f.kind == 3) = false := by rw [hk]; rfl
    have k4' : (f.kind == 4) = true := by rw [hk]; rfl
    have HR := Px.hid (show Cf.known f = Cf.opens f (f.num) by simp [Cf.known, hk])
    have HN := Px.hid (show f.num < 18446744073709551616 by exact hn)
    clear hk
    have s6 : w.cell? ⟨b, 6, none⟩ = some vs := cellOf H.out.1.blk 6 rfl
    have s0 : w.cell? ⟨b, 0, none⟩ = some (.int .i64 f.lim.d) := cellOf H.out.1.blk 0 rfl
    obtain ⟨sa, sc, hsv⟩ := H.out.1.stackLen
    rw [hsv] at s6
    have HSV := Px.hid hsv
    clear hsv
    go_enter Tryd.func43, Tryd.ntmps43
    go_wp2_with fail
    go_quiet (fail)
    clear s6 s0
    have HX := Px.hid ((H.out.1.alloc (.cells #[.int .i64 f.kind, .int .u64 f.num, .string ⟨#[]⟩] 72)).drewN nq)
    have HXF := Px.hid (Fr.drewN ((Fr.refl (foot b vt vo vs) w).alloc (.cells #[.int .i64 f.kind, .int .u64 f.num, .string ⟨#[]⟩] 72)) nq)
    have hx : ((w.alloc (.cells #[.int .i64 f.kind, .int .u64 f.num, .string ⟨#[]⟩] 72)).drewN nq).heap[w.heap.size]? = some (.cells #[.int .i64 f.kind, .int .u64 f.num, .string ⟨#[]⟩] 72 (0, 0)) := heap_alloc_new w _
    have hlt : w.heap.size < ((w.alloc (.cells #[.int .i64 f.kind, .int .u64 f.num, .string ⟨#[]⟩] 72)).drewN nq).heap.size := (by simp)
    obtain ⟨WX, hWX⟩ : ∃ WX, WX = (w.alloc (.cells #[.int .i64 f.kind, .int .u64 f.num, .string ⟨#[]⟩] 72)).drewN nq := ⟨_, rfl⟩
    have eW : (w.alloc (.cells #[.int .i64 f.kind, .int .u64 f.num, .string ⟨#[]⟩] 72)).drewN nq = WX := hWX.symm
    rw [eW] at HX HXF hx hlt ⊢
    clear hWX eW c8 c11 hb
    have hb : b < WX.heap.size := HX.out.lt
    have x0 : WX.cell? ⟨w.heap.size, 0, none⟩ = some (.int .i64 f.kind) := cellOf hx 0 rfl
    have x1 : WX.cell? ⟨w.heap.size, 1, none⟩ = some (.int .u64 f.num) := cellOf hx 1 rfl
    have x2 : WX.cell? ⟨w.heap.size, 2, none⟩ = some (.string ⟨#[]⟩) := cellOf hx 2 rfl
    have c9 : WX.cell? ⟨b, 9, none⟩ = some (.int .i64 f.hat) := cellOf HX.out.blk 9 rfl
    rcases Bool.eq_false_or_eq_true ((f.stack.length : Int) == f.lim.d) with hd | hd
    · have HR := Px.hid (show Cf.known f = Cf.wrong f f.hat 10 by rw [HR.out]; simp only [Cf.opens, hd, if_true])
      have HD := Px.hid hd
      go_wp2_with fail
      refine (wrong_any b f.hat 10 f _ _ ⟨_, _, _, HX.out, rfl⟩).mono ?_
      rintro e w' ⟨rfl, hF, hfr⟩
      go_wp2
      refine bodyPost_ret (results_none rfl _ _ _) rfl ?_
      rw [HR.out]
      exact ⟨rfl, _, hF, HXF.out.step (Fresh.refl _ _) hfr, Fresh.refl _ _⟩
    · have HR := Px.hid (show Cf.known f = Cf.settle { f with out := f.out ++ [⟨f.kind, f.num, []⟩], stack := ⟨f.kind, f.hat, f.info, f.num, f.more, f.num, [], false⟩ :: f.stack } by rw [HR.out]; simp only [Cf.opens, hd]; rfl)
      have c5 : WX.cell? ⟨b, 5, none⟩ = some vo := cellOf HX.out.blk 5 rfl
      have f5 := HX.out.free 5
      obtain ⟨i0, hi0, hz0, hz1, hz2⟩ := info_parts Tryd.infoAtom
      go_upto_region 18 with fail
      go_cut [] (fun wx => AfterOut WX wx b f ⟨f.kind, f.num, []⟩ vt vo vs)
      case first =>
        go_region_law
          ((refine step_append_lies _ (by rfl) _ _ _ (by rfl) 0 72 i0 _ 3 32 Tryd.underlying32 hi0 hz0 hz1 hz2 rfl (by omega) vo f.out.length (f.out.flatMap cAtom) (by rfl) ((HX.out.out.alloc _).drew)
                ⟨WX.heap.size, 0, none⟩ 1 1 (cAtom ⟨f.kind, f.num, []⟩) (by rfl) (by rfl) (World.news_of_block (cs := #[.int .i64 f.kind, .int .u64 f.num, S []]) (t := 72) (fr := (0, 0)) (heap_alloc_new WX _)) (by simp [cAtom, Value.oneCell'])
                (by omega) (by unfold maxLen; omega) (by omega) (by simp) (WX.heap.size + 1) (by simp) ?_; intro gg cap w1 hown1 hgrow hat hlt; have k5 := grown_cell hgrow c5 HX.out.ob.ne; have e5 := grown_free hgrow c5 f5 HX.out.ob.ne))
        all_goals (go_wp2_with fail; go_meet; exact HX.out.afterOut hown1 (grown_alloc hgrow) (hat.imp id (fun e => by omega)))
      case rest =>
        obtain ⟨vo', hy, hyf, hyn⟩ := hcut
        have HY := Px.hid (And.intro hy (And.intro hyf hyn))
        clear hy hyf hyn c5 f5 hx
        have hb : b < wc.heap.size := HY.out.1.lt
        have c6 : wc.cell? ⟨b, 6, none⟩ = some vs := cellOf HY.out.1.blk 6 rfl
        have f6 := HY.out.1.free 6
        have c8 : wc.cell? ⟨b, 8, none⟩ = some (.int .i64 f.kind) := cellOf HY.out.1.blk 8 rfl
        have c9 : wc.cell? ⟨b, 9, none⟩ = some (.int .i64 f.hat) := cellOf HY.out.1.blk 9 rfl
        have c10 : wc.cell? ⟨b, 10, none⟩ = some (.int .u8 f.info) := cellOf HY.out.1.blk 10 rfl
        have c11 : wc.cell? ⟨b, 11, none⟩ = some (.int .u64 f.num) := cellOf HY.out.1.blk 11 rfl
        have c12 : wc.cell? ⟨b, 12, none⟩ = some (.int .u64 f.more) := cellOf HY.out.1.blk 12 rfl
        obtain ⟨j0, hj0, hy0, hy1, hy2⟩ := info_parts Tryd.infoFm
        have hsl : f.stack.reverse.length = f.stack.length := List.length_reverse
        have HS := Px.hid (show wc.ownsRow 0 106 8 vs f.stack.length (f.stack.reverse.flatMap cFrame) by have := HY.out.1.stack; unfold Owns at this; rw [show ({ f with out := f.out ++ [⟨f.kind, f.num, []⟩] } : Feed).stack.reverse.length = f.stack.length from hsl] at this; exact this)
        clear hsl
        go_upto_region 19 with fail
        go_cut [] (fun wx => AfterPush wc wx b { f with out := f.out ++ [⟨f.kind, f.num, []⟩] } ⟨f.kind, f.hat, f.info, f.num, f.more, f.num, [], false⟩ vt vo' vs)
        case first =>
          go_region_law
            ((refine step_append_lies _ (by rfl) _ _ _ (by rfl) 0 106 j0 _ 8 72 Tryd.underlying43 hj0 hy0 hy1 hy2 rfl (by omega) vs f.stack.length (f.stack.reverse.flatMap cFrame) (by rfl) ((HS.out.alloc _).drew)
                  ⟨wc.heap.size, 0, none⟩ 1 1 (cFrame ⟨f.kind, f.hat, f.info, f.num, f.more, f.num, [], false⟩) (by rfl) (by rfl) (World.news_of_block (cs := #[.int .i64 f.kind, .int .i64 f.hat, .int .u8 f.info, .int .u64 f.num, .int .u64 f.more, .int .u64 f.num, S [], .bool false]) (t := 106) (fr := (0, 0)) (heap_alloc_new wc _)) (by simp [cFrame, Value.oneCell'])
                  (by omega) (by unfold maxLen; omega) (by omega) (by simp) (wc.heap.size + 1) (by simp) ?_; intro gg cap w1 hown1 hgrow hat hlt; have k6 := grown_cell hgrow c6 HY.out.1.sb.ne; have e6 := grown_free hgrow c6 f6 HY.out.1.sb.ne))
          all_goals (go_wp2_with fail; go_meet; exact HY.out.1.afterPush hown1 (grown_alloc hgrow) (hat.imp id (fun e => by omega)))
        case rest =>
          obtain ⟨vs', hz, hzf, hzn⟩ := hcut
          have HZ := Px.hid (And.intro hz (And.intro hzf hzn))
          clear hz hzf hzn c6 f6 c8 c9 c10 c11 c12
          go_wp2_with fail
          refine (settle_any b _ _ _ ⟨_, _, _, HZ.out.1, rfl⟩ (HG.out f.num HN.out)).mono ?_
          rintro e w' ⟨rfl, hF, hfr⟩
          go_wp2
          go_end0
          rw [HR.out]
          exact ⟨rfl, _, hF, HXF.out.step (Fresh.refl _ _) (HY.out.2.1.step HY.out.2.2 (HZ.out.2.1.step HZ.out.2.2 hfr)),
            Fresh.trans (Fresh.refl _ _) HXF.out.size (Fresh.trans HY.out.2.2 HY.out.2.1.size HZ.out.2.2)⟩
  by_cases k5 : f.kind = 5
  · have hk := k5
    clear k5
    have k2' : (f.kind == 2) = false := by rw [hk]; rfl
    have k3' : (f.kind == 3) = false := by rw [hk]; rfl
    have k4' : (f.kind == 4) = false := by rw [hk]; rfl
    have k5' : (f.kind == 5) = true := by rw [hk]; rfl
    have HR := Px.hid (show Cf.known f = Cf.opens f (2 * min f.num 1099511627776) by simp [Cf.known, hk])
    have HN := Px.hid (show 2 * min f.num 1099511627776 < 18446744073709551616 by omega)
    clear hk
    have s6 : w.cell? ⟨b, 6, none⟩ = some vs := cellOf H.out.1.blk 6 rfl
    have s0 : w.cell? ⟨b, 0, none⟩ = some (.int .i64 f.lim.d) := cellOf H.out.1.blk 0 rfl
    obtain ⟨sa, sc, hsv⟩ := H.out.1.stackLen
    rw [hsv] at s6
    have HSV := Px.hid hsv
    clear hsv
    go_enter Tryd.func43, Tryd.ntmps43
    go_wp2_with fail
    go_quiet (fail)
    obtain ⟨N, hN⟩ : ∃ N : Nat, N = 2 * min f.num 1099511627776 := ⟨_, rfl⟩
    have en : (2 * min (f.num : Int) 1099511627776 : Int) = (N : Int) := by omega
    rw [en]
    rw [← hN] at HR HN
    clear en hN
    clear s6 s0
    have HX := Px.hid ((H.out.1.alloc (.cells #[.int .i64 f.kind, .int .u64 f.num, .string ⟨#[]⟩] 72)).drewN nq)
    have HXF := Px.hid (Fr.drewN ((Fr.refl (foot b vt vo vs) w).alloc (.cells #[.int .i64 f.kind, .int .u64 f.num, .string ⟨#[]⟩] 72)) nq)
    have hx : ((w.alloc (.cells #[.int .i64 f.kind, .int .u64 f.num, .string ⟨#[]⟩] 72)).drewN nq).heap[w.heap.size]? = some (.cells #[.int .i64 f.kind, .int .u64 f.num, .string ⟨#[]⟩] 72 (0, 0)) := heap_alloc_new w _
    have hlt : w.heap.size < ((w.alloc (.cells #[.int .i64 f.kind, .int .u64 f.num, .string ⟨#[]⟩] 72)).drewN nq).heap.size := (by simp)
    obtain ⟨WX, hWX⟩ : ∃ WX, WX = (w.alloc (.cells #[.int .i64 f.kind, .int .u64 f.num, .string ⟨#[]⟩] 72)).drewN nq := ⟨_, rfl⟩
    have eW : (w.alloc (.cells #[.int .i64 f.kind, .int .u64 f.num, .string ⟨#[]⟩] 72)).drewN nq = WX := hWX.symm
    rw [eW] at HX HXF hx hlt ⊢
    clear hWX eW c8 c11 hb
    have hb : b < WX.heap.size := HX.out.lt
    have x0 : WX.cell? ⟨w.heap.size, 0, none⟩ = some (.int .i64 f.kind) := cellOf hx 0 rfl
    have x1 : WX.cell? ⟨w.heap.size, 1, none⟩ = some (.int .u64 f.num) := cellOf hx 1 rfl
    have x2 : WX.cell? ⟨w.heap.size, 2, none⟩ = some (.string ⟨#[]⟩) := cellOf hx 2 rfl
    have c9 : WX.cell? ⟨b, 9, none⟩ = some (.int .i64 f.hat) := cellOf HX.out.blk 9 rfl
    rcases Bool.eq_false_or_eq_true ((f.stack.length : Int) == f.lim.d) with hd | hd
    · have HR := Px.hid (show Cf.known f = Cf.wrong f f.hat 10 by rw [HR.out]; simp only [Cf.opens, hd, if_true])
      have HD := Px.hid hd
      go_wp2_with fail
      refine (wrong_any b f.hat 10 f _ _ ⟨_, _, _, HX.out, rfl⟩).mono ?_
      rintro e w' ⟨rfl, hF, hfr⟩
      go_wp2
      refine bodyPost_ret (results_none rfl _ _ _) rfl ?_
      rw [HR.out]
      exact ⟨rfl, _, hF, HXF.out.step (Fresh.refl _ _) hfr, Fresh.refl _ _⟩
    · have HR := Px.hid (show Cf.known f = Cf.settle { f with out := f.out ++ [⟨f.kind, f.num, []⟩], stack := ⟨f.kind, f.hat, f.info, f.num, f.more, N, [], false⟩ :: f.stack } by rw [HR.out]; simp only [Cf.opens, hd]; rfl)
      have c5 : WX.cell? ⟨b, 5, none⟩ = some vo := cellOf HX.out.blk 5 rfl
      have f5 := HX.out.free 5
      obtain ⟨i0, hi0, hz0, hz1, hz2⟩ := info_parts Tryd.infoAtom
      go_upto_region 18 with fail
      go_cut [] (fun wx => AfterOut WX wx b f ⟨f.kind, f.num, []⟩ vt vo vs)
      case first =>
        go_region_law
          ((refine step_append_lies _ (by rfl) _ _ _ (by rfl) 0 72 i0 _ 3 32 Tryd.underlying32 hi0 hz0 hz1 hz2 rfl (by omega) vo f.out.length (f.out.flatMap cAtom) (by rfl) ((HX.out.out.alloc _).drew)
                ⟨WX.heap.size, 0, none⟩ 1 1 (cAtom ⟨f.kind, f.num, []⟩) (by rfl) (by rfl) (World.news_of_block (cs := #[.int .i64 f.kind, .int .u64 f.num, S []]) (t := 72) (fr := (0, 0)) (heap_alloc_new WX _)) (by simp [cAtom, Value.oneCell'])
                (by omega) (by unfold maxLen; omega) (by omega) (by simp) (WX.heap.size + 1) (by simp) ?_; intro gg cap w1 hown1 hgrow hat hlt; have k5 := grown_cell hgrow c5 HX.out.ob.ne; have e5 := grown_free hgrow c5 f5 HX.out.ob.ne))
        all_goals (go_wp2_with fail; go_meet; exact HX.out.afterOut hown1 (grown_alloc hgrow) (hat.imp id (fun e => by omega)))
      case rest =>
        obtain ⟨vo', hy, hyf, hyn⟩ := hcut
        have HY := Px.hid (And.intro hy (And.intro hyf hyn))
        clear hy hyf hyn c5 f5 hx
        have hb : b < wc.heap.size := HY.out.1.lt
        have c6 : wc.cell? ⟨b, 6, none⟩ = some vs := cellOf HY.out.1.blk 6 rfl
        have f6 := HY.out.1.free 6
        have c8 : wc.cell? ⟨b, 8, none⟩ = some (.int .i64 f.kind) := cellOf HY.out.1.blk 8 rfl
        have c9 : wc.cell? ⟨b, 9, none⟩ = some (.int .i64 f.hat) := cellOf HY.out.1.blk 9 rfl
        have c10 : wc.cell? ⟨b, 10, none⟩ = some (.int .u8 f.info) := cellOf HY.out.1.blk 10 rfl
        have c11 : wc.cell? ⟨b, 11, none⟩ = some (.int .u64 f.num) := cellOf HY.out.1.blk 11 rfl
        have c12 : wc.cell? ⟨b, 12, none⟩ = some (.int .u64 f.more) := cellOf HY.out.1.blk 12 rfl
        obtain ⟨j0, hj0, hy0, hy1, hy2⟩ := info_parts Tryd.infoFm
        have hsl : f.stack.reverse.length = f.stack.length := List.length_reverse
        have HS := Px.hid (show wc.ownsRow 0 106 8 vs f.stack.length (f.stack.reverse.flatMap cFrame) by have := HY.out.1.stack; unfold Owns at this; rw [show ({ f with out := f.out ++ [⟨f.kind, f.num, []⟩] } : Feed).stack.reverse.length = f.stack.length from hsl] at this; exact this)
        clear hsl
        go_upto_region 19 with fail
        go_cut [] (fun wx => AfterPush wc wx b { f with out := f.out ++ [⟨f.kind, f.num, []⟩] } ⟨f.kind, f.hat, f.info, f.num, f.more, N, [], false⟩ vt vo' vs)
        case first =>
          go_region_law
            ((refine step_append_lies _ (by rfl) _ _ _ (by rfl) 0 106 j0 _ 8 72 Tryd.underlying43 hj0 hy0 hy1 hy2 rfl (by omega) vs f.stack.length (f.stack.reverse.flatMap cFrame) (by rfl) ((HS.out.alloc _).drew)
                  ⟨wc.heap.size, 0, none⟩ 1 1 (cFrame ⟨f.kind, f.hat, f.info, f.num, f.more, N, [], false⟩) (by rfl) (by rfl) (World.news_of_block (cs := #[.int .i64 f.kind, .int .i64 f.hat, .int .u8 f.info, .int .u64 f.num, .int .u64 f.more, .int .u64 N, S [], .bool false]) (t := 106) (fr := (0, 0)) (heap_alloc_new wc _)) (by simp [cFrame, Value.oneCell'])
                  (by omega) (by unfold maxLen; omega) (by omega) (by simp) (wc.heap.size + 1) (by simp) ?_; intro gg cap w1 hown1 hgrow hat hlt; have k6 := grown_cell hgrow c6 HY.out.1.sb.ne; have e6 := grown_free hgrow c6 f6 HY.out.1.sb.ne))
          all_goals (go_wp2_with fail; go_meet; exact HY.out.1.afterPush hown1 (grown_alloc hgrow) (hat.imp id (fun e => by omega)))
        case rest =>
          obtain ⟨vs', hz, hzf, hzn⟩ := hcut
          have HZ := Px.hid (And.intro hz (And.intro hzf hzn))
          clear hz hzf hzn c6 f6 c8 c9 c10 c11 c12
          go_wp2_with fail
          refine (settle_any b _ _ _ ⟨_, _, _, HZ.out.1, rfl⟩ (HG.out N HN.out)).mono ?_
          rintro e w' ⟨rfl, hF, hfr⟩
          go_wp2
          go_end0
          rw [HR.out]
          exact ⟨rfl, _, hF, HXF.out.step (Fresh.refl _ _) (HY.out.2.1.step HY.out.2.2 (HZ.out.2.1.step HZ.out.2.2 hfr)),
            Fresh.trans (Fresh.refl _ _) HXF.out.size (Fresh.trans HY.out.2.2 HY.out.2.1.size HZ.out.2.2)⟩
  by_cases k6 : f.kind = 6
  · have hk := k6
    clear k6
    have k2' : (f.kind == 2) = false := by rw [hk]; rfl
    have k3' : (f.kind == 3) = false := by rw [hk]; rfl
    have k4' : (f.kind == 4) = false := by rw [hk]; rfl
    have k5' : (f.kind == 5) = false := by rw [hk]; rfl
    have k6' : (f.kind == 6) = true := by rw [hk]; rfl
    have HR := Px.hid (show Cf.known f = Cf.opens f (1) by simp [Cf.known, hk])
    have HN := Px.hid (show 1 < 18446744073709551616 by omega)
    clear hk
    have s6 : w.cell? ⟨b, 6, none⟩ = some vs := cellOf H.out.1.blk 6 rfl
    have s0 : w.cell? ⟨b, 0, none⟩ = some (.int .i64 f.lim.d) := cellOf H.out.1.blk 0 rfl
    obtain ⟨sa, sc, hsv⟩ := H.out.1.stackLen
    rw [hsv] at s6
    have HSV := Px.hid hsv
    clear hsv
    go_enter Tryd.func43, Tryd.ntmps43
    go_wp2_with fail
    go_quiet (fail)
    clear s6 s0
    have HX := Px.hid ((H.out.1.alloc (.cells #[.int .i64 f.kind, .int .u64 f.num, .string ⟨#[]⟩] 72)).drewN nq)
    have HXF := Px.hid (Fr.drewN ((Fr.refl (foot b vt vo vs) w).alloc (.cells #[.int .i64 f.kind, .int .u64 f.num, .string ⟨#[]⟩] 72)) nq)
    have hx : ((w.alloc (.cells #[.int .i64 f.kind, .int .u64 f.num, .string ⟨#[]⟩] 72)).drewN nq).heap[w.heap.size]? = some (.cells #[.int .i64 f.kind, .int .u64 f.num, .string ⟨#[]⟩] 72 (0, 0)) := heap_alloc_new w _
    have hlt : w.heap.size < ((w.alloc (.cells #[.int .i64 f.kind, .int .u64 f.num, .string ⟨#[]⟩] 72)).drewN nq).heap.size := (by simp)
    obtain ⟨WX, hWX⟩ : ∃ WX, WX = (w.alloc (.cells #[.int .i64 f.kind, .int .u64 f.num, .string ⟨#[]⟩] 72)).drewN nq := ⟨_, rfl⟩
    have eW : (w.alloc (.cells #[.int .i64 f.kind, .int .u64 f.num, .string ⟨#[]⟩] 72)).drewN nq = WX := hWX.symm
    rw [eW] at HX HXF hx hlt ⊢
    clear hWX eW c8 c11 hb
    have hb : b < WX.heap.size := HX.out.lt
    have x0 : WX.cell? ⟨w.heap.size, 0, none⟩ = some (.int .i64 f.kind) := cellOf hx 0 rfl
    have x1 : WX.cell? ⟨w.heap.size, 1, none⟩ = some (.int .u64 f.num) := cellOf hx 1 rfl
    have x2 : WX.cell? ⟨w.heap.size, 2, none⟩ = some (.string ⟨#[]⟩) := cellOf hx 2 rfl
    have c9 : WX.cell? ⟨b, 9, none⟩ = some (.int .i64 f.hat) := cellOf HX.out.blk 9 rfl
    rcases Bool.eq_false_or_eq_true ((f.stack.length : Int) == f.lim.d) with hd | hd
    · have HR := Px.hid (show Cf.known f = Cf.wrong f f.hat 10 by rw [HR.out]; simp only [Cf.opens, hd, if_true])
      have HD := Px.hid hd
      go_wp2_with fail
      refine (wrong_any b f.hat 10 f _ _ ⟨_, _, _, HX.out, rfl⟩).mono ?_
      rintro e w' ⟨rfl, hF, hfr⟩
      go_wp2
      refine bodyPost_ret (results_none rfl _ _ _) rfl ?_
      rw [HR.out]
      exact ⟨rfl, _, hF, HXF.out.step (Fresh.refl _ _) hfr, Fresh.refl _ _⟩
    · have HR := Px.hid (show Cf.known f = Cf.settle { f with out := f.out ++ [⟨f.kind, f.num, []⟩], stack := ⟨f.kind, f.hat, f.info, f.num, f.more, 1, [], false⟩ :: f.stack } by rw [HR.out]; simp only [Cf.opens, hd]; rfl)
      have c5 : WX.cell? ⟨b, 5, none⟩ = some vo := cellOf HX.out.blk 5 rfl
      have f5 := HX.out.free 5
      obtain ⟨i0, hi0, hz0, hz1, hz2⟩ := info_parts Tryd.infoAtom
      go_upto_region 18 with fail
      go_cut [] (fun wx => AfterOut WX wx b f ⟨f.kind, f.num, []⟩ vt vo vs)
      case first =>
        go_region_law
          ((refine step_append_lies _ (by rfl) _ _ _ (by rfl) 0 72 i0 _ 3 32 Tryd.underlying32 hi0 hz0 hz1 hz2 rfl (by omega) vo f.out.length (f.out.flatMap cAtom) (by rfl) ((HX.out.out.alloc _).drew)
                ⟨WX.heap.size, 0, none⟩ 1 1 (cAtom ⟨f.kind, f.num, []⟩) (by rfl) (by rfl) (World.news_of_block (cs := #[.int .i64 f.kind, .int .u64 f.num, S []]) (t := 72) (fr := (0, 0)) (heap_alloc_new WX _)) (by simp [cAtom, Value.oneCell'])
                (by omega) (by unfold maxLen; omega) (by omega) (by simp) (WX.heap.size + 1) (by simp) ?_; intro gg cap w1 hown1 hgrow hat hlt; have k5 := grown_cell hgrow c5 HX.out.ob.ne; have e5 := grown_free hgrow c5 f5 HX.out.ob.ne))
        all_goals (go_wp2_with fail; go_meet; exact HX.out.afterOut hown1 (grown_alloc hgrow) (hat.imp id (fun e => by omega)))
      case rest =>
        obtain ⟨vo', hy, hyf, hyn⟩ := hcut
        have HY := Px.hid (And.intro hy (And.intro hyf hyn))
        clear hy hyf hyn c5 f5 hx
        have hb : b < wc.heap.size := HY.out.1.lt
        have c6 : wc.cell? ⟨b, 6, none⟩ = some vs := cellOf HY.out.1.blk 6 rfl
        have f6 := HY.out.1.free 6
        have c8 : wc.cell? ⟨b, 8, none⟩ = some (.int .i64 f.kind) := cellOf HY.out.1.blk 8 rfl
        have c9 : wc.cell? ⟨b, 9, none⟩ = some (.int .i64 f.hat) := cellOf HY.out.1.blk 9 rfl
        have c10 : wc.cell? ⟨b, 10, none⟩ = some (.int .u8 f.info) := cellOf HY.out.1.blk 10 rfl
        have c11 : wc.cell? ⟨b, 11, none⟩ = some (.int .u64 f.num) := cellOf HY.out.1.blk 11 rfl
        have c12 : wc.cell? ⟨b, 12, none⟩ = some (.int .u64 f.more) := cellOf HY.out.1.blk 12 rfl
        obtain ⟨j0, hj0, hy0, hy1, hy2⟩ := info_parts Tryd.infoFm
        have hsl : f.stack.reverse.length = f.stack.length := List.length_reverse
        have HS := Px.hid (show wc.ownsRow 0 106 8 vs f.stack.length (f.stack.reverse.flatMap cFrame) by have := HY.out.1.stack; unfold Owns at this; rw [show ({ f with out := f.out ++ [⟨f.kind, f.num, []⟩] } : Feed).stack.reverse.length = f.stack.length from hsl] at this; exact this)
        clear hsl
        go_upto_region 19 with fail
        go_cut [] (fun wx => AfterPush wc wx b { f with out := f.out ++ [⟨f.kind, f.num, []⟩] } ⟨f.kind, f.hat, f.info, f.num, f.more, 1, [], false⟩ vt vo' vs)
        case first =>
          go_region_law
            ((refine step_append_lies _ (by rfl) _ _ _ (by rfl) 0 106 j0 _ 8 72 Tryd.underlying43 hj0 hy0 hy1 hy2 rfl (by omega) vs f.stack.length (f.stack.reverse.flatMap cFrame) (by rfl) ((HS.out.alloc _).drew)
                  ⟨wc.heap.size, 0, none⟩ 1 1 (cFrame ⟨f.kind, f.hat, f.info, f.num, f.more, 1, [], false⟩) (by rfl) (by rfl) (World.news_of_block (cs := #[.int .i64 f.kind, .int .i64 f.hat, .int .u8 f.info, .int .u64 f.num, .int .u64 f.more, .int .u64 1, S [], .bool false]) (t := 106) (fr := (0, 0)) (heap_alloc_new wc _)) (by simp [cFrame, Value.oneCell'])
                  (by omega) (by unfold maxLen; omega) (by omega) (by simp) (wc.heap.size + 1) (by simp) ?_; intro gg cap w1 hown1 hgrow hat hlt; have k6 := grown_cell hgrow c6 HY.out.1.sb.ne; have e6 := grown_free hgrow c6 f6 HY.out.1.sb.ne))
          all_goals (go_wp2_with fail; go_meet; exact HY.out.1.afterPush hown1 (grown_alloc hgrow) (hat.imp id (fun e => by omega)))
        case rest =>
          obtain ⟨vs', hz, hzf, hzn⟩ := hcut
          have HZ := Px.hid (And.intro hz (And.intro hzf hzn))
          clear hz hzf hzn c6 f6 c8 c9 c10 c11 c12
          go_wp2_with fail
          refine (settle_any b _ _ _ ⟨_, _, _, HZ.out.1, rfl⟩ (HG.out 1 HN.out)).mono ?_
          rintro e w' ⟨rfl, hF, hfr⟩
          go_wp2
          go_end0
          rw [HR.out]
          exact ⟨rfl, _, hF, HXF.out.step (Fresh.refl _ _) (HY.out.2.1.step HY.out.2.2 (HZ.out.2.1.step HZ.out.2.2 hfr)),
            Fresh.trans (Fresh.refl _ _) HXF.out.size (Fresh.trans HY.out.2.2 HY.out.2.1.size HZ.out.2.2)⟩
  have k2' : (f.kind == 2) = false := by simpa using k2
  have k3' : (f.kind == 3) = false := by simpa using k3
  have k4' : (f.kind == 4) = false := by simpa using k4
  have k5' : (f.kind == 5) = false := by simpa using k5
  have k6' : (f.kind == 6) = false := by simpa using k6
  have HR := Px.hid (show Cf.known f = Cf.ended { f with out := f.out ++ [⟨f.kind, f.num, []⟩] } f.hat by simp [Cf.known, k2, k3, k4, k5, k6])
  clear k2 k3 k4 k5 k6
  go_enter Tryd.func43, Tryd.ntmps43
  go_wp2_with fail
  have HX := Px.hid (H.out.1.alloc (.cells #[.int .i64 f.kind, .int .u64 f.num, .string ⟨#[]⟩] 72))
  have HXF := Px.hid ((Fr.refl (foot b vt vo vs) w).alloc (.cells #[.int .i64 f.kind, .int .u64 f.num, .string ⟨#[]⟩] 72))
  have hx : (w.alloc (.cells #[.int .i64 f.kind, .int .u64 f.num, .string ⟨#[]⟩] 72)).heap[w.heap.size]? = some (.cells #[.int .i64 f.kind, .int .u64 f.num, .string ⟨#[]⟩] 72 (0, 0)) := heap_alloc_new w _
  have hlt : w.heap.size < (w.alloc (.cells #[.int .i64 f.kind, .int .u64 f.num, .string ⟨#[]⟩] 72)).heap.size := (by simp)
  obtain ⟨WX, hWX⟩ : ∃ WX, WX = w.alloc (.cells #[.int .i64 f.kind, .int .u64 f.num, .string ⟨#[]⟩] 72) := ⟨_, rfl⟩
  have eW : w.alloc (.cells #[.int .i64 f.kind, .int .u64 f.num, .string ⟨#[]⟩] 72) = WX := hWX.symm
  rw [eW] at HX HXF hx hlt ⊢
  clear hWX eW c8 c11 hb
  have hb : b < WX.heap.size := HX.out.lt
  have x0 : WX.cell? ⟨w.heap.size, 0, none⟩ = some (.int .i64 f.kind) := cellOf hx 0 rfl
  have x1 : WX.cell? ⟨w.heap.size, 1, none⟩ = some (.int .u64 f.num) := cellOf hx 1 rfl
  have x2 : WX.cell? ⟨w.heap.size, 2, none⟩ = some (.string ⟨#[]⟩) := cellOf hx 2 rfl
  have c5 : WX.cell? ⟨b, 5, none⟩ = some vo := cellOf HX.out.blk 5 rfl
  have f5 := HX.out.free 5
  obtain ⟨i0, hi0, hz0, hz1, hz2⟩ := info_parts Tryd.infoAtom
  go_upto_region 3 with fail
  go_cut [] (fun wx => AfterOut WX wx b f ⟨f.kind, f.num, []⟩ vt vo vs)
  case first =>
    go_region_law
      ((refine step_append_lies _ (by rfl) _ _ _ (by rfl) 0 72 i0 _ 3 32 Tryd.underlying32 hi0 hz0 hz1 hz2 rfl (by omega) vo f.out.length (f.out.flatMap cAtom) (by rfl) ((HX.out.out.alloc _).drew)
            ⟨WX.heap.size, 0, none⟩ 1 1 (cAtom ⟨f.kind, f.num, []⟩) (by rfl) (by rfl) (World.news_of_block (cs := #[.int .i64 f.kind, .int .u64 f.num, S []]) (t := 72) (fr := (0, 0)) (heap_alloc_new WX _)) (by simp [cAtom, Value.oneCell'])
            (by omega) (by unfold maxLen; omega) (by omega) (by simp) (WX.heap.size + 1) (by simp) ?_; intro gg cap w1 hown1 hgrow hat hlt; have k5 := grown_cell hgrow c5 HX.out.ob.ne; have e5 := grown_free hgrow c5 f5 HX.out.ob.ne))
    all_goals (go_wp2_with fail; go_meet; exact HX.out.afterOut hown1 (grown_alloc hgrow) (hat.imp id (fun e => by omega)))
  case rest =>
    obtain ⟨vo', hy, hyf, hyn⟩ := hcut
    have HY := Px.hid (And.intro hy (And.intro hyf hyn))
    clear hy hyf hyn c5 f5 hx
    have c9 : wc.cell? ⟨b, 9, none⟩ = some (.int .i64 f.hat) := cellOf HY.out.1.blk 9 rfl
    go_wp2_with fail
    refine (ended_any b f.hat _ _ _ ⟨_, _, _, HY.out.1, rfl⟩ (H.out.2.1.out _) H.out.2.2.1 (fun _ => H.out.2.2.2.1)).mono ?_
    rintro e w' ⟨rfl, hF, hfr⟩
    go_wp2
    refine bodyPost_ret (results_none rfl _ _ _) rfl ?_
    rw [HR.out]
    exact ⟨rfl, _, hF, HXF.out.step (Fresh.refl _ _) (HY.out.2.1.step HY.out.2.2 hfr), Fresh.trans (Fresh.refl _ _) HXF.out.size HY.out.2.2⟩
end Go.Proofs.YtclbbfmpkhfigaaDoor
