/-
  The walk over cborfeed's Write.
-/
import Derived.Test.YtclbbfmpkhfigaaDoorCfE
import Derived.Test.YtclbbfmpkhfigaaDoorCfF
namespace Go.Proofs.YtclbbfmpkhfigaaDoor
open Go.RowKit Go.Px Go.Px.Cf

set_option maxRecDepth 100000 in
set_option maxHeartbeats 2000000 in
theorem write_any (b : Nat) (f : Feed) (s : List UInt8) (F : Nat → Prop) (w : World) (h : FeedAt w b f F) (hok : FeedOk f) (hs : s.length ≤ maxLen) (hF2 : ∀ k, F k → 2 ≤ k) (hT : Tabs w) :
    Calls Tryd.prog 17 #[.pointer (some ⟨b, 0, none⟩), S s] w fun r w' => r = .returned (.int .i64 (Cf.write f s).err) ∧ ∃ F', FeedAt w' b (Cf.write f s) F' ∧ Fr F w w' ∧ Fresh w F F' ∧ FeedOk (Cf.write f s) := by
  unfold maxLen at hs
  have hm := may_of hok.1
  have c2 : w.cell? ⟨b, 2, none⟩ = some (.int .i64 f.lim.b) := by obtain ⟨vt, vo, vs, h, rfl⟩ := h; exact cellOf h.blk 2 rfl
  have h0 : (f.lim.b == 0) = false := by simp; omega
  have hw2 : 2 ≤ w.heap.size := by obtain ⟨vt, vo, vs, h, rfl⟩ := h; have := h.lt; have := hF2 b (.inl rfl); omega
  have hsz : (ByteArray.mk s.toArray).size = s.length := size_S s
  have H := Px.hid (And.intro h (And.intro hok hT))
  clear h hok hT hm
  go_enter Tryd.func17, Tryd.ntmps17
  go_wp2
  go_loopw [5] (fun i wr => ∃ k q F', k ≤ s.length ∧ i = .int .i64 (k : Nat) ∧ FeedAt wr b q F' ∧ Fr F w wr ∧ Fresh w F F' ∧ FeedOk q ∧ Cf.write f s = Cf.write q (s.drop k)) (fun i _ => s.length - (intOf i).toNat)
  case atStart => exact ⟨0, f, F, Nat.zero_le _, rfl, H.out.1, Fr.refl _ _, Fresh.refl _ _, H.out.2.1, by simp⟩
  case round =>
    obtain ⟨k, q, F', hk, rfl, hq, hfr, hfs, hok, hwr⟩ := hrel
    have HF2 : ∀ j, F' j → 2 ≤ j := fun j hj => by rcases hfs j hj with x | x; exact hF2 j x; omega
    have HT := Px.hid (H.out.2.2.fr hfr hF2 hw2)
    have HW2 : 2 ≤ wr.heap.size := by have := hfr.size; omega
    have HFR := Px.hid (And.intro hfr hfs)
    have HOK := Px.hid hok
    have HWR := Px.hid hwr
    clear hfr hfs hok hwr H c2 h0
    obtain ⟨vt, vo, vs, h, rfl⟩ := hq
    have HQ := Px.hid h
    have c13 : wr.cell? ⟨b, 13, none⟩ = some (.int .i64 q.err) := cellOf h.blk 13 rfl
    clear h
    by_cases hlt : k < s.length
    · have hltz : (k : Int) < (s.length : Int) := by omega
      by_cases he : q.err = 0
      · have he' : (q.err == 0) = true := by simpa using he
        have hlive := HOK.out.2 he
        have hm := may_of HOK.out.1
        have hbl := hlive.len
        have HWR := Px.hid (HWR.out.trans (Cf.write_drop q s k hlt he))
        have HOKB := Px.hid (byte_ok HOK.out he s[k])
        have HL := Px.hid hlive
        obtain ⟨c, hc⟩ : ∃ c, s[k] = c := ⟨_, rfl⟩
        rw [hc] at HWR HOKB
        have hidx : ∀ w', (Instr.index 9 (S s) (.int .i64 (k : Int))).run Tryd.prog w' = .ok (.int .u8 c.toNat) w' := fun w' => by
          rw [run_index_string w' 9 _ .i64 _ Tryd.underlying9, dif_pos ⟨by omega, by rw [size_S]; omega⟩]
          congr 3
          rw [← hc]
          rfl
        have HE := Px.hid he
        clear he hlive hm hc
        obtain ⟨ta, tc, htv, _⟩ := HQ.out.text.len
        have c4 : wr.cell? ⟨b, 4, none⟩ = some (.slice ta q.text.length tc) := by rw [← htv]; exact cellOf HQ.out.blk 4 rfl
        have c2 : wr.cell? ⟨b, 2, none⟩ = some (.int .i64 q.lim.b) := cellOf HQ.out.blk 2 rfl
        have HTV := Px.hid htv
        clear htv
        rcases Bool.eq_false_or_eq_true ((q.text.length : Int) == q.lim.b) with hd | hd
        · have HB := Px.hid (show Cf.byte q c = Cf.wrong q q.lim.b 10 by unfold Cf.byte; rw [if_pos hd])
          go_wp2_with fail
          go_quiet (fail)
          have HX := Px.hid (HQ.out.drewN nq)
          have HXF := Px.hid (HFR.out.1.drewN nq)
          obtain ⟨WX, hWX⟩ : ∃ WX, WX = wr.drewN nq := ⟨_, rfl⟩
          rw [← hWX] at HX HXF ⊢
          clear hWX c2 c4 c13
          have c2 : WX.cell? ⟨b, 2, none⟩ = some (.int .i64 q.lim.b) := cellOf HX.out.blk 2 rfl
          go_wp2_with fail
          refine (wrong_any b q.lim.b 10 q _ _ ⟨_, _, _, HX.out, rfl⟩).mono ?_
          rintro e w' ⟨rfl, hF, hfr⟩
          have c13 : w'.cell? ⟨b, 13, none⟩ = some (.int .i64 10) := by obtain ⟨_, _, _, hF, _⟩ := hF; exact cellOf hF.blk 13 rfl
          have HE2 := Px.hid (And.intro hF hfr)
          clear hF hfr
          go_wp2
          go_ret
          rw [HB.out] at HWR HOKB
          rw [HWR.out, Cf.write_err _ (by simp [Cf.wrong])]
          exact ⟨rfl, _, HE2.out.1, HXF.out.step HFR.out.2 HE2.out.2, HFR.out.2, HOKB.out⟩
        · have hd' : ¬ (q.text.length : Int) = q.lim.b := by simpa using hd
          go_wp2_with fail
          go_quiet (fail)
          have HX := Px.hid (HQ.out.drewN nq)
          have HXF := Px.hid (HFR.out.1.drewN nq)
          have HT := Px.hid (HT.out.drewN nq)
          obtain ⟨WX, hWX⟩ : ∃ WX, WX = wr.drewN nq := ⟨_, rfl⟩
          rw [← hWX] at HX HXF HT ⊢
          clear hWX c2 c4 c13
          have c4 : WX.cell? ⟨b, 4, none⟩ = some vt := cellOf HX.out.blk 4 rfl
          have f4 := HX.out.free 4
          have hb : b < WX.heap.size := HX.out.lt
          have hlb : q.text.length ≤ 1000000 := by have := may_of HOK.out.1; omega
          obtain ⟨i0, hi0, hz0, hz1, hz2⟩ := info_parts Tryd.infoU8
          go_upto_region 8 with fail
          go_cut [] (fun wx => AfterText WX wx b q c vt vo vs)
          case first =>
            go_region_law
              ((refine step_append_lies _ (by rfl) _ _ _ (by rfl) 0 5 i0 _ 1 1 Tryd.underlying42 hi0 hz0 hz1 hz2 rfl (by omega) vt q.text.length (q.text.flatMap cByte) (by rfl) ((HX.out.text.alloc _).drew)
                    ⟨WX.heap.size, 0, none⟩ 1 1 (cByte c) (by rfl) (by rfl) (World.news_of_block (cs := #[.int .u8 c.toNat]) (t := 5) (fr := (0, 0)) (heap_alloc_new WX _)) (by simp [cByte, Value.oneCell'])
                    (by omega) (by unfold maxLen; omega) (by omega) (by simp) (WX.heap.size + 1) (by simp) ?_; intro gg cap w1 hown1 hgrow hat hlt; have k4 := grown_cell hgrow c4 HX.out.tb.ne; have e4 := grown_free hgrow c4 f4 HX.out.tb.ne))
            all_goals (go_wp2_with fail; go_meet; exact HX.out.afterText hown1 (grown_alloc hgrow) (hat.imp id (fun e => by omega)))
          case rest =>
            obtain ⟨vt', hy, hyf, hyn⟩ := hcut
            have HY := Px.hid hy
            have HF3 : ∀ j, foot b vt' vo vs j → 2 ≤ j := fun j hj => by rcases hyn j hj with x | x; exact HF2 j x; have := HXF.out.size; omega
            have HX1 := Px.hid (And.intro (HXF.out.step HFR.out.2 hyf) (Fresh.trans HFR.out.2 HXF.out.size hyn))
            have HT1 := Px.hid (HT.out.fr hyf HF2 (by have := HXF.out.size; omega))
            have hlive := HL.out
            have hp1 : q.text.length < (q.text ++ [c]).length := by simp
            have hpre := hlive.pre
            have HG : FOk { q with text := q.text ++ [c] } := ⟨fun x hx => ⟨(hlive.each x hx).1, by have := (hlive.each x hx).2.1; show x.at_ < (q.text ++ [c]).length; omega⟩, hpre.tail, by show (q.text ++ [c]).length ≤ 1000000; have := may_of HOK.out.1; simp; omega, hpre.ok.stack⟩
            have ho : q.out.length ≤ 1000000 := by have := hlive.out; omega
            have hsk : q.stack.length ≤ 900 := by have := hlive.deep; have := may_of HOK.out.1; omega
            have HM := Px.hid (And.intro HG (And.intro ho (And.intro hsk (And.intro hlive.pos hlive.next))))
            have c7 : wc.cell? ⟨b, 7, none⟩ = some (.int .i64 q.next) := cellOf hy.blk 7 rfl
            have HBY := Px.hid (show Cf.byte q c = _ from rfl)
            unfold Cf.byte at HBY
            have HBY := Px.hid (HBY.out.trans (if_neg (by simpa using hd')))
            clear hy hyf hyn hlive hpre HG ho hsk hp1 c4 f4 hd'
            by_cases n0 : q.next = 0
            · have n0' : (q.next == 0) = true := by simpa using n0
              have HB := Px.hid (show Cf.byte q c = Cf.head { q with text := q.text ++ [c] } c.toNat from HBY.out.trans (if_pos n0'))
              clear n0 HBY
              go_wp2_with fail
              refine (head_any b { q with text := q.text ++ [c] } c _ _ ⟨_, _, _, HY.out, rfl⟩ HM.out.1 HM.out.2.2.2.1 (by simp) HF3 HM.out.2.1 HM.out.2.2.1 HT1.out).mono ?_
              rintro e w' ⟨rfl, F'', hF, hfr, hnn⟩
              have HE2 := Px.hid (And.intro hF (And.intro hfr hnn))
              clear hF hfr hnn
              go_wp2
              go_roundw
              case rel =>
                refine ⟨k + 1, _, F'', by omega, by go_num, HE2.out.1, HX1.out.1.step HX1.out.2 HE2.out.2.1, Fresh.trans HX1.out.2 HX1.out.1.size HE2.out.2.2, ?_, ?_⟩
                · have := HOKB.out; rw [HB.out] at this; exact this
                · rw [HWR.out, HB.out]
              case measure => simp [intOf]; omega
            · have n0' : (q.next == 0) = false := by simpa using n0
              have HBY := Px.hid (HBY.out.trans (if_neg (by simpa using n0)))
              by_cases n1 : q.next = 1
              · have n1' : (q.next == 1) = true := by simpa using n1
                have HB := Px.hid (show Cf.byte q c = Cf.argument { q with text := q.text ++ [c] } c.toNat from HBY.out.trans (if_pos n1'))
                have HA := Px.hid (show 24 ≤ q.info ∧ q.info ≤ 27 ∧ 1 ≤ q.more ∧ q.more ≤ 2 ^ (q.info - 24) ∧ q.num < 256 ^ (2 ^ (q.info - 24) - q.more) ∧ q.hat < q.text.length by
                  rcases HM.out.2.2.2.2 with hx | ⟨_, hx⟩ | ⟨hx, _⟩ | ⟨hx, _⟩
                  · omega
                  · exact hx
                  · omega
                  · omega)
                clear n0 n1 HBY
                go_wp2_with fail
                obtain ⟨i1, i2, m1, m2, hn, hh⟩ := HA.out
                have w8 := two_pow_le q.info i2
                have hst := Nat.lt_of_lt_of_le (arg_step m1 m2 hn c.toNat_lt) (pow256_le _ (by omega))
                refine (argument_any b { q with text := q.text ++ [c] } c _ _ ⟨_, _, _, HY.out, rfl⟩ HM.out.1 HM.out.2.2.2.1 (by show q.hat < (q.text ++ [c]).length; simp; omega) hst i1 i2 m1 (Nat.le_trans m2 w8) HF3 HM.out.2.1 HM.out.2.2.1 HT1.out).mono ?_
                clear i1 i2 m1 m2 hn hh w8 hst
                rintro e w' ⟨rfl, F'', hF, hfr, hnn⟩
                have HE2 := Px.hid (And.intro hF (And.intro hfr hnn))
                clear hF hfr hnn
                go_wp2
                go_roundw
                case rel =>
                  refine ⟨k + 1, _, F'', by omega, by go_num, HE2.out.1, HX1.out.1.step HX1.out.2 HE2.out.2.1, Fresh.trans HX1.out.2 HX1.out.1.size HE2.out.2.2, ?_, ?_⟩
                  · have := HOKB.out; rw [HB.out] at this; exact this
                  · rw [HWR.out, HB.out]
                case measure => simp [intOf]; omega
              · have n1' : (q.next == 1) = false := by simpa using n1
                have HBY := Px.hid (HBY.out.trans (if_neg (by simpa using n1)))
                by_cases n2 : q.next = 2
                · have n2' : (q.next == 2) = true := by simpa using n2
                  have HBY := Px.hid (HBY.out.trans (if_pos n2'))
                  have HA := Px.hid (show (q.kind = 2 ∨ q.kind = 3) ∧ 1 ≤ q.more ∧ q.num ≤ q.text.length + q.more ∧ q.hat < q.text.length ∧ q.more < 18446744073709551616 by
                    rcases HM.out.2.2.2.2 with hx | ⟨hx, _⟩ | ⟨_, hx⟩ | ⟨hx, _⟩
                    · omega
                    · omega
                    · exact hx
                    · omega)
                  have hm1 := HA.out.2.1
                  have hmz : (0 : Int) ≤ (q.more : Int) - 1 := by omega
                  have en : ((q.more - 1 : Nat) : Int) = (q.more : Int) - 1 := by omega
                  have hmw : IntKind.u64.wrap ((q.more : Int) - 1) = (q.more : Int) - 1 := IntWalk.u64_in _ ⟨by omega, by have := HA.out.2.2.2.2; omega⟩
                  have c12 : wc.cell? ⟨b, 12, none⟩ = some (.int .u64 q.more) := cellOf HY.out.blk 12 rfl
                  have f12 := HY.out.free 12
                  have hz := HY.out.set 12 (.int .u64 (q.more - 1 : Nat)) { q with text := q.text ++ [c], more := q.more - 1 } rfl rfl rfl rfl
                  have hzf := HX1.out.1.step HX1.out.2 ((Fr.refl (foot b vt' vo vs) wc).setCell (p := ⟨b, 12, none⟩) (.inl (.inl rfl)) (.int .u64 (q.more - 1 : Nat)))
                  have hzt := HT1.out.fr ((Fr.refl (foot b vt' vo vs) wc).setCell (p := ⟨b, 12, none⟩) (.inl (.inl rfl)) (.int .u64 (q.more - 1 : Nat))) HF3 (by have := HX1.out.1.size; omega)
                  rw [en] at hz hzf hzt
                  have HZ := Px.hid (And.intro hz (And.intro hzf hzt))
                  clear hz hzf hzt en n0 n1 n2
                  by_cases m0 : q.more = 1
                  · have m0' : ((q.more : Int) - 1 == 0) = true := by simp; omega
                    have HB := Px.hid (show Cf.byte q c = Cf.whole { q with text := q.text ++ [c], more := q.more - 1 } from HBY.out.trans (if_pos (by simp [m0])))
                    have m0z : (q.more : Int) - 1 = 0 := by omega
                    have HMZ := Px.hid (And.intro m0 m0z)
                    clear m0 m0z HBY
                    go_wp2_with fail
                    refine (whole_any b { q with text := q.text ++ [c], more := q.more - 1 } _ _ ⟨_, _, _, HZ.out.1, rfl⟩ ⟨HM.out.1.each, HM.out.1.tail, HM.out.1.text, HM.out.1.stack⟩ HM.out.2.2.2.1 (fun _ => by have := HA.out.2.2.2.1; show q.hat < (q.text ++ [c]).length; simp; omega)
                      (by have := HA.out.2.2.1; have := HMZ.out.1; show q.num ≤ (q.text ++ [c]).length; simp; omega) HM.out.2.1 HZ.out.2.2).mono ?_
                    rintro e w' ⟨rfl, F'', hF, hfr, hnn⟩
                    have HE2 := Px.hid (And.intro hF (And.intro hfr hnn))
                    clear hF hfr hnn
                    go_wp2
                    go_roundw
                    case rel =>
                      refine ⟨k + 1, _, F'', by omega, by go_num, HE2.out.1, HZ.out.2.1.step HX1.out.2 HE2.out.2.1, Fresh.trans HX1.out.2 HZ.out.2.1.size HE2.out.2.2, ?_, ?_⟩
                      · have := HOKB.out; rw [HB.out] at this; exact this
                      · rw [HWR.out, HB.out]
                    case measure => simp [intOf]; omega
                  · have m0' : ((q.more : Int) - 1 == 0) = false := by simp; omega
                    have HB := Px.hid (show Cf.byte q c = { q with text := q.text ++ [c], more := q.more - 1 } from HBY.out.trans (if_neg (by simp; omega)))
                    clear m0 HBY
                    go_wp2
                    go_roundw
                    case rel =>
                      refine ⟨k + 1, _, _, by omega, by go_num, ⟨_, _, _, HZ.out.1, rfl⟩, HZ.out.2.1, HX1.out.2, ?_, ?_⟩
                      · have := HOKB.out; rw [HB.out] at this; exact this
                      · rw [HWR.out, HB.out]
                    case measure => simp [intOf]; omega
                · have n2' : (q.next == 2) = false := by simpa using n2
                  have HB := Px.hid (show Cf.byte q c = Cf.wrong { q with text := q.text ++ [c] } q.text.length 9 from (HBY.out.trans (if_neg (by simpa using n2))).trans (by simp))
                  have hty := HY.out.text.len
                  obtain ⟨ta2, tc2, htv2, _⟩ := hty
                  have htv2 : vt' = .slice ta2 (q.text.length + 1) tc2 := by rw [htv2]; simp
                  have c4 : wc.cell? ⟨b, 4, none⟩ = some (.slice ta2 (q.text.length + 1) tc2) := by rw [← htv2]; exact cellOf HY.out.blk 4 rfl
                  clear htv2
                  clear n0 n1 n2 HBY
                  go_wp2_with fail
                  refine (wrong_any b (q.text.length : Nat) 9 { q with text := q.text ++ [c] } _ _ ⟨_, _, _, HY.out, rfl⟩).mono ?_
                  rintro e w' ⟨rfl, hF, hfr⟩
                  have HE2 := Px.hid (And.intro hF hfr)
                  clear hF hfr
                  go_wp2
                  go_roundw
                  case rel =>
                    refine ⟨k + 1, _, _, by omega, by go_num, HE2.out.1, HX1.out.1.step HX1.out.2 HE2.out.2, HX1.out.2, ?_, ?_⟩
                    · have := HOKB.out; rw [HB.out] at this; exact this
                    · rw [HWR.out, HB.out]
                  case measure => simp [intOf]; omega
      · have he' : (q.err == 0) = false := by simpa using he
        have HWE := Px.hid (HWR.out.trans (Cf.write_err _ he))
        clear he
        go_wp2
        go_ret
        rw [HWE.out]
        exact ⟨rfl, _, ⟨_, _, _, HQ.out, rfl⟩, HFR.out.1, HFR.out.2, HOK.out⟩
    · have hlt' : ¬ (k : Int) < (s.length : Int) := by omega
      have HWE := Px.hid (HWR.out.trans (by rw [List.drop_eq_nil_of_le (by omega)]; rfl : Cf.write q (s.drop k) = q))
      go_wp2
      go_ret
      rw [HWE.out]
      exact ⟨rfl, _, ⟨_, _, _, HQ.out, rfl⟩, HFR.out.1, HFR.out.2, HOK.out⟩
end Go.Proofs.YtclbbfmpkhfigaaDoor
