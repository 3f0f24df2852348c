/-
  The walks over cborfeed's whole and known.
-/
import Derived.Test.YtclbbfmpkhfigaaDoorCfB
import Derived.Test.YtclbbfmpkhfigaaDoorUtf8
import Derived.Deep.RegionLaw
import Derived.Deep.DeepCutAuto
namespace Go.Proofs.YtclbbfmpkhfigaaDoor
open Go.RowKit Go.Px Go.Px.Cf

theorem Tryd.infoAtom : (Tryd.prog.info? 72).map (fun i => (i.zero, i.size, i.bytes)) = some (some (.agg #[.int .i64 0, .int .u64 0, .string ByteArray.empty]), 3, 32) := by kernel_rfl
theorem Tryd.infoFm : (Tryd.prog.info? 106).map (fun i => (i.zero, i.size, i.bytes)) = some (some (.agg #[.int .i64 0, .int .i64 0, .int .u8 0, .int .u64 0, .int .u64 0, .int .u64 0, .string ByteArray.empty, .bool false]), 8, 72) := by kernel_rfl
theorem Tryd.infoU8 : (Tryd.prog.info? 5).map (fun i => (i.zero, i.size, i.bytes)) = some (some (.int .u8 0), 1, 1) := by kernel_rfl

theorem FeedRep.below {w w' : World} {b : Nat} {f : Feed} {vt vo vs : Value} (h : FeedRep w b f vt vo vs) (hb : Below w.heap.size w w') : FeedRep w' b f vt vo vs :=
  h.fr (F := fun _ => False) (Fr.below hb) (fun _ _ x => x)


set_option maxHeartbeats 1000000 in
theorem whole_any (b : Nat) (f : Feed) (F : Nat → Prop) (w : World) (h : FeedAt w b f F) (hg : FOk f) (hl : ∀ x ∈ f.stack, 0 < x.left) (hp : f.stack ≠ [] → f.hat < f.text.length)
    (hn : f.num ≤ f.text.length) (ho : f.out.length ≤ 1000000) (hT : Tabs w) :
    Calls Tryd.prog 33 #[.pointer (some ⟨b, 0, none⟩)] w fun r w' => r = .returned (.tuple #[]) ∧ ∃ F', FeedAt w' b (Cf.whole f) F' ∧ Fr F w w' ∧ Fresh w F F' := by
  obtain ⟨vt, vo, vs, h, rfl⟩ := h
  have ht := hg.text
  obtain ⟨a, capt, hv, _⟩ := h.text.len
  obtain ⟨sv, hsl, hcv⟩ := h.text.bytesTo (P := Tryd.prog) (p := f.text.length - f.num) (by omega) (t := 42) (dst := 9) (by kernel_rfl) (by kernel_rfl) (by kernel_rfl) Tryd.sizeU8
  have c4 : w.cell? ⟨b, 4, none⟩ = some vt := cellOf h.blk 4 rfl
  have c8' : w.cell? ⟨b, 8, none⟩ = some (.int .i64 f.kind) := cellOf h.blk 8 rfl
  have c9 : w.cell? ⟨b, 9, none⟩ = some (.int .i64 f.hat) := cellOf h.blk 9 rfl
  have c11 : w.cell? ⟨b, 11, none⟩ = some (.int .u64 f.num) := cellOf h.blk 11 rfl
  have en : ((f.text.length - f.num : Nat) : Int) = (f.text.length : Int) - (f.num : Int) := by omega
  rw [en] at hsl
  rw [hv] at c4 hsl
  have H := Px.hid (And.intro h (And.intro (hg.out (f.out ++ [⟨f.kind, 0, f.text.drop (f.text.length - f.num)⟩])) (And.intro hl hp)))
  have HT := Px.hid hT
  clear h hg hl hp hv hT en
  by_cases hk : f.kind = 3
  · have hk' : (f.kind == 3) = true := by simpa using hk
    have hlen : (f.text.drop (f.text.length - f.num)).length ≤ 9223372036854775807 := by simp; omega
    by_cases hvd : Lib.validD (f.text.drop (f.text.length - f.num)) = true
    · have hr : Cf.whole f = Cf.ended { f with out := f.out ++ [⟨f.kind, 0, f.text.drop (f.text.length - f.num)⟩] } f.hat := by simp [Cf.whole, hvd]
      have HR := Px.hid (And.intro hr (And.intro hlen hvd))
      clear hk hr hlen hvd
      go_enter Tryd.func33, Tryd.ntmps33
      go_wp2_with fail
      go_quiet (fail)
      go_wp2_with fail
      refine (valid_any _ _ HR.out.2.1 (HT.out.drewN nq)).mono ?_
      rintro e WX ⟨rfl, hbl⟩
      have HX := Px.hid ((H.out.1.drewN nq).below hbl)
      have HXF := Px.hid (And.intro (Fr.trans (Fr.drewN (Fr.refl (foot b vt vo vs) w) nq) (Fr.below hbl) (fun _ _ x => x)) True.intro)
      have HR := Px.hid (And.intro HR.out.1 HR.out.2.2)
      clear hbl
      rw [HR.out.2]
      have HR := Px.hid HR.out.1
      clear hsl hcv c4 c8' c9 c11
      have f5 := HX.out.free 5
      have hb : b < WX.heap.size := HX.out.lt
      obtain ⟨i0, hi0, hz0, hz1, hz2⟩ := info_parts Tryd.infoAtom
      have c5 : WX.cell? ⟨b, 5, none⟩ = some vo := cellOf HX.out.blk 5 rfl
      have c8 : WX.cell? ⟨b, 8, none⟩ = some (.int .i64 f.kind) := cellOf HX.out.blk 8 rfl
      go_upto_region 4 with fail
      go_cut [] (fun wx => AfterOut WX wx b f ⟨f.kind, 0, f.text.drop (f.text.length - f.num)⟩ vt vo vs)
      case first =>
        go_region_law
          ((refine step_append_lies _ (by rfl) _ _ _ (by rfl) 0 72 i0 _ 3 32 Tryd.underlying32 hi0 hz0 hz1 hz2 rfl (by omega) vo f.out.length (f.out.flatMap cAtom) (by rfl) ((HX.out.out.alloc _).drew)
                ⟨WX.heap.size, 0, none⟩ 1 1 (cAtom ⟨f.kind, 0, f.text.drop (f.text.length - f.num)⟩) (by rfl) (by rfl) (World.news_of_block (cs := #[.int .i64 f.kind, .int .u64 0, S (f.text.drop (f.text.length - f.num))]) (t := 72) (fr := (0, 0)) (heap_alloc_new WX _)) (by simp [cAtom, Value.oneCell'])
                (by omega) (by unfold maxLen; omega) (by omega) (by simp) (WX.heap.size + 1) (by simp) ?_; intro gg cap w1 hown1 hgrow hat hlt; have k5 := grown_cell hgrow c5 HX.out.ob.ne; have e5 := grown_free hgrow c5 f5 HX.out.ob.ne))
        all_goals (go_wp2_with fail; go_meet; exact HX.out.afterOut hown1 (grown_alloc hgrow) (hat.imp id (fun e => by omega)))
      case rest =>
        obtain ⟨vo', hy, hyf, hyn⟩ := hcut
        have c9 : wc.cell? ⟨b, 9, none⟩ = some (.int .i64 f.hat) := cellOf hy.blk 9 rfl
        have HY := Px.hid (And.intro hy (And.intro hyf hyn))
        clear hy hyf hyn c5 c8 f5
        go_wp2_with fail
        refine (ended_any b f.hat _ _ _ ⟨_, _, _, HY.out.1, rfl⟩ H.out.2.1 H.out.2.2.1 H.out.2.2.2).mono ?_
        rintro e w' ⟨rfl, hF, hfr⟩
        go_wp2
        go_end0
        rw [HR.out]
        exact ⟨rfl, _, hF, HXF.out.1.step (Fresh.refl _ _) (HY.out.2.1.step HY.out.2.2 hfr), Fresh.trans (Fresh.refl _ _) HXF.out.1.size HY.out.2.2⟩
    · have hvd : Lib.validD (f.text.drop (f.text.length - f.num)) = false := by simpa using hvd
      have hr : Cf.whole f = Cf.wrong f f.hat 9 := by simp [Cf.whole, hk, hvd]
      have HR := Px.hid (And.intro hr (And.intro hlen hvd))
      clear hk hr hlen hvd
      go_enter Tryd.func33, Tryd.ntmps33
      go_wp2_with fail
      go_quiet (fail)
      go_wp2_with fail
      refine (valid_any _ _ HR.out.2.1 (HT.out.drewN nq)).mono ?_
      rintro e WX ⟨rfl, hbl⟩
      have HX := Px.hid ((H.out.1.drewN nq).below hbl)
      have HXF := Px.hid (Fr.trans (Fr.drewN (Fr.refl (foot b vt vo vs) w) nq) (Fr.below (F := foot b vt vo vs) hbl) (fun _ _ x => x))
      clear hbl
      rw [HR.out.2.2]
      have HR := Px.hid HR.out.1
      clear hsl hcv c4 c8' c9 c11
      have c9 : WX.cell? ⟨b, 9, none⟩ = some (.int .i64 f.hat) := cellOf HX.out.blk 9 rfl
      go_wp2_with fail
      refine (wrong_any b f.hat 9 f _ _ ⟨_, _, _, HX.out, rfl⟩).mono ?_
      rintro e w' ⟨rfl, hF, hfr⟩
      go_wp2
      refine bodyPost_ret (results_none rfl _ _ _) rfl ?_
      rw [HR.out]
      exact ⟨rfl, _, hF, HXF.out.step (Fresh.refl _ _) hfr, Fresh.refl _ _⟩
  · have hk' : (f.kind == 3) = false := by simpa using hk
    have hr : Cf.whole f = Cf.ended { f with out := f.out ++ [⟨f.kind, 0, f.text.drop (f.text.length - f.num)⟩] } f.hat := by simp [Cf.whole, hk]
    have HR := Px.hid hr
    clear hk hr
    go_enter Tryd.func33, Tryd.ntmps33
    go_wp2_with fail
    go_quiet (fail)
    obtain ⟨WX, hWX⟩ : ∃ WX, WX = w.drewN nq := ⟨_, rfl⟩
    have HX := Px.hid (H.out.1.drewN nq)
    have HXF := Px.hid (And.intro (Fr.drewN (Fr.refl (foot b vt vo vs) w) nq) True.intro)
    have c8x : (w.drewN nq).cell? ⟨b, 8, none⟩ = some (.int .i64 f.kind) := cellOf HX.out.blk 8 rfl
    rw [← hWX] at HX HXF c8x ⊢
    clear hWX hsl hcv c4 c8' c9 c11
    have f5 := HX.out.free 5
    have hb : b < WX.heap.size := HX.out.lt
    obtain ⟨i0, hi0, hz0, hz1, hz2⟩ := info_parts Tryd.infoAtom
    have c5 : WX.cell? ⟨b, 5, none⟩ = some vo := cellOf HX.out.blk 5 rfl
    have c8 : WX.cell? ⟨b, 8, none⟩ = some (.int .i64 f.kind) := cellOf HX.out.blk 8 rfl
    go_upto_region 4 with fail
    go_cut [] (fun wx => AfterOut WX wx b f ⟨f.kind, 0, f.text.drop (f.text.length - f.num)⟩ vt vo vs)
    case first =>
      go_region_law
        ((refine step_append_lies _ (by rfl) _ _ _ (by rfl) 0 72 i0 _ 3 32 Tryd.underlying32 hi0 hz0 hz1 hz2 rfl (by omega) vo f.out.length (f.out.flatMap cAtom) (by rfl) ((HX.out.out.alloc _).drew)
              ⟨WX.heap.size, 0, none⟩ 1 1 (cAtom ⟨f.kind, 0, f.text.drop (f.text.length - f.num)⟩) (by rfl) (by rfl) (World.news_of_block (cs := #[.int .i64 f.kind, .int .u64 0, S (f.text.drop (f.text.length - f.num))]) (t := 72) (fr := (0, 0)) (heap_alloc_new WX _)) (by simp [cAtom, Value.oneCell'])
              (by omega) (by unfold maxLen; omega) (by omega) (by simp) (WX.heap.size + 1) (by simp) ?_; intro gg cap w1 hown1 hgrow hat hlt; have k5 := grown_cell hgrow c5 HX.out.ob.ne; have e5 := grown_free hgrow c5 f5 HX.out.ob.ne))
      all_goals (go_wp2_with fail; go_meet; exact HX.out.afterOut hown1 (grown_alloc hgrow) (hat.imp id (fun e => by omega)))
    case rest =>
      obtain ⟨vo', hy, hyf, hyn⟩ := hcut
      have c9 : wc.cell? ⟨b, 9, none⟩ = some (.int .i64 f.hat) := cellOf hy.blk 9 rfl
      have HY := Px.hid (And.intro hy (And.intro hyf hyn))
      clear hy hyf hyn c5 c8 f5
      go_wp2_with fail
      refine (ended_any b f.hat _ _ _ ⟨_, _, _, HY.out.1, rfl⟩ H.out.2.1 H.out.2.2.1 H.out.2.2.2).mono ?_
      rintro e w' ⟨rfl, hF, hfr⟩
      go_wp2
      go_end0
      rw [HR.out]
      exact ⟨rfl, _, hF, HXF.out.1.step (Fresh.refl _ _) (HY.out.2.1.step HY.out.2.2 hfr), Fresh.trans (Fresh.refl _ _) HXF.out.1.size HY.out.2.2⟩
end Go.Proofs.YtclbbfmpkhfigaaDoor
