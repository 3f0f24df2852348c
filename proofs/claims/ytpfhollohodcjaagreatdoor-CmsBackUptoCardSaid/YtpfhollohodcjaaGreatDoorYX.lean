/-
  Several texts in one: What the statements of layer 23 share: an envelope, a copy of one, the chapter's examples (printed by gen_pg.py). The walk over the statement CmsOneWay (layer 23). Printed by gen_ph.py. The walk over the statement CmsBack (layer 23), for its second form. Printed by gen_ph.py. An envelope among a statement's arguments, as plain data; what the second form's bound gives; its witness. Printed by gen_upto.py.
-/
import Derived.Test.YtpfhollohodcjaaGreatDoorYU
import Derived.Test.YtpfhollohodcjaaGreatDoorYV
import Derived.Test.YtpfhollohodcjaaGreatDoorYW
import Derived.Test.YtpfhollohodcjaaGreatDoorYP
import Derived.Test.YtpfhollohodcjaaGreatDoorYT
import Derived.Deep.DeepHandedRow
import Derived.Deep.Slices
import Derived.Deep.Fields
import Derived.ChangeSame
/-! What the statements of layer 23 share: an envelope, a copy of one, the chapter's examples (printed by gen_pg.py). -/
namespace Go.Px.Cm
open E5 Co
theorem some_read : read (tellP someE).1 mostL = (someE, 0) := by
  rcases back (x := someE) with ⟨_, h⟩ | h
  · exact h
  · have := some_tells
    rw [h] at this
    cases this
end Go.Px.Cm
namespace Go.Proofs.YtpfhollohodcjaaGreatDoor
open Go.RowKit Go.Px Go.Px.Co Go.Px.Cm
theorem owns_rec1 {w : World} {g : Nat} {r : Rec} (h : Blk w g (cRec r).toArray 78) : Owns w 78 9 cRec (.slice (some ⟨g, 0, none⟩) 1 1) [r] :=
  ⟨by simp [cRec], .inr ⟨g, 1, _, rfl, Nat.zero_le _, h, Nat.le_refl _, by decide, by simp [cRec], by simp [cRec]⟩⟩
theorem rec_one (l : List Rec) : ∀ u ∈ l.flatMap cRec, u.oneCell' = true := by
  intro u hu
  obtain ⟨r, _, hr⟩ := List.mem_flatMap.1 hu
  simp only [cRec, List.mem_cons, List.not_mem_nil, or_false] at hr
  rcases hr with rfl | rfl | rfl | rfl | rfl | rfl | rfl | rfl | rfl <;> rfl
set_option maxRecDepth 100000 in
set_option maxHeartbeats 4000000 in
theorem some_bounds : EnvS someE := ⟨fun r hr => by rw [List.mem_singleton.1 hr]; exact ⟨by decide, by decide, by decide, by decide, by decide⟩, by decide, by decide, by decide, by decide⟩
theorem some_len : (tellP someE).1.length ≤ 140737488355327 := by
  rcases back (x := someE) with ⟨_, h⟩ | h
  · have := (one_way h).2.2
    obtain ⟨hs, _, he⟩ := this
    exact Nat.le_trans (enc_short he) (by decide)
  · rw [h]
    decide
set_option maxRecDepth 100000 in
set_option maxHeartbeats 4000000 in
theorem some_any (w : World) : Calls Tryz.prog 17 #[] w fun e w' => ∃ g, e = .returned (.agg (envC someE (.slice (some ⟨g, 0, none⟩) 1 1))) ∧ Owns w' 78 9 cRec (.slice (some ⟨g, 0, none⟩) 1 1) someE.to ∧ Same w w' ∧ w.heap.size ≤ g := by
  go_enter Tryz.func17, Tryz.ntmps17
  go_wp2
  refine bodyPost_ret (v := .agg #[.int .i64 1, .int .i64 1, .slice (some ⟨w.heap.size + 1, 0, none⟩) 1 1, S [], S [], S [], S [49, 50, 51, 52, 53, 54, 55, 56, 57, 48, 49, 50], S [97, 98, 99], S [49, 50, 51, 52, 53, 54, 55, 56, 57, 48, 49, 50]]) (by simp [results, Tryz.results17, go_sem, *]) rfl ?_
  refine ⟨w.heap.size + 1, rfl, owns_rec1 ?_, ?_, Nat.le_succ _⟩
  · exact blk_new1 w _ _ _
  · repeat' first
      | refine Fr.setCell ?_ (.inr (by dsimp only; omega)) _
      | refine Fr.alloc ?_ _
      | exact Fr.refl _ _
set_option maxRecDepth 100000 in
set_option maxHeartbeats 4000000 in
theorem copied_any (x : Env) (vto : Value) (w : World) (h : Lies w 9 cRec vto x.to) (hl : x.to.length * 112 ≤ 140737488351232) :
    Calls Tryz.prog 14 #[.agg (envC x vto)] w fun e w' => ∃ a c, e = .returned (.agg (envC x (.slice a x.to.length c))) ∧ Owns w' 78 9 cRec (.slice a x.to.length c) x.to ∧ Same w w' := by
  have hsrc : ∀ W, Same w W → Src Tryz.prog 9 25 vto x.to.length (x.to.flatMap cRec) W := fun W hW => Lies.src (Lies.same h hW) cRec_len (by omega) Tryz.underlying25 (rec_one x.to)
  have H := Px.hid hsrc
  obtain ⟨ta, tc, rfl, _, _⟩ := h.slice
  clear h hsrc
  obtain ⟨i0, hi0, hz0, hz1, hz2⟩ := info_parts Tryz.infoRec
  have hb2 : ∀ a b : Obj, (((w.alloc a).alloc b).alloc (.cells #[] 78 (0, 0))).heap[w.heap.size + 1 + 1]? = some (.cells #[] 78 (0, 0)) := fun a b => by
    have z := heap_alloc_new ((w.alloc a).alloc b) (.cells #[] 78 (0, 0))
    rw [show ((w.alloc a).alloc b).heap.size = w.heap.size + 1 + 1 by simp] at z
    exact z
  unfold envC
  go_enter Tryz.func14, Tryz.ntmps14
  go_wp2_with (at_builtin; go_must (refine wpList_append_src0 rfl _ _ 25 25 rfl 78 i0 _ 9 112 Tryz.underlying25 hi0 hz0 hz1 hz2 rfl (w.heap.size + 1 + 1) rfl (hb2 _ _) (.slice ta x.to.length tc) x.to.length (x.to.flatMap cRec) rfl (H.out _ (Fr.alloc (Fr.alloc (Fr.alloc (Fr.refl _ w) _) _) _)) (by unfold maxLen; omega) (by omega) ?_))
  intro g cap w' hown hgrow hat
  have b0 : Blk w' w.heap.size #[.int .i64 x.fmt, .int .i64 x.alg, .slice ta x.to.length tc, S x.header, S x.loose, S x.aad, S x.iv, S x.cipher, S x.tag] 27 := (hgrow.block w.heap.size (by simp; omega) (by simp)).trans (Blk.alloc (Blk.alloc (blk_new w _ _) _) _)
  have b1 : Blk w' (w.heap.size + 1) #[.int .i64 0, .int .i64 0, .slice none 0 0, S [], S [], S [], S [], S [], S []] 27 := (hgrow.block (w.heap.size + 1) (by simp) (by simp)).trans (Blk.alloc (blk_new1 w _ _ _) _)
  have hg0 : (Value.slice (some ⟨g, 0, none⟩) x.to.length cap).ownBlock ≠ some w.heap.size := by simp only [Value.ownBlock, ne_eq, Option.some.injEq]; rcases hat with e | e <;> (try simp at e) <;> omega
  have hg1 : (Value.slice (some ⟨g, 0, none⟩) x.to.length cap).ownBlock ≠ some (w.heap.size + 1) := by simp only [Value.ownBlock, ne_eq, Option.some.injEq]; rcases hat with e | e <;> (try simp at e) <;> omega
  have HO := Px.hid (show Owns w' 78 9 cRec (.slice (some ⟨g, 0, none⟩) x.to.length cap) x.to from hown)
  have HS := Px.hid (show Same w w' from Fr.grown (Fr.alloc (Fr.alloc (Fr.alloc (Fr.refl _ w) _) _) _) hgrow (fun k e => by cases e))
  have HG := Px.hid (And.intro hg0 hg1)
  obtain ⟨c0, c1, c2, c3, c4, c5, c6, c7, c8, d0, d1, d2, d3, d4, d5, d6, d7, d8⟩ := blk9 b0
  obtain ⟨e0, e1, e2, e3, e4, e5, e6, e7, e8, f0, f1, f2, f3, f4, f5, f6, f7, f8⟩ := blk9 b1
  have hl0 := b0.lt
  have hl1 := b1.lt
  clear b0 b1 hown hgrow hat hg0 hg1 hb2
  go_wp2
  refine bodyPost_ret (v := .agg #[.int .i64 x.fmt, .int .i64 x.alg, .slice (some ⟨g, 0, none⟩) x.to.length cap, S x.header, S x.loose, S x.aad, S x.iv, S x.cipher, S x.tag]) (by simp [results, Tryz.results14, go_sem, *]) rfl ⟨_, _, rfl, ?_, ?_⟩
  · obtain ⟨hg0, hg1⟩ := HG.out
    exact (((((((((HO.out.setCell (p := ⟨w.heap.size, 2, none⟩) hg0 _).setCell (p := ⟨w.heap.size + 1, 0, none⟩) hg1 _).setCell (p := ⟨w.heap.size + 1, 1, none⟩) hg1 _).setCell (p := ⟨w.heap.size + 1, 2, none⟩) hg1 _).setCell (p := ⟨w.heap.size + 1, 3, none⟩) hg1 _).setCell (p := ⟨w.heap.size + 1, 4, none⟩) hg1 _).setCell (p := ⟨w.heap.size + 1, 5, none⟩) hg1 _).setCell (p := ⟨w.heap.size + 1, 6, none⟩) hg1 _).setCell (p := ⟨w.heap.size + 1, 7, none⟩) hg1 _).setCell (p := ⟨w.heap.size + 1, 8, none⟩) hg1 _
  · repeat' first
      | refine Fr.setCell ?_ (.inr (by dsimp only; omega)) _
      | exact HS.out
set_option maxRecDepth 100000 in
set_option maxHeartbeats 8000000 in
theorem wakes_any (w : World) (hT : Tabs w) (hE : ErrT w) : Calls Tryz.prog 9 #[] w fun e w' => e = .returned (.bool true) ∧ Same w w' := by
  have HT := Px.hid (And.intro hT hE)
  clear hT hE
  go_enter Tryz.func9, Tryz.ntmps9
  go_wp2_with fail
  refine (some_any _).mono ?_
  rintro e w1 ⟨g, rfl, ho, hs, _⟩
  have HS := Px.hid hs
  have HC := Px.hid (tell_any someE (.slice (some ⟨g, 0, none⟩) 1 1) w1 (ho.lies cRec_len) (by decide) some_bounds (HT.out.1.same hs) (HT.out.2.fr hs (fun y => y)))
  clear ho hs
  unfold envC at HC ⊢
  go_wp2_with fail
  refine HC.out.mono ?_
  rintro e w2 ⟨rfl, hs⟩
  replace HS := Px.hid (HS.out.trans hs)
  rw [some_tells]
  obtain ⟨tb, htb⟩ : ∃ tb, tb = (tellP someE).1 := ⟨_, rfl⟩
  have hrd := some_read
  rw [← htb] at hrd ⊢
  have htl : tb.length ≤ 140737488355327 := by rw [htb]; exact some_len
  have HRD := Px.hid (And.intro hrd htl)
  clear hs HC htb hrd htl
  go_wp2_with fail
  refine (most_any _).mono ?_
  rintro e w3 ⟨rfl, hs⟩
  replace HS := Px.hid (HS.out.trans hs)
  clear hs
  go_wp2_with fail
  refine (cmsread_any tb mostL _ HRD.out.2 (HT.out.1.same HS.out) (HT.out.2.fr HS.out (fun y => y))).mono ?_
  rintro e w4 ⟨vy, rfl, hyo, hs, hyn, ya, yc, rfl⟩
  obtain ⟨d, hd⟩ : ∃ d, d = Cm.read tb mostL := ⟨_, rfl⟩
  rw [← hd] at hyo ⊢
  have hd2 := hd.trans HRD.out.1
  obtain ⟨y, ye⟩ := d
  have hy : y = someE := congrArg Prod.fst hd2
  have hye : ye = 0 := congrArg Prod.snd hd2
  subst hye
  simp only at hyo ⊢
  replace HS := Px.hid (HS.out.trans hs)
  have HYO := Px.hid hyo
  have HY := Px.hid hy
  have HYL := Px.hid (show y.to.length ≤ 140737488351232 by rw [hy]; decide)
  clear hs hyo hyn hd hd2 hy
  unfold envC
  go_wp2_with fail
  refine (most_any _).mono ?_
  rintro e w5 ⟨rfl, hs⟩
  have HX := Px.hid (show Blk w5 w4.heap.size #[.int .i64 y.fmt, .int .i64 y.alg, .slice ya y.to.length yc, S y.header, S y.loose, S y.aad, S y.iv, S y.cipher, S y.tag] 27 from Blk.fr (blk_new w4 _ _) hs (fun x => x))
  replace HS := Px.hid (HS.out.trans (Same.trans (Fr.alloc (Fr.refl _ w4) _) hs))
  replace HYO := Px.hid (Owns.same HYO.out (Same.trans (Fr.alloc (Fr.refl _ w4) _) hs))
  clear hs
  go_wp2_with fail
  refine (cmsread_any [0x30, 0] mostL _ (by decide) (HT.out.1.same HS.out) (HT.out.2.fr HS.out (fun y => y))).mono ?_
  rintro e w6 ⟨vz, rfl, _, hs, _, za', zc, rfl⟩
  obtain ⟨d, hd⟩ : ∃ d, d = Cm.read [0x30, 0] mostL := ⟨_, rfl⟩
  have hk := congrArg Prod.snd bad_kind
  rw [← hd] at hk ⊢
  clear hd
  obtain ⟨z, ze⟩ := d
  simp only at hk ⊢
  subst hk
  replace HX := Px.hid (HX.out.fr hs (fun x => x))
  replace HS := Px.hid (HS.out.trans hs)
  replace HYO := Px.hid (Owns.same HYO.out hs)
  clear hs
  unfold envC
  go_upto_region 4 with fail
  obtain ⟨w7, hw7⟩ : ∃ w7 : World, w7 = w6.alloc (.cells #[.int .i64 z.fmt, .int .i64 z.alg, .slice za' z.to.length zc, S z.header, S z.loose, S z.aad, S z.iv, S z.cipher, S z.tag] 27) := ⟨_, rfl⟩
  have HA := Px.hid (show Same w6 w7 by rw [hw7]; exact Fr.alloc (Fr.refl _ w6) _)
  rw [← hw7]
  clear hw7
  replace HX := Px.hid (HX.out.fr HA.out (fun x => x))
  replace HS := Px.hid (HS.out.trans HA.out)
  replace HYO := Px.hid (Owns.same HYO.out HA.out)
  obtain ⟨c0, c1, c2, c3, c4, c5, c6, c7, c8, _⟩ := blk9 HX.out
  have hwl := HX.out.lt
  clear HA HRD HT
  go_region_with (first
    | (go_at_call 17; refine (some_any _).mono ?_; rintro e wa ⟨g5, rfl, ho5, hs5, _⟩; have HSA := Px.hid (show Same w7 wa from Same.trans (by first | exact Fr.drew (Fr.refl _ w7) | exact Fr.drewN (Fr.refl _ w7) _ | exact Fr.refl _ w7) hs5); have HOA := Px.hid ho5; clear hs5 ho5; obtain ⟨c0, c1, c2, c3, c4, c5, c6, c7, c8, _⟩ := blk9 (HX.out.fr HSA.out (fun x => x)); unfold envC)
    | (go_at_call 12; refine (rsame_any y someE (.slice ya y.to.length yc) (.slice (some ⟨g5, 0, none⟩) 1 1) _ (Lies.same (HYO.out.lies cRec_len) (by first | exact HSA.out | exact Fr.drew HSA.out | exact Fr.drewN HSA.out _)) (by first | exact HOA.out.lies cRec_len | exact (HOA.out.drew).lies cRec_len | exact (HOA.out.drewN _).lies cRec_len) HYL.out).mono ?_; rintro e wb ⟨rfl, hs6⟩; have HSB := Px.hid (show Same w7 wb from Same.trans (by first | exact HSA.out | exact Fr.drew HSA.out | exact Fr.drewN HSA.out _) hs6); clear hs6; rw [show decide (y = someE) = true from decide_eq_true HY.out]))
  all_goals
    go_wp2
    go_ret
    exact ⟨rfl, HS.out.trans (by first | exact HSB.out | exact Fr.drewN HSB.out _)⟩
end Go.Proofs.YtpfhollohodcjaaGreatDoor

/-! The walk over the statement CmsOneWay (layer 23). Printed by gen_ph.py. -/
namespace Go.Px.Cm
open E5 Co
theorem read_ways (s : Bytes) (lim : Lim) : (∃ e, read s lim = (zero, e)) ∨ ∃ x, read s lim = (x, 0) := by
  unfold read
  split
  · exact .inl ⟨_, rfl⟩
  · unfold readL
    split
    · exact .inl ⟨_, rfl⟩
    · exact .inr ⟨_, rfl⟩
theorem read_err (s : Bytes) (lim : Lim) (h : (read s lim).2 ≠ 0) : read s lim = (zero, (read s lim).2) := by
  rcases read_ways s lim with ⟨e, h1⟩ | ⟨x, h1⟩
  · rw [h1]
  · rw [h1] at h
    exact absurd rfl h
theorem read_to (s : Bytes) (lim : Lim) : (read s lim).1.to.length ≤ 8 := by
  rcases read_ways s lim with ⟨e, h1⟩ | ⟨x, h1⟩
  · rw [h1]
    exact Nat.zero_le _
  · rw [h1]
    exact (one_way h1).2.1.to.2.1
theorem env_small {s : Bytes} {lim : Lim} {x : Env} (h : read s lim = (x, 0)) : EnvS x := by
  obtain ⟨_, hx, hs, hh, _⟩ := one_way h
  have hl := not_long hx hh
  unfold longX at hl
  simp only [Bool.or_eq_false_iff, decide_eq_false_iff_not] at hl
  refine ⟨fun r hr => ?_, by omega, by omega, by omega, by omega⟩
  cases hx.to.2.2 r hr with
  | wrap nm k i hi h1 h2 => exact ⟨⟨by simp, by simp⟩, by simp only; omega, by simp only; omega, by simp, by simp⟩
  | pass salt k iv n i j hi hj h1 h2 h3 hn => exact ⟨⟨by simp only; omega, by simp only; omega⟩, by simp, by simp only; omega, by simp only; omega, by simp only; omega⟩
end Go.Px.Cm
namespace Go.Proofs.YtpfhollohodcjaaGreatDoor
open Go.RowKit Go.Px Go.Px.Co Go.Px.Cm
structure OnE (w w' : World) (b : Nat) (lim : Lim) : Prop where
  on : On w w' b lim
  err : ErrT w'
theorem OnE.sm {w w1 w2 : World} {b : Nat} {lim : Lim} (h : OnE w w1 b lim) (hs : Same w1 w2) : OnE w w2 b lim := ⟨h.on.sm hs, h.err.fr hs (fun y => y)⟩
theorem OnE.boxed {w : World} (lim : Lim) (h : Tabs w) (hE : ErrT w) : OnE w (w.alloc (.cells #[.int .i64 lim.d, .int .i64 lim.i, .int .i64 lim.b, .int .i64 lim.r] 23 (0, 0))) w.heap.size lim := ⟨On.boxed lim h, hE.fr ((Same.refl w).alloc _) (fun y => y)⟩
set_option maxRecDepth 100000 in
set_option maxHeartbeats 8000000 in
theorem law_CmsOneWay (s : Bytes) (lim : Lim) (w : World) (hs0 : s.length ≤ 140737488351232) (hT : Tabs w) (hE : ErrT w) :
    Calls Tryz.prog 6 #[S s, limV lim] w fun e w' => e = .returned (.bool true) ∧ Below w.heap.size w w' := by
  have HL := Px.hid (show s.length ≤ 140737488355327 by omega)
  have HO := Px.hid (OnE.boxed lim hT hE)
  clear hs0 hT hE
  unfold limV
  go_enter Tryz.func6, Tryz.ntmps6
  go_wp2_with fail
  refine (wakes_any _ HO.out.on.tabs HO.out.err).mono ?_
  rintro e w1 ⟨rfl, hs⟩
  replace HO := Px.hid (HO.out.sm hs)
  clear hs
  obtain ⟨c0, c1, c2, c3⟩ := HO.out.on.lim.cells
  have HR := Px.hid (cmsread_any s lim w1 HL.out HO.out.on.tabs HO.out.err)
  unfold limV at HR
  go_wp2_with fail
  refine HR.out.mono ?_
  rintro e w2 ⟨vy, rfl, hyo, hs, _, ya, yc, rfl⟩
  have HE := Px.hid (fun h : (Cm.read s lim).2 ≠ 0 => read_err s lim h)
  have HW := Px.hid (fun (x : Env) (h : Cm.read s lim = (x, 0)) => And.intro (one_way h).1 (env_small h))
  have hto := read_to s lim
  obtain ⟨d, hd⟩ : ∃ d, d = Cm.read s lim := ⟨_, rfl⟩
  rw [← hd] at hyo HE HW hto ⊢
  clear hd
  obtain ⟨y, ye⟩ := d
  simp only at hyo HE HW hto ⊢
  have HY := Px.hid hyo
  have HTO := Px.hid hto
  have HS2 := Px.hid hs
  replace HO := Px.hid (HO.out.sm hs)
  clear hs hyo c0 c1 c2 c3 HR hto
  unfold envC
  have HX := Px.hid (show Blk (w2.alloc (.cells #[.int .i64 y.fmt, .int .i64 y.alg, .slice ya y.to.length yc, S y.header, S y.loose, S y.aad, S y.iv, S y.cipher, S y.tag] 27)) w2.heap.size #[.int .i64 y.fmt, .int .i64 y.alg, .slice ya y.to.length yc, S y.header, S y.loose, S y.aad, S y.iv, S y.cipher, S y.tag] 27 from blk_new w2 _ _)
  by_cases he : ye = 0
  · subst he
    obtain ⟨hone, h1⟩ := HW.out y rfl
    have HC := Px.hid (show ∀ W, Same w2 W → Calls Tryz.prog 13 #[.agg (envC y (.slice ya y.to.length yc))] W fun e w' => e = .returned (.tuple #[S (tellP y).1, .int .i64 (tellP y).2]) ∧ Same W w' from fun W hW => tell_any y _ W (Lies.same (HY.out.lies cRec_len) hW) (by have := HTO.out; omega) h1 (HO.out.on.tabs.same hW) (HO.out.err.fr hW (fun y => y)))
    rw [hone] at HC
    clear hone h1 HW HE
    unfold envC at HC
    go_wp2_with fail
    refine (HC.out _ (Fr.alloc (Fr.refl _ w2) _)).mono ?_
    rintro e w3 ⟨rfl, hs⟩
    replace HO := Px.hid (HO.out.sm (Same.trans (Fr.alloc (Fr.refl _ w2) _) hs))
    clear hs
    go_wp2
    go_ret
    exact ⟨rfl, HO.out.on.lim.1.toBelow _ (fun _ h => h.elim) (Nat.le_refl _)⟩
  · have hz : y = zero := congrArg Prod.fst (HE.out he)
    have HSM := Px.hid (show ∀ W, Same w2 W → Calls Tryz.prog 12 #[.agg (envC y (.slice ya y.to.length yc)), .agg (envC zero (.slice none 0 0))] W fun e w' => e = .returned (.bool (decide (y = zero))) ∧ Same W w' from fun W hW => rsame_any y zero _ _ W (Lies.same (HY.out.lies cRec_len) hW) ((owns_nil _ 78 _ _).lies cRec_len) (by have := HTO.out; omega))
    rw [show decide (y = zero) = true from decide_eq_true hz] at HSM
    have hez : (ye != 0) = true := by simpa using he
    have hez2 : ¬ ye = 0 := he
    clear he HW HE hz
    unfold envC at HSM
    unfold zero at HSM
    go_wp2_with fail
    refine (HSM.out _ (Fr.alloc (Fr.refl _ w2) _)).mono ?_
    rintro e w3 ⟨rfl, hs⟩
    replace HO := Px.hid (HO.out.sm (Same.trans (Fr.alloc (Fr.refl _ w2) _) hs))
    clear hs
    go_wp2
    go_ret
    exact ⟨rfl, HO.out.on.lim.1.toBelow _ (fun _ h => h.elim) (Nat.le_refl _)⟩
end Go.Proofs.YtpfhollohodcjaaGreatDoor

/-! The walk over the statement CmsBack (layer 23), for its second form. Printed by gen_ph.py. -/
namespace Go.Px.Cm
open E5 Co
theorem tell_back {x : Env} {s : Bytes} (h : tellP x = (s, 0)) : read s mostL = (x, 0) := by
  rcases back (x := x) with ⟨_, h1⟩ | h1
  · rw [h] at h1
    exact h1
  · rw [h] at h1
    cases h1
theorem tell_nil {x : Env} (h : (tellP x).2 ≠ 0) : (tellP x).1 = [] := by
  rcases back (x := x) with ⟨h1, _⟩ | h1
  · exact absurd h1 h
  · rw [h1]
end Go.Px.Cm
namespace Go.Proofs.YtpfhollohodcjaaGreatDoor
open Go.RowKit Go.Px Go.Px.Co Go.Px.Cm
theorem told_len {x : Env} {s : Bytes} {lim : Lim} (h : read s lim = (x, 0)) : s.length ≤ 140737488355327 := by
  obtain ⟨_, _, hs, _, he⟩ := one_way h
  exact Nat.le_trans (enc_short he) (by decide)
set_option maxRecDepth 100000 in
set_option maxHeartbeats 3000000 in
theorem law_CmsBack (x : Env) (vto : Value) (w : World) (hto : Lies w 9 cRec vto x.to) (hl : x.to.length ≤ 2000000) (hx : EnvS x) (hT : Tabs w) (hE : ErrT w) :
    Calls Tryz.prog 5 #[.agg (envC x vto)] w fun e w' => e = .returned (.bool true) ∧ Below w.heap.size w w' := by
  have HT := Px.hid (And.intro hT hE)
  have HL := Px.hid (And.intro hl hx)
  have HTO := Px.hid hto
  obtain ⟨ta, tc, rfl, _, _⟩ := hto.slice
  clear hT hE hl hx hto
  have HX := Px.hid (show Blk (w.alloc (.cells #[.int .i64 x.fmt, .int .i64 x.alg, .slice ta x.to.length tc, S x.header, S x.loose, S x.aad, S x.iv, S x.cipher, S x.tag] 27)) w.heap.size #[.int .i64 x.fmt, .int .i64 x.alg, .slice ta x.to.length tc, S x.header, S x.loose, S x.aad, S x.iv, S x.cipher, S x.tag] 27 from blk_new w _ _)
  unfold envC
  go_enter Tryz.func5, Tryz.ntmps5
  go_wp2_with fail
  refine (wakes_any _ (HT.out.1.same (Fr.alloc (Fr.refl _ w) _)) (HT.out.2.fr (show Same w _ from Fr.alloc (Fr.refl _ w) _) (fun y => y))).mono ?_
  rintro e w1 ⟨rfl, hs⟩
  replace HX := Px.hid (HX.out.fr hs (fun x => x))
  have HS := Px.hid (show Same w w1 from Same.trans (Fr.alloc (Fr.refl _ w) _) hs)
  clear hs
  obtain ⟨c0, c1, c2, c3, c4, c5, c6, c7, c8, _⟩ := blk9 HX.out
  have HC := Px.hid (copied_any x (.slice ta x.to.length tc) w1 (Lies.same HTO.out HS.out) (by have := HL.out.1; omega))
  unfold envC at HC
  go_wp2_with fail
  refine HC.out.mono ?_
  rintro e w2 ⟨a, c, rfl, ho, hs⟩
  have hcl : ∀ u, (u : Value) = u := fun _ => rfl
  replace HX := Px.hid (HX.out.fr hs (fun x => x))
  have HT2 := Px.hid (tell_any x (.slice a x.to.length c) w2 (ho.lies cRec_len) HL.out.1 HL.out.2 (HT.out.1.same (HS.out.trans hs)) (HT.out.2.fr (HS.out.trans hs) (fun y => y)))
  replace HS := Px.hid (HS.out.trans hs)
  clear ho hs HC hcl c0 c1 c2 c3 c4 c5 c6 c7 c8
  unfold envC at HT2
  go_wp2_with fail
  refine HT2.out.mono ?_
  rintro e w3 ⟨rfl, hs⟩
  replace HX := Px.hid (HX.out.fr hs (fun x => x))
  replace HS := Px.hid (HS.out.trans hs)
  clear hs HT2
  have HN := Px.hid (fun h : (tellP x).2 ≠ 0 => tell_nil h)
  have HB := Px.hid (fun (s : Bytes) (h : tellP x = (s, 0)) => tell_back h)
  obtain ⟨d, hd⟩ : ∃ d, d = tellP x := ⟨_, rfl⟩
  rw [← hd] at HN HB ⊢
  clear hd
  obtain ⟨s, e⟩ := d
  simp only at HN HB ⊢
  by_cases he : e = 0
  · subst he
    have hrd := HB.out s rfl
    have htl : s.length ≤ 140737488355327 := told_len hrd
    have HRD := Px.hid (And.intro hrd htl)
    clear hrd htl HN HB
    go_wp2_with fail
    refine (most_any _).mono ?_
    rintro e w4 ⟨rfl, hs⟩
    replace HX := Px.hid (HX.out.fr hs (fun x => x))
    replace HS := Px.hid (HS.out.trans hs)
    clear hs
    go_wp2_with fail
    refine (cmsread_any s mostL _ HRD.out.2 (HT.out.1.same HS.out) (HT.out.2.fr HS.out (fun y => y))).mono ?_
    rintro e w5 ⟨vy, rfl, hyo, hs, _, ya, yc, rfl⟩
    obtain ⟨q, hq⟩ : ∃ q, q = Cm.read s mostL := ⟨_, rfl⟩
    rw [← hq] at hyo ⊢
    have hq2 := hq.trans HRD.out.1
    obtain ⟨y, ye⟩ := q
    have hy : y = x := congrArg Prod.fst hq2
    have hye : ye = 0 := congrArg Prod.snd hq2
    subst hye
    simp only at hyo ⊢
    have HY := Px.hid (And.intro hy hyo)
    replace HX := Px.hid (HX.out.fr hs (fun x => x))
    replace HS := Px.hid (HS.out.trans hs)
    have HSM := Px.hid (show ∀ W, Same w5 W → Calls Tryz.prog 12 #[.agg (envC x (.slice ta x.to.length tc)), .agg (envC y (.slice ya y.to.length yc))] W fun e w' => e = .returned (.bool (decide (x = y))) ∧ Same W w' from fun W hW => rsame_any x y _ _ W (Lies.same HTO.out (HS.out.trans hW)) (Lies.same (HY.out.2.lies cRec_len) hW) (by have := HL.out.1; omega))
    rw [show decide (x = y) = true from decide_eq_true hy.symm] at HSM
    clear hq hq2 hy hs hyo
    unfold envC at HSM ⊢
    have hwl := HX.out.lt
    obtain ⟨c0, c1, c2, c3, c4, c5, c6, c7, c8, _⟩ := blk9 HX.out
    go_wp2_with fail
    refine (HSM.out _ (Fr.alloc (Fr.refl _ w5) _)).mono ?_
    rintro e w6 ⟨rfl, hs⟩
    replace HS := Px.hid (HS.out.trans (Same.trans (Fr.alloc (Fr.refl _ w5) _) hs))
    clear hs
    go_wp2
    go_ret
    exact ⟨rfl, HS.out.toBelow _ (fun _ h => h.elim) (Nat.le_refl _)⟩
  · have hsn := HN.out he
    subst hsn
    have hez : (e != 0) = true := by simpa using he
    have hez2 : ¬ e = 0 := he
    clear he HN HB
    go_wp2
    go_ret
    exact ⟨rfl, HS.out.toBelow _ (fun _ h => h.elim) (Nat.le_refl _)⟩
end Go.Proofs.YtpfhollohodcjaaGreatDoor

/-! An envelope among a statement's arguments, as plain data; what the second form's bound gives; its witness. Printed by gen_upto.py. -/
namespace Go.Proofs.YtpfhollohodcjaaGreatDoor
open Go.ChangeShapes Go.WideShapes Go.ChangeAt Go.RowKit Go.Px Go.Px.Co Go.Shelf Go.Lib

theorem exists_list {α : Type} (p : Nat → α → Prop) : ∀ n : Nat, (∀ i, i < n → ∃ x, p i x) → ∃ l : List α, l.length = n ∧ ∀ (i : Nat) (x : α), l[i]? = some x → p i x
  | 0, _ => ⟨[], rfl, fun i x h => by simp at h⟩
  | n + 1, h => by
    obtain ⟨l, hl, hp⟩ := exists_list p n (fun i hi => h i (by omega))
    obtain ⟨x, hx⟩ := h n (Nat.lt_succ_self n)
    refine ⟨l ++ [x], by simp [hl], fun i y hy => ?_⟩
    by_cases hi : i < n
    · rw [List.getElem?_append_left (by omega)] at hy
      exact hp i y hy
    · rw [List.getElem?_append_right (by omega)] at hy
      have h0 : i - l.length = 0 := by
        rcases Nat.eq_zero_or_pos (i - l.length) with e | e
        · exact e
        · rw [List.getElem?_eq_none (by simp; omega)] at hy; cases hy
      rw [h0] at hy
      simp only [List.getElem?_cons_zero, Option.some.injEq] at hy
      obtain rfl := hy
      obtain rfl : i = n := by omega
      exact hx
theorem weights_all {H : Type} {P : Program} {e : TypeId} {n : Nat} : ∀ {elems : List (DataW H)} {d : DataW H}, d ∈ elems → n ∈ d.weights P e → n ∈ DataW.weightsAll P e elems
  | x :: r, d, h, hn => by
    unfold DataW.weightsAll
    rcases List.mem_cons.1 h with rfl | h
    · exact List.mem_append_left _ hn
    · exact List.mem_append_right _ (weights_all h hn)
theorem rec_cells : Tryz.prog.cellsOf 78 = 9 ∧ Tryz.prog.cellsOf 27 = 9 ∧ Tryz.prog.cellsOf 3 = 1 ∧ Tryz.prog.cellsOf 25 = 1 ∧ Tryz.prog.cellsOf 9 = 1 := ⟨by kernel_rfl, by kernel_rfl, by kernel_rfl, by kernel_rfl, by kernel_rfl⟩
def InI (n : Int) : Prop := -9223372036854775808 ≤ n ∧ n ≤ 9223372036854775807
def RecIn (r : Rec) : Prop := InI r.way ∧ InI r.size ∧ InI r.kind ∧ InI r.rounds
def RecD {H : Type} (r : Rec) (d : DataW H) : Prop := ∃ d0 d1 d2 d6 : DataW H, d = .agg [d0, d1, d2, .lit (.string r.name), .lit (.string r.key), .lit (.string r.salt), d6, .lit (.string r.iv), .lit (.string r.loose)]
set_option maxRecDepth 100000 in
set_option maxHeartbeats 3000000 in
theorem open_rec {H : Type} {enc : TypeId × Value → H} {w : World} {base : Nat} {sp : Nat → Bool} {held : Bool} {n : Nat} {cs : List Value} {x : DataW H × List MemPlace} (h : DataW.trod enc Tryz.prog w base sp held n 78 cs = some x) :
    ∃ a : Rec, cs = cRec a ∧ RecIn a ∧ RecD a x.1 := by
  obtain ⟨ys, n', _, hxe, hlen, hyl, hf⟩ := DataW.trod_struct Tryz.underlying78 h
  obtain ⟨hc3, _, e0, _, e2⟩ := rec_cells
  rw [hc3] at hlen
  match cs, hlen, ys, hyl, hxe with
  | [c0, c1, c2, c3, c4, c5, c6, c7, c8], _, [y0, y1, y2, y3, y4, y5, y6, y7, y8], _, hxe =>
    have h0 : DataW.trod enc Tryz.prog w base sp held n' 3 (([c0, c1, c2, c3, c4, c5, c6, c7, c8].drop 0).take (Tryz.prog.cellsOf 3)) = some y0 := hf 0 _ rfl
    have h1 : DataW.trod enc Tryz.prog w base sp held n' 3 (([c0, c1, c2, c3, c4, c5, c6, c7, c8].drop 1).take (Tryz.prog.cellsOf 3)) = some y1 := hf 1 _ rfl
    have h2 : DataW.trod enc Tryz.prog w base sp held n' 3 (([c0, c1, c2, c3, c4, c5, c6, c7, c8].drop 2).take (Tryz.prog.cellsOf 3)) = some y2 := hf 2 _ rfl
    have h3 : DataW.trod enc Tryz.prog w base sp held n' 9 (([c0, c1, c2, c3, c4, c5, c6, c7, c8].drop 3).take (Tryz.prog.cellsOf 9)) = some y3 := hf 3 _ rfl
    have h4 : DataW.trod enc Tryz.prog w base sp held n' 9 (([c0, c1, c2, c3, c4, c5, c6, c7, c8].drop 4).take (Tryz.prog.cellsOf 9)) = some y4 := hf 4 _ rfl
    have h5 : DataW.trod enc Tryz.prog w base sp held n' 9 (([c0, c1, c2, c3, c4, c5, c6, c7, c8].drop 5).take (Tryz.prog.cellsOf 9)) = some y5 := hf 5 _ rfl
    have h6 : DataW.trod enc Tryz.prog w base sp held n' 3 (([c0, c1, c2, c3, c4, c5, c6, c7, c8].drop 6).take (Tryz.prog.cellsOf 3)) = some y6 := hf 6 _ rfl
    have h7 : DataW.trod enc Tryz.prog w base sp held n' 9 (([c0, c1, c2, c3, c4, c5, c6, c7, c8].drop 7).take (Tryz.prog.cellsOf 9)) = some y7 := hf 7 _ rfl
    have h8 : DataW.trod enc Tryz.prog w base sp held n' 9 (([c0, c1, c2, c3, c4, c5, c6, c7, c8].drop 8).take (Tryz.prog.cellsOf 9)) = some y8 := hf 8 _ rfl
    rw [e0] at h0 h1 h2 h6
    rw [e2] at h3 h4 h5 h7 h8
    obtain ⟨a0, q0, _, w0⟩ := DataW.trod_int (x := y0) Tryz.underlying3 h0
    obtain ⟨a1, q1, _, w1⟩ := DataW.trod_int (x := y1) Tryz.underlying3 h1
    obtain ⟨a2, q2, _, w2⟩ := DataW.trod_int (x := y2) Tryz.underlying3 h2
    obtain ⟨s3, q3, r3, _⟩ := DataW.trod_string (x := y3) Tryz.underlying9 h3
    obtain ⟨s4, q4, r4, _⟩ := DataW.trod_string (x := y4) Tryz.underlying9 h4
    obtain ⟨s5, q5, r5, _⟩ := DataW.trod_string (x := y5) Tryz.underlying9 h5
    obtain ⟨a6, q6, _, w6⟩ := DataW.trod_int (x := y6) Tryz.underlying3 h6
    obtain ⟨s7, q7, r7, _⟩ := DataW.trod_string (x := y7) Tryz.underlying9 h7
    obtain ⟨s8, q8, r8, _⟩ := DataW.trod_string (x := y8) Tryz.underlying9 h8
    simp only [List.drop_zero, List.drop_succ_cons, List.take_succ_cons, List.take_zero, List.cons.injEq, and_true] at q0 q1 q2 q3 q4 q5 q6 q7 q8
    refine ⟨⟨a0, a1, a2, s3.data.toList, s4.data.toList, s5.data.toList, a6, s7.data.toList, s8.data.toList⟩, ?_, ⟨int_range w0, int_range w1, int_range w2, int_range w6⟩, y0.1, y1.1, y2.1, y6.1, ?_⟩
    · rw [q0, q1, q2, q3, q4, q5, q6, q7, q8]
      unfold cRec
      simp only [← mk_S]
    · rw [hxe, r3, r4, r5, r7, r8]
      rfl
/-- A slice of recipients in memory. -/
def RecsD {H : Type} (l : List Rec) (d : DataW H) : Prop := l = [] ∨ ∃ elems spare, d = .slice elems spare ∧ elems.length = l.length ∧ ∀ (i : Nat) (a : Rec), l[i]? = some a → ∃ e ∈ elems, RecD a e
set_option maxRecDepth 100000 in
theorem open_recs {H : Type} {enc : TypeId × Value → H} {w : World} {base : Nat} {held : Bool} {fuel : Nat} {v : Value} {x : DataW H × List MemPlace} (hf : DataW.trod enc Tryz.prog w base (fun _ => true) held fuel 25 [v] = some x) :
    ∃ l : List Rec, Lies w 9 cRec v l ∧ (∀ a ∈ l, RecIn a) ∧ RecsD l x.1 := by
  have hc3 := rec_cells.1
  rcases Go.Deep.open_slice Tryz.underlying25 hf with ⟨hcs, _⟩ | ⟨a, len', cap', m, n, D, Pl, hcs, _, hl, hm, hmm, hx, hi⟩
  · simp only [List.cons.injEq, and_true] at hcs
    subst hcs
    exact ⟨[], ⟨⟨none, 0, rfl, Nat.le_refl _, Nat.zero_le _⟩, fun j x h => by simp at h⟩, fun a ha => (nomatch ha), .inl rfl⟩
  · simp only [List.cons.injEq, and_true] at hcs
    subst hcs
    simp only [if_true] at hmm
    rw [hc3] at hi
    obtain ⟨l, hll, hp⟩ := exists_list (fun i x => (∀ j u, (cRec x)[j]? = some u → w.cell? (a.add (i * 9 + j)) = some u) ∧ RecIn x ∧ RecD x (D i)) len' (fun i hil => by
      obtain ⟨cs', hc, ht⟩ := hi i (by omega)
      obtain ⟨x, rfl, h1, h2⟩ := open_rec ht
      obtain ⟨_, _, hat⟩ := World.cells?_some hc
      refine ⟨x, fun j u hu => ?_, h1, h2⟩
      have hj : j < 9 := by
        rcases Nat.lt_or_ge j 9 with e | e
        · exact e
        · rw [List.getElem?_eq_none (show (cRec x).length ≤ j from e)] at hu; cases hu
      rw [← Go.Deep.add_add, hat j hj]
      exact hu)
    refine ⟨l, ⟨⟨some a, cap', by rw [hll], by omega, hm⟩, fun j x hj => ?_⟩, fun x hx => ?_, .inr ⟨_, _, congrArg Prod.fst hx, by simp [hll], fun i x hix => ?_⟩⟩
    · obtain ⟨hcell, _, _⟩ := hp j x hj
      obtain ⟨b, off, spot⟩ := a
      have h0 := hcell 0 _ rfl
      have hspot : spot = none := by
        have hl0 : 0 < l.length := Nat.lt_of_le_of_lt (Nat.zero_le _) (List.getElem?_eq_some_iff.1 hj).1
        have h00 := (hp 0 l[0] (List.getElem?_eq_getElem hl0)).1 0 _ rfl
        exact World.cell?_spot (show w.cell? ⟨b, off, spot⟩ = some _ from h00)
      subst hspot
      refine ⟨b, off, cap', by rw [hll], ?_, fun i u hu => ?_⟩
      · have := World.block_lt_of_cell? w _ h0
        rw [Go.WideShapes.add_plain] at this
        exact this
      · have := hcell i u hu
        rw [Go.WideShapes.add_plain] at this
        exact this
    · obtain ⟨j, hj, rfl⟩ := List.getElem_of_mem hx
      exact (hp j _ (List.getElem?_eq_getElem hj)).2.1
    · obtain ⟨_, _, hd⟩ := hp i x hix
      have hil : i < l.length := (List.getElem?_eq_some_iff.1 hix).1
      exact ⟨_, List.mem_map.2 ⟨i, List.mem_range.2 (by omega), rfl⟩, hd⟩
/-- An envelope's data. -/
def EnvD {H : Type} (x : Env) (d : DataW H) : Prop := ∃ d0 d1 d2 : DataW H, d = .agg [d0, d1, d2, .lit (.string x.header), .lit (.string x.loose), .lit (.string x.aad), .lit (.string x.iv), .lit (.string x.cipher), .lit (.string x.tag)] ∧ RecsD x.to d2
/-- An envelope as an argument. -/
structure EnvArg (w : World) (v : Value) (x : Env) (vto : Value) : Prop where
  eq : v = .agg (envC x vto)
  rcs : Lies w 9 cRec vto x.to
  ints : InI x.fmt ∧ InI x.alg ∧ ∀ a ∈ x.to, RecIn a
set_option maxRecDepth 100000 in
set_option maxHeartbeats 3000000 in
theorem open_env {H : Type} {enc : TypeId × Value → H} {w : World} {base b0 : Nat} {held : Bool} {r : Reach} {v : Value} {d : DataW H} {ps : List MemPlace} (hv : Value.okWide Tryz.prog w r b0 27 v) (h : DataW.Trod enc Tryz.prog w base (fun _ => true) held 27 v d ps) :
    ∃ (x : Env) (vto : Value), EnvArg w v x vto ∧ EnvD x d := by
  obtain ⟨cs, rfl, hcs⟩ := okWide_struct Tryz.underlying27 hv
  obtain ⟨fuel, hf0⟩ := h
  obtain ⟨_, hc9, e0, e1, e2⟩ := rec_cells
  obtain ⟨cl⟩ := cs
  have hf0 : DataW.trod enc Tryz.prog w base (fun _ => true) held fuel 27 cl = some (d, ps) := by simpa [Value.cells] using hf0
  obtain ⟨ys, n', _, hxe, hlen, hyl, hf⟩ := DataW.trod_struct Tryz.underlying27 hf0
  rw [hc9] at hlen
  match cl, hlen, ys, hyl, hxe with
  | [c0, c1, c2, c3, c4, c5, c6, c7, c8], _, [y0, y1, y2, y3, y4, y5, y6, y7, y8], _, hxe =>
    have h0 : DataW.trod enc Tryz.prog w base (fun _ => true) held n' 3 (([c0, c1, c2, c3, c4, c5, c6, c7, c8].drop 0).take (Tryz.prog.cellsOf 3)) = some y0 := hf 0 _ rfl
    have h1 : DataW.trod enc Tryz.prog w base (fun _ => true) held n' 3 (([c0, c1, c2, c3, c4, c5, c6, c7, c8].drop 1).take (Tryz.prog.cellsOf 3)) = some y1 := hf 1 _ rfl
    have h2 : DataW.trod enc Tryz.prog w base (fun _ => true) held n' 25 (([c0, c1, c2, c3, c4, c5, c6, c7, c8].drop 2).take (Tryz.prog.cellsOf 25)) = some y2 := hf 2 _ rfl
    have h3 : DataW.trod enc Tryz.prog w base (fun _ => true) held n' 9 (([c0, c1, c2, c3, c4, c5, c6, c7, c8].drop 3).take (Tryz.prog.cellsOf 9)) = some y3 := hf 3 _ rfl
    have h4 : DataW.trod enc Tryz.prog w base (fun _ => true) held n' 9 (([c0, c1, c2, c3, c4, c5, c6, c7, c8].drop 4).take (Tryz.prog.cellsOf 9)) = some y4 := hf 4 _ rfl
    have h5 : DataW.trod enc Tryz.prog w base (fun _ => true) held n' 9 (([c0, c1, c2, c3, c4, c5, c6, c7, c8].drop 5).take (Tryz.prog.cellsOf 9)) = some y5 := hf 5 _ rfl
    have h6 : DataW.trod enc Tryz.prog w base (fun _ => true) held n' 9 (([c0, c1, c2, c3, c4, c5, c6, c7, c8].drop 6).take (Tryz.prog.cellsOf 9)) = some y6 := hf 6 _ rfl
    have h7 : DataW.trod enc Tryz.prog w base (fun _ => true) held n' 9 (([c0, c1, c2, c3, c4, c5, c6, c7, c8].drop 7).take (Tryz.prog.cellsOf 9)) = some y7 := hf 7 _ rfl
    have h8 : DataW.trod enc Tryz.prog w base (fun _ => true) held n' 9 (([c0, c1, c2, c3, c4, c5, c6, c7, c8].drop 8).take (Tryz.prog.cellsOf 9)) = some y8 := hf 8 _ rfl
    rw [e0] at h0 h1
    rw [e1] at h2
    rw [e2] at h3 h4 h5 h6 h7 h8
    obtain ⟨a0, q0, _, w0⟩ := DataW.trod_int (x := y0) Tryz.underlying3 h0
    obtain ⟨a1, q1, _, w1⟩ := DataW.trod_int (x := y1) Tryz.underlying3 h1
    obtain ⟨l, hl1, hl2, hl3⟩ := open_recs (x := y2) (v := c2) (by simpa using h2)
    obtain ⟨s3, q3, r3, _⟩ := DataW.trod_string (x := y3) Tryz.underlying9 h3
    obtain ⟨s4, q4, r4, _⟩ := DataW.trod_string (x := y4) Tryz.underlying9 h4
    obtain ⟨s5, q5, r5, _⟩ := DataW.trod_string (x := y5) Tryz.underlying9 h5
    obtain ⟨s6, q6, r6, _⟩ := DataW.trod_string (x := y6) Tryz.underlying9 h6
    obtain ⟨s7, q7, r7, _⟩ := DataW.trod_string (x := y7) Tryz.underlying9 h7
    obtain ⟨s8, q8, r8, _⟩ := DataW.trod_string (x := y8) Tryz.underlying9 h8
    simp only [List.drop_zero, List.drop_succ_cons, List.take_succ_cons, List.take_zero, List.cons.injEq, and_true] at q0 q1 q3 q4 q5 q6 q7 q8
    refine ⟨⟨a0, a1, l, s3.data.toList, s4.data.toList, s5.data.toList, s6.data.toList, s7.data.toList, s8.data.toList⟩, c2, ⟨?_, hl1, int_range w0, int_range w1, hl2⟩, y0.1, y1.1, y2.1, ?_, hl3⟩
    · rw [q0, q1, q3, q4, q5, q6, q7, q8]
      unfold envC
      simp only [← mk_S]
    · have hd : d = .agg [y0.1, y1.1, y2.1, y3.1, y4.1, y5.1, y6.1, y7.1, y8.1] := congrArg Prod.fst hxe
      rw [hd, r3, r4, r5, r6, r7, r8]
/-- Within the reach. -/
structure EnvReach (x : Env) : Prop where
  rcs : x.to.length * 112 ≤ 140737488351232
  tx : x.header.length ≤ 140737488351232 ∧ x.loose.length ≤ 140737488351232 ∧ x.aad.length ≤ 140737488351232 ∧ x.iv.length ≤ 140737488351232 ∧ x.cipher.length ≤ 140737488351232 ∧ x.tag.length ≤ 140737488351232
  rc : ∀ a ∈ x.to, a.name.length ≤ 140737488351232 ∧ a.key.length ≤ 140737488351232 ∧ a.salt.length ≤ 140737488351232 ∧ a.iv.length ≤ 140737488351232 ∧ a.loose.length ≤ 140737488351232
theorem env_reach {H : Type} {ts : List TypeId} {ds : List (DataW H)} {d : DataW H} {x : Env} (hsz : (DataW.weightsEach Tryz.prog ts ds).all (· ≤ reachBytes) = true) {j : Nat} (ht : ts[j]? = some 27) (hd : ds[j]? = some d) (h : EnvD x d) : EnvReach x := by
  obtain ⟨d0, d1, d2, rfl, hr⟩ := h
  have hw : ∀ n ∈ DataW.weights Tryz.prog 27 (DataW.agg [d0, d1, d2, .lit (.string x.header), .lit (.string x.loose), .lit (.string x.aad), .lit (.string x.iv), .lit (.string x.cipher), .lit (.string x.tag)]), n ≤ 140737488351232 := fun n hn => by
    have := List.all_eq_true.1 hsz _ (DataW.weights_mem_each ht hd _ hn)
    have h2 : n ≤ reachBytes := by simpa using this
    exact h2
  have hrec : ∀ n ∈ DataW.weights Tryz.prog 25 d2, n ≤ 140737488351232 := fun n hn => hw n (by
    unfold DataW.weights
    rw [Tryz.underlying27]
    simp [DataW.weightsEach, hn])
  have hs : ∀ s ∈ [x.header, x.loose, x.aad, x.iv, x.cipher, x.tag], s.length ≤ 140737488351232 := fun s hs => hw _ (by
    unfold DataW.weights
    rw [Tryz.underlying27]
    simp only [List.mem_cons, List.not_mem_nil, or_false] at hs
    rcases hs with rfl | rfl | rfl | rfl | rfl | rfl <;> simp [DataW.weightsEach, DataW.weights])
  refine ⟨?_, ⟨hs _ (by simp), hs _ (by simp), hs _ (by simp), hs _ (by simp), hs _ (by simp), hs _ (by simp)⟩, fun a ha => ?_⟩
  · rcases hr with e | ⟨elems, spare, rfl, he, _⟩
    · rw [e]; simp
    · have := hrec ((elems.length + spare.length) * Tryz.prog.bytesOf 78) (by
        unfold DataW.weights
        rw [Tryz.underlying25]
        exact List.mem_cons_self)
      rw [show Tryz.prog.bytesOf 78 = 112 by kernel_rfl, he] at this
      omega
  · rcases hr with e | ⟨elems, spare, rfl, he, hm⟩
    · rw [e] at ha; cases ha
    · obtain ⟨i, hi, rfl⟩ := List.getElem_of_mem ha
      obtain ⟨e, hmem, r0, r1, r2, r6, rfl⟩ := hm i _ (List.getElem?_eq_getElem hi)
      have hall : ∀ s ∈ [x.to[i].name, x.to[i].key, x.to[i].salt, x.to[i].iv, x.to[i].loose], s.length ≤ 140737488351232 := fun s hs => hrec _ (by
        unfold DataW.weights
        rw [Tryz.underlying25]
        refine List.mem_cons_of_mem _ (List.mem_append_left _ (weights_all hmem ?_))
        unfold DataW.weights
        rw [Tryz.underlying78]
        simp only [List.mem_cons, List.not_mem_nil, or_false] at hs
        rcases hs with rfl | rfl | rfl | rfl | rfl <;> simp [DataW.weightsEach, DataW.weights])
      exact ⟨hall _ (by simp), hall _ (by simp), hall _ (by simp), hall _ (by simp), hall _ (by simp)⟩
theorem bulk_one {H : Type} (d : DataW H) : 1 ≤ Rows.uptoBulk d := by
  cases d with
  | lit l => cases l <;> simp [Rows.uptoBulk]
  | nil => simp [Rows.uptoBulk]
  | ptr d => simp [Rows.uptoBulk]
  | slice elems spare => simp [Rows.uptoBulk]
  | agg parts => simp [Rows.uptoBulk]
  | iface t d => simp [Rows.uptoBulk]
  | map entries => simp [Rows.uptoBulk]
  | held h => simp [Rows.uptoBulk]
theorem bulk_len {H : Type} (l : List (DataW H)) : l.length ≤ Rows.uptoBulkAll l := by
  induction l with
  | nil => simp [Rows.uptoBulkAll]
  | cons x r ih => have := bulk_one x; simp only [Rows.uptoBulkAll, List.length_cons]; omega
theorem env_bulk {H : Type} {d : DataW H} {x : Env} (hk : Rows.uptoSmall H ([d] ++ []) = true) (h : EnvD x d) : x.to.length ≤ 1048576 := by
  have hb := of_decide_eq_true hk
  obtain ⟨d0, d1, d2, rfl, hr⟩ := h
  rcases hr with e | ⟨elems, spare, rfl, he, _⟩
  · rw [e]
    exact Nat.zero_le _
  · have := bulk_len elems
    simp only [List.cons_append, List.nil_append, Rows.uptoBulkAll, Rows.uptoBulk] at hb
    omega
theorem env_s {x : Env} (h : EnvReach x) (hi : ∀ a ∈ x.to, RecIn a) : Cm.EnvS x :=
  ⟨fun r hr => ⟨(hi r hr).2.2.1, by have := (h.rc r hr).1; omega, by have := (h.rc r hr).2.1; omega, by have := (h.rc r hr).2.2.1; omega, by have := (h.rc r hr).2.2.2.1; omega⟩, by have := h.tx.1; omega, by have := h.tx.2.2.2.1; omega, by have := h.tx.2.2.2.2.1; omega, by have := h.tx.2.2.2.2.2; omega⟩
theorem witness_zip {H : Type} {enc : TypeId × Value → H} {C : Checked} {os : Os} {f : FuncId} {fn : Func} {s : OpenSpec} {conds : List PathCond} {apart : Bool} {laid : List (String × DataW Unit)} (modest : Bool) (w0 : World) (args : Array Value) (hos : w0.os = os)
    (hsh : (w0.forCall (fun _ _ => 0) ⟨#[], args, []⟩).Shaped C.prog)
    (hok : Input.okWideB C.prog (w0.forCall (fun _ _ => 0) ⟨#[], args, []⟩) f ⟨#[], args, []⟩ = true)
    (hrow : s.preRow enc C.prog fn conds apart laid (w0.forCall (fun _ _ => 0) ⟨#[], args, []⟩).memory args) :
    ∃ (w : World) (tape : Tape) (i : Input), w.os = os ∧ (w.forCall tape i).Shaped C.prog ∧ i.vars = [] ∧ Input.okWide C.prog (w.forCall tape i) .any w.heap.size f i ∧
      s.preRow enc C.prog fn conds apart laid (w.forCall tape i).memory i.args ∧ ({ modest := modest } : Assume).holds C.prog (lone (Frame.enter C.prog f i.args .normal) [] (w.forCall tape i)) :=
  ⟨w0, fun _ _ => 0, ⟨#[], args, []⟩, hos, hsh, (Input.okWide_of_okWideB (base := 0) hok).1, (Input.okWide_of_okWideB hok).2, hrow, by
    simp only [Assume.holds]
    exact ⟨by simp, by simp, fun _ => Modest.zero, by simp, by simp⟩⟩
end Go.Proofs.YtpfhollohodcjaaGreatDoor
