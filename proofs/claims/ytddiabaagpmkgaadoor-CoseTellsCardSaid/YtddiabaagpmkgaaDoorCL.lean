/-
 Several texts in one: What the statements of layer 25 share: an envelope, a copy of one, the chapter's examples (printed by gen_lg.py).
-/
import Derived.Test.YtddiabaagpmkgaaDoorCH
import Derived.Test.YtddiabaagpmkgaaDoorCH
import Derived.Test.YtddiabaagpmkgaaDoorCI
/-! What the statements of layer 25 share: an envelope, a copy of one, the chapter's examples (printed by gen_lg.py). -/
namespace Go.Px.Co
def someE : Env := ⟨5, 1, [direct []], [161, 1, 1], [161, 5, 76, 49, 50, 51, 52, 53, 54, 55, 56, 57, 48, 49, 50], [], [49, 50, 51, 52, 53, 54, 55, 56, 57, 48, 49, 50], [97, 98, 99], [49, 50, 51, 52, 53, 54, 55, 56, 57, 48, 49, 50, 51, 52, 53, 54]⟩
theorem some_tell : (tellP someE).2 = 0 := by decide +kernel
theorem some_kind : (read [193, 246] most).2 = 11 := by decide +kernel
theorem some_read : read (tellP someE).1 most = (someE, 0) := tell_back (s := (tellP someE).1) (by rw [← some_tell])
end Go.Px.Co
namespace Go.Proofs.YtddiabaagpmkgaaDoor
open Go.RowKit Go.Px Go.Px.E7 Go.Px.Co
theorem Tryd.infoRec : (Tryd.prog.info? 59).map (fun i => (i.zero, i.size, i.bytes)) = some (some (.agg #[.int .i64 0, .int .i64 0, .int .i64 0, .string ByteArray.empty, .string ByteArray.empty, .string ByteArray.empty, .int .i64 0, .string ByteArray.empty, .string ByteArray.empty]), 9, 112) := by kernel_rfl
theorem rec_one (l : List Rec) : ∀ u ∈ l.flatMap cRec, u.oneCell' = true := by
 intro u hu
 obtain ⟨r, _, hr⟩ := List.mem_flatMap.1 hu
 simp only [cRec, List.mem_cons, List.not_mem_nil, or_false] at hr
 rcases hr with rfl | rfl | rfl | rfl | rfl | rfl | rfl | rfl | rfl <;> rfl
set_option maxRecDepth 100000 in
set_option maxHeartbeats 4000000 in
theorem some_any (w : World) : Calls Tryd.prog 21 #[] w fun e w' => ∃ g, e = .returned (.agg (envC someE (.slice (some ⟨g, 0, none⟩) 1 1))) ∧ Owns w' 59 9 cRec (.slice (some ⟨g, 0, none⟩) 1 1) someE.to ∧ Same w w' ∧ w.heap.size ≤ g := by
 go_enter Tryd.func21, Tryd.ntmps21
 go_wp2
 refine bodyPost_ret (v := .agg #[.int .i64 5, .int .i64 1, .slice (some ⟨w.heap.size + 1, 0, none⟩) 1 1, S [161, 1, 1], S [161, 5, 76, 49, 50, 51, 52, 53, 54, 55, 56, 57, 48, 49, 50], S [], S [49, 50, 51, 52, 53, 54, 55, 56, 57, 48, 49, 50], S [97, 98, 99], S [49, 50, 51, 52, 53, 54, 55, 56, 57, 48, 49, 50, 51, 52, 53, 54]]) (by simp [results, Tryd.results21, go_sem, *]) rfl ?_
 refine ⟨w.heap.size + 1, rfl, owns_rec1 ?_, ?_, Nat.le_succ _⟩
 ·exact blk_new1 w _ _ _
 ·repeat' first
   | refine Fr.setCell ?_ (.inr (by dsimp only; omega)) _
   | refine Fr.alloc ?_ _
   | exact Fr.refl _ _
set_option maxRecDepth 100000 in
set_option maxHeartbeats 4000000 in
theorem copied_any (x : Env) (vto : Value) (w : World) (h : Lies w 9 cRec vto x.to) (hl : x.to.length * 112 ≤ 140737488351232) :
  Calls Tryd.prog 14 #[.agg (envC x vto)] w fun e w' => ∃ a c, e = .returned (.agg (envC x (.slice a x.to.length c))) ∧ Owns w' 59 9 cRec (.slice a x.to.length c) x.to ∧ Same w w' := by
 have hsrc : ∀ W, Same w W → Src Tryd.prog 9 25 vto x.to.length (x.to.flatMap cRec) W := fun W hW => (Lies.same h hW).src cRec_len (by omega) Tryd.underlying25 (rec_one x.to)
 have H := Px.hid hsrc
 obtain ⟨ta, tc, rfl, _, _⟩ := h.slice
 clear h hsrc
 obtain ⟨i0, hi0, hz0, hz1, hz2⟩ := info_parts Tryd.infoRec
 have hb2 : ∀ a b : Obj, (((w.alloc a).alloc b).alloc (.cells #[] 59 (0, 0))).heap[w.heap.size + 1 + 1]? = some (.cells #[] 59 (0, 0)) := fun a b => by
  have z := heap_alloc_new ((w.alloc a).alloc b) (.cells #[] 59 (0, 0))
  rw [show ((w.alloc a).alloc b).heap.size = w.heap.size + 1 + 1 by simp] at z
  exact z
 unfold envC
 go_enter Tryd.func14, Tryd.ntmps14
 go_wp2_with (at_builtin; go_must (refine wpList_append_src0 rfl _ _ 25 25 rfl 59 i0 _ 9 112 Tryd.underlying25 hi0 hz0 hz1 hz2 rfl (w.heap.size + 1 + 1) rfl (hb2 _ _) (.slice ta x.to.length tc) x.to.length (x.to.flatMap cRec) rfl (H.out _ (Fr.alloc (Fr.alloc (Fr.alloc (Fr.refl _ w) _) _) _)) (by unfold maxLen; omega) (by omega) ?_))
 intro g cap w' hown hgrow hat
 have b0 : Blk w' w.heap.size #[.int .i64 x.fmt, .int .i64 x.alg, .slice ta x.to.length tc, S x.header, S x.loose, S x.aad, S x.iv, S x.cipher, S x.tag] 27 := (hgrow.block w.heap.size (by simp; omega) (by simp)).trans (Blk.alloc (Blk.alloc (blk_new w _ _) _) _)
 have b1 : Blk w' (w.heap.size + 1) #[.int .i64 0, .int .i64 0, .slice none 0 0, S [], S [], S [], S [], S [], S []] 27 := (hgrow.block (w.heap.size + 1) (by simp) (by simp)).trans (Blk.alloc (blk_new1 w _ _ _) _)
 have hg0 : (Value.slice (some ⟨g, 0, none⟩) x.to.length cap).ownBlock ≠ some w.heap.size := by simp only [Value.ownBlock, ne_eq, Option.some.injEq]; rcases hat with e | e <;> (try simp at e) <;> omega
 have hg1 : (Value.slice (some ⟨g, 0, none⟩) x.to.length cap).ownBlock ≠ some (w.heap.size + 1) := by simp only [Value.ownBlock, ne_eq, Option.some.injEq]; rcases hat with e | e <;> (try simp at e) <;> omega
 have HO := Px.hid (show Owns w' 59 9 cRec (.slice (some ⟨g, 0, none⟩) x.to.length cap) x.to from hown)
 have HS := Px.hid (show Same w w' from Fr.grown (Fr.alloc (Fr.alloc (Fr.alloc (Fr.refl _ w) _) _) _) hgrow (fun k e => by cases e))
 have HG := Px.hid (And.intro hg0 hg1)
 obtain ⟨c0, c1, c2, c3, c4, c5, c6, c7, c8, d0, d1, d2, d3, d4, d5, d6, d7, d8⟩ := blk9 b0
 obtain ⟨e0, e1, e2, e3, e4, e5, e6, e7, e8, f0, f1, f2, f3, f4, f5, f6, f7, f8⟩ := blk9 b1
 have hl0 := b0.lt
 have hl1 := b1.lt
 clear b0 b1 hown hgrow hat hg0 hg1 hb2
 go_wp2
 refine bodyPost_ret (v := .agg #[.int .i64 x.fmt, .int .i64 x.alg, .slice (some ⟨g, 0, none⟩) x.to.length cap, S x.header, S x.loose, S x.aad, S x.iv, S x.cipher, S x.tag]) (by simp [results, Tryd.results14, go_sem, *]) rfl ⟨_, _, rfl, ?_, ?_⟩
 ·obtain ⟨hg0, hg1⟩ := HG.out
  exact (((((((((HO.out.setCell (p := ⟨w.heap.size, 2, none⟩) hg0 _).setCell (p := ⟨w.heap.size + 1, 0, none⟩) hg1 _).setCell (p := ⟨w.heap.size + 1, 1, none⟩) hg1 _).setCell (p := ⟨w.heap.size + 1, 2, none⟩) hg1 _).setCell (p := ⟨w.heap.size + 1, 3, none⟩) hg1 _).setCell (p := ⟨w.heap.size + 1, 4, none⟩) hg1 _).setCell (p := ⟨w.heap.size + 1, 5, none⟩) hg1 _).setCell (p := ⟨w.heap.size + 1, 6, none⟩) hg1 _).setCell (p := ⟨w.heap.size + 1, 7, none⟩) hg1 _).setCell (p := ⟨w.heap.size + 1, 8, none⟩) hg1 _
 ·repeat' first
   | refine Fr.setCell ?_ (.inr (by dsimp only; omega)) _
   | exact HS.out
set_option maxRecDepth 100000 in
set_option maxHeartbeats 8000000 in
theorem wakes_any (w : World) (hT : Tabs w) : Calls Tryd.prog 9 #[] w fun e w' => e = .returned (.bool true) ∧ Same w w' := by
 have HT := Px.hid hT
 clear hT
 go_enter Tryd.func9, Tryd.ntmps9
 go_wp2_with fail
 refine (some_any _).mono ?_
 rintro e w1 ⟨g, rfl, ho, hs, _⟩
 have HS := Px.hid hs
 have HC := Px.hid (ctell_any someE (.slice (some ⟨g, 0, none⟩) 1 1) w1 (ho.lies cRec_len) (by decide) (by decide) (by decide) (by decide) (by decide) (HT.out.same hs))
 clear ho hs
 unfold envC at HC ⊢
 go_wp2_with fail
 refine HC.out.mono ?_
 rintro e w2 ⟨rfl, hs⟩
 replace HS := Px.hid (HS.out.trans hs)
 rw [some_tell]
 obtain ⟨tb, htb⟩ : ∃ tb, tb = (tellP someE).1 := ⟨_, rfl⟩
 have hrd := some_read
 rw [← htb] at hrd ⊢
 have htl : tb.length ≤ 140737488355327 := by rw [htb]; decide +kernel
 have HRD := Px.hid (And.intro hrd htl)
 clear hs HC htb hrd htl
 go_wp2_with fail
 refine (most_any _).mono ?_
 rintro e w3 ⟨rfl, hs⟩
 replace HS := Px.hid (HS.out.trans hs)
 clear hs
 go_wp2_with fail
 refine (creadAll_any tb Co.most _ HRD.out.2 (HT.out.same HS.out)).mono ?_
 rintro e w4 ⟨vy, rfl, hyo, hs, hyn, ya, yc, rfl⟩
 obtain ⟨d, hd⟩ : ∃ d, d = Co.read tb Co.most := ⟨_, rfl⟩
 rw [← hd] at hyo ⊢
 have hd2 := hd.trans HRD.out.1
 obtain ⟨y, ye⟩ := d
 have hy : y = someE := congrArg Prod.fst hd2
 have hye : ye = 0 := congrArg Prod.snd hd2
 subst hye
 simp only at hyo ⊢
 replace HS := Px.hid (HS.out.trans hs)
 have HYO := Px.hid hyo
 have HY := Px.hid hy
 have HYL := Px.hid (show y.to.length ≤ 140737488351232 by rw [hy]; decide)
 clear hs hyo hyn hd hd2 hy
 unfold envC
 go_wp2_with fail
 refine (most_any _).mono ?_
 rintro e w5 ⟨rfl, hs⟩
 have HX := Px.hid (show Blk w5 w4.heap.size #[.int .i64 y.fmt, .int .i64 y.alg, .slice ya y.to.length yc, S y.header, S y.loose, S y.aad, S y.iv, S y.cipher, S y.tag] 27 from Blk.fr (blk_new w4 _ _) hs (fun x => x))
 replace HS := Px.hid (HS.out.trans (Same.trans (Fr.alloc (Fr.refl _ w4) _) hs))
 replace HYO := Px.hid (Owns.same HYO.out (Same.trans (Fr.alloc (Fr.refl _ w4) _) hs))
 clear hs
 go_wp2_with fail
 refine (creadAll_any [193, 246] Co.most _ (by decide) (HT.out.same HS.out)).mono ?_
 rintro e w6 ⟨vz, rfl, _, hs, _, za', zc, rfl⟩
 obtain ⟨d, hd⟩ : ∃ d, d = Co.read [193, 246] Co.most := ⟨_, rfl⟩
 have hk := some_kind
 rw [← hd] at hk ⊢
 clear hd
 obtain ⟨z, ze⟩ := d
 simp only at hk ⊢
 subst hk
 replace HX := Px.hid (HX.out.fr hs (fun x => x))
 replace HS := Px.hid (HS.out.trans hs)
 replace HYO := Px.hid (Owns.same HYO.out hs)
 clear hs
 unfold envC
 go_upto_region 4 with fail
 obtain ⟨w7, hw7⟩ : ∃ w7 : World, w7 = w6.alloc (.cells #[.int .i64 z.fmt, .int .i64 z.alg, .slice za' z.to.length zc, S z.header, S z.loose, S z.aad, S z.iv, S z.cipher, S z.tag] 27) := ⟨_, rfl⟩
 have HA := Px.hid (show Same w6 w7 by rw [hw7]; exact Fr.alloc (Fr.refl _ w6) _)
 rw [← hw7]
 clear hw7
 replace HX := Px.hid (HX.out.fr HA.out (fun x => x))
 replace HS := Px.hid (HS.out.trans HA.out)
 replace HYO := Px.hid (Owns.same HYO.out HA.out)
 obtain ⟨c0, c1, c2, c3, c4, c5, c6, c7, c8, _⟩ := blk9 HX.out
 have hwl := HX.out.lt
 clear HA HRD HT
 go_region_with (first
  | (go_at_call 21; refine (some_any _).mono ?_; rintro e wa ⟨g5, rfl, ho5, hs5, _⟩; have HSA := Px.hid (show Same w7 wa from Same.trans (by first | exact Fr.drew (Fr.refl _ w7) | exact Fr.drewN (Fr.refl _ w7) _ | exact Fr.refl _ w7) hs5); have HOA := Px.hid ho5; clear hs5 ho5; obtain ⟨c0, c1, c2, c3, c4, c5, c6, c7, c8, _⟩ := blk9 (HX.out.fr HSA.out (fun x => x)); unfold envC)
  | (go_at_call 12; refine (rsame_any y someE (.slice ya y.to.length yc) (.slice (some ⟨g5, 0, none⟩) 1 1) _ (Lies.same (HYO.out.lies cRec_len) (by first | exact HSA.out | exact Fr.drew HSA.out | exact Fr.drewN HSA.out _)) (by first | exact HOA.out.lies cRec_len | exact (HOA.out.drew).lies cRec_len | exact (HOA.out.drewN _).lies cRec_len) HYL.out).mono ?_; rintro e wb ⟨rfl, hs6⟩; have HSB := Px.hid (show Same w7 wb from Same.trans (by first | exact HSA.out | exact Fr.drew HSA.out | exact Fr.drewN HSA.out _) hs6); clear hs6; rw [show decide (y = someE) = true from decide_eq_true HY.out]))
 all_goals
  go_wp2
  go_ret
  exact ⟨rfl, HS.out.trans (by first | exact HSB.out | exact Fr.drewN HSB.out _)⟩
end Go.Proofs.YtddiabaagpmkgaaDoor
