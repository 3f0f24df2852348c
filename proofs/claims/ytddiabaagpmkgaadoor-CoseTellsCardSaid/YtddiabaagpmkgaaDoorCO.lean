/-
 Several texts in one: The walk over the reference's pairs (layer 25). The walk over the reference's pairs (layer 25). The walk over the reference's last (layer 25; printed by gen_cqh.py). The walk over the reference's last (layer 25; printed by gen_cqh.py). The walk over the reference's last (layer 25; printed by gen_cqh.py).
-/
import Derived.Test.YtddiabaagpmkgaaDoorCN
import Derived.Test.YtddiabaagpmkgaaDoorCG
import Derived.BigRegion
/-! The walk over the reference's pairs (layer 25). -/
namespace Go.Proofs.YtddiabaagpmkgaaDoor
open Go.RowKit Go.Px Go.Px.E7 Go.Px.Co
/-- A reference's header of the call's own, in its block: its labels, what they label. -/
structure RHO (w wr : World) (b : Nat) (vl vv : Value) (ls vs : List Atom) : Prop where
 blk : Blk wr b #[vl, vv] 96
 ol : Owns wr 62 3 cAtom vl ls
 ov : Owns wr 62 3 cAtom vv vs
 same : Same w wr
 nl : ∀ g, vl.ownBlock = some g → w.heap.size ≤ g ∧ g ≠ b
 nv : ∀ g, vv.ownBlock = some g → w.heap.size ≤ g ∧ g ≠ b
 ap : Apart vl.ownBlock vv.ownBlock
 nb : w.heap.size ≤ b
theorem RHO.sm {w wr w2 : World} {b : Nat} {vl vv : Value} {ls vs : List Atom} (x : RHO w wr b vl vv ls vs) (hs : Same wr w2) : RHO w w2 b vl vv ls vs :=
 ⟨x.blk.fr hs (fun x => x), Owns.same x.ol hs, Owns.same x.ov hs, x.same.trans hs, x.nl, x.nv, x.ap, x.nb⟩
theorem RHO.pushL {w wr w1 : World} {b : Nat} {vl vv : Value} {ls vs : List Atom} {x : Atom} {g cap : Nat} (r : RHO w wr b vl vv ls vs)
  (hown : w1.ownsRow 0 62 3 (.slice (some ⟨g, 0, none⟩) (ls.length + 1) cap) (ls.length + 1) (ls.flatMap cAtom ++ cAtom x)) (hg : wr.grownBy w1 vl.ownBlock) (hat : vl.ownBlock = some g ∨ wr.heap.size ≤ g) :
  RHO w (w1.setCell ⟨b, 0, none⟩ (.slice (some ⟨g, 0, none⟩) (ls.length + 1) cap)) b (.slice (some ⟨g, 0, none⟩) (ls.length + 1) cap) vv (ls ++ [x]) vs := by
 have hbl := r.blk.lt
 have hlb : vl.ownBlock ≠ some b := fun e => (r.nl b e).2 rfl
 have hgb : ¬ g = b := by rcases hat with e | e; exact (r.nl g e).2; omega
 have hb1 : Blk w1 b #[vl, vv] 96 := (hg.block b hbl (Ne.symm hlb)).trans r.blk
 have hv1 : Owns w1 62 3 cAtom vv vs := r.ov.grown hg (fun k e h => r.ap k h e)
 have z := hb1.set 0 (.slice (some ⟨g, 0, none⟩) (ls.length + 1) cap)
 refine ⟨by simpa using z, (owns_append hown).setCell (p := ⟨b, 0, none⟩) (by simpa [Value.ownBlock] using hgb) _, hv1.setCell (p := ⟨b, 0, none⟩) (fun e => (r.nv b e).2 rfl) _, ?_, ?_, r.nv, ?_, r.nb⟩
 ·exact Fr.setCell (Fr.grown r.same hg (fun k e => .inr (r.nl k e).1)) (.inr r.nb) _
 ·intro k e
  simp only [Value.ownBlock, Option.some.injEq] at e
  subst e
  rcases hat with e | e
  ·exact r.nl _ e
  ·exact ⟨Nat.le_trans r.same.size e, hgb⟩
 ·intro k e h
  simp only [Value.ownBlock, Option.some.injEq] at e
  subst e
  rcases hat with e | e
  ·exact r.ap _ e h
  ·have := r.ov.lt h; omega
theorem RHO.pushV {w wr w1 : World} {b : Nat} {vl vv : Value} {ls vs : List Atom} {x : Atom} {g cap : Nat} (r : RHO w wr b vl vv ls vs)
  (hown : w1.ownsRow 0 62 3 (.slice (some ⟨g, 0, none⟩) (vs.length + 1) cap) (vs.length + 1) (vs.flatMap cAtom ++ cAtom x)) (hg : wr.grownBy w1 vv.ownBlock) (hat : vv.ownBlock = some g ∨ wr.heap.size ≤ g) :
  RHO w (w1.setCell ⟨b, 1, none⟩ (.slice (some ⟨g, 0, none⟩) (vs.length + 1) cap)) b vl (.slice (some ⟨g, 0, none⟩) (vs.length + 1) cap) ls (vs ++ [x]) := by
 have hbl := r.blk.lt
 have hlb : vv.ownBlock ≠ some b := fun e => (r.nv b e).2 rfl
 have hgb : ¬ g = b := by rcases hat with e | e; exact (r.nv g e).2; omega
 have hb1 : Blk w1 b #[vl, vv] 96 := (hg.block b hbl (Ne.symm hlb)).trans r.blk
 have hv1 : Owns w1 62 3 cAtom vl ls := r.ol.grown hg r.ap
 have z := hb1.set 1 (.slice (some ⟨g, 0, none⟩) (vs.length + 1) cap)
 refine ⟨by simpa using z, hv1.setCell (p := ⟨b, 1, none⟩) (fun e => (r.nl b e).2 rfl) _, (owns_append hown).setCell (p := ⟨b, 1, none⟩) (by simpa [Value.ownBlock] using hgb) _, ?_, r.nl, ?_, ?_, r.nb⟩
 ·exact Fr.setCell (Fr.grown r.same hg (fun k e => .inr (r.nv k e).1)) (.inr r.nb) _
 ·intro k e
  simp only [Value.ownBlock, Option.some.injEq] at e
  subst e
  rcases hat with e | e
  ·exact r.nv _ e
  ·exact ⟨Nat.le_trans r.same.size e, hgb⟩
 ·intro k h e
  simp only [Value.ownBlock, Option.some.injEq] at e
  subst e
  rcases hat with e | e
  ·exact r.ap _ h e
  ·have := r.ol.lt h; omega
end Go.Proofs.YtddiabaagpmkgaaDoor

/-! The walk over the reference's pairs (layer 25). -/
namespace Go.Proofs.YtddiabaagpmkgaaDoor
open Go.RowKit Go.Px Go.Px.E7 Go.Px.Co
set_option maxRecDepth 100000 in
set_option maxHeartbeats 4000000 in
theorem rpairs_any (v : Value) (L : List Atom) (p m : Nat) (w : World) (h : Lies w 3 cAtom v L) (hl : L.length ≤ 4096) (hp : p < L.length) (hm : (L.getD p za).num = m) (hm2 : m ≤ 4096) (hr : Prs L m (p + 1)) :
  Calls Tryd.prog 43 #[v, .int .i64 p] w fun e w' => ∃ vl vv, e = .returned (.agg #[vl, vv]) ∧ RHdr w' vl vv (pairsF L m (p + 1)) ∧ Same w w' ∧ (∀ g, vl.ownBlock = some g → w.heap.size ≤ g) ∧ (∀ g, vv.ownBlock = some g → w.heap.size ≤ g) := by
 obtain ⟨va, vc, hve, _, _⟩ := h.slice
 subst hve
 have H := Px.hid h
 have HR := Px.hid hr
 obtain ⟨xb, xo, xc, hve, hxb, hcx⟩ := h.cell p L[p] (by simp [hp])
 simp only [Value.slice.injEq, true_and] at hve
 obtain ⟨rfl, rfl⟩ := hve
 have hpz : (p : Int) < (L.length : Int) := by omega
 have hLp : L[p].num = m := by rw [← hm, List.getD_eq_getElem?_getD, List.getElem?_eq_getElem hp]; rfl
 have hxp : ∀ W, Same w W → W.cell? ⟨xb, xo + p * 3 + 1, none⟩ = some (.int .u64 (m : Nat)) := fun W hW => by
  obtain ⟨yb, yo, yc, hve, hyb, hcy⟩ := (Lies.same H.out hW).cell p L[p] (by simp [hp])
  simp only [Value.slice.injEq, Option.some.injEq, Addr.mk.injEq, true_and, and_true] at hve
  obtain ⟨⟨rfl, rfl⟩, _⟩ := hve
  have x1 := hcy 1 _ rfl
  rw [← Nat.add_assoc] at x1
  rw [← hLp]
  exact x1
 have HXP := Px.hid hxp
 obtain ⟨i0, hi0, hz0, hz1, hz2⟩ := info_parts Tryd.infoAtom
 clear h hr hcx hm hLp hxp
 go_enter Tryd.func43, Tryd.ntmps43
 obtain ⟨W0, hW0⟩ : ∃ W0 : World, W0 = w.alloc (.cells #[.slice none 0 0, .slice none 0 0] 96) := ⟨_, rfl⟩
 have hz0' : W0.heap.size = w.heap.size + 1 := by rw [hW0]; simp
 have hb0 : Blk W0 w.heap.size #[.slice none 0 0, .slice none 0 0] 96 := by rw [hW0]; exact blk_new w _ _
 have hs0 : Same w W0 := by rw [hW0]; exact Fr.alloc (Fr.refl _ w) _
 have hr0 : RHO W0 (W0.alloc (.cells #[.slice none 0 0, .slice none 0 0] 96)) (w.heap.size + 1) (.slice none 0 0) (.slice none 0 0) [] [] := by
  rw [← hz0']
  exact ⟨blk_new W0 _ _, owns_nil _ _ _ _, owns_nil _ _ _ _, Fr.alloc (Fr.refl _ W0) _, nofun, nofun, nofun, Nat.le_refl _⟩
 have HR0 := Px.hid hr0
 have HB0 := Px.hid hb0
 have HS0 := Px.hid hs0
 clear hr0 hb0 hs0
 go_wp2
 rw [← hW0]
 go_loopg [6, 7] m (fun gk t6 t7 wr => ∃ (i next : Nat) (vl vv : Value) (done : Hdr), gk + i = m ∧ t7 = .int .u64 i ∧ t6 = .int .i64 next ∧ next ≤ 4097 ∧ Hid (pairsF L m (p + 1) = done ++ pairsF L gk next ∧ Prs L gk next ∧ done.length = i ∧ RHO W0 wr (w.heap.size + 1) vl vv (done.map Prod.fst) (done.map Prod.snd)))
 case atStart => exact ⟨0, p + 1, _, _, [], rfl, rfl, by go_num, by omega, Px.hid ⟨rfl, HR.out, rfl, HR0.out⟩⟩
 case round =>
  obtain ⟨i, next, vl, vv, done, hgk, rfl, rfl, hn, HS⟩ := hrel
  have xp := HXP.out wr (HS0.out.trans HS.out.2.2.2.same)
  by_cases hlt : i < m
  ·have hltz : (i : Int) < (m : Int) := by omega
   obtain ⟨g', rfl⟩ : ∃ g', gk = g' + 1 := ⟨gk - 1, by omega⟩
   obtain ⟨q, r, hq, hr, hrest⟩ := HS.out.2.1
   have hnq := hq.lt
   have hqr := hr.lt
   have hnl : next < L.length := by omega
   have hql : q < L.length := by omega
   have hnz : (next : Int) < (L.length : Int) := by omega
   have hqz : (q : Int) < (L.length : Int) := by omega
   have hxn : ∀ W, Same w W → W.cell? ⟨xb, xo + next * 3, none⟩ = some (.int .i64 L[next].kind) ∧ W.cell? ⟨xb, xo + next * 3 + 1, none⟩ = some (.int .u64 (L[next].num : Nat)) ∧ W.cell? ⟨xb, xo + next * 3 + 2, none⟩ = some (S L[next].text) := fun W hW => by
    obtain ⟨yb, yo, yc, hve, hyb, hcy⟩ := (Lies.same H.out hW).cell next L[next] (by simp [hnl])
    simp only [Value.slice.injEq, Option.some.injEq, Addr.mk.injEq, true_and, and_true] at hve
    obtain ⟨⟨rfl, rfl⟩, _⟩ := hve
    exact ⟨hcy 0 _ rfl, hcy 1 _ rfl, hcy 2 _ rfl⟩
   have hxq : ∀ W, Same w W → W.cell? ⟨xb, xo + q * 3, none⟩ = some (.int .i64 L[q].kind) ∧ W.cell? ⟨xb, xo + q * 3 + 1, none⟩ = some (.int .u64 (L[q].num : Nat)) ∧ W.cell? ⟨xb, xo + q * 3 + 2, none⟩ = some (S L[q].text) := fun W hW => by
    obtain ⟨yb, yo, yc, hve, hyb, hcy⟩ := (Lies.same H.out hW).cell q L[q] (by simp [hql])
    simp only [Value.slice.injEq, Option.some.injEq, Addr.mk.injEq, true_and, and_true] at hve
    obtain ⟨⟨rfl, rfl⟩, _⟩ := hve
    exact ⟨hcy 0 _ rfl, hcy 1 _ rfl, hcy 2 _ rfl⟩
   have hpf : pairsF L (g' + 1) next = (L[next], L[q]) :: pairsF L g' r := by
    rw [show pairsF L (g' + 1) next = (L.getD next za, L.getD (nx L next) za) :: pairsF L g' (nx L (nx L next)) from rfl]
    rw [hq.nx hl, hr.nx hl, List.getD_eq_getElem?_getD, List.getD_eq_getElem?_getD, List.getElem?_eq_getElem hnl, List.getElem?_eq_getElem hql]
    rfl
   obtain ⟨x, hx⟩ : ∃ x, x = L[next] := ⟨_, rfl⟩
   obtain ⟨y, hy⟩ : ∃ y, y = L[q] := ⟨_, rfl⟩
   rw [← hx] at hxn hpf
   rw [← hy] at hxq hpf
   obtain ⟨x0, x1, x2⟩ := hxn wr (HS0.out.trans HS.out.2.2.2.same)
   have HXQ := Px.hid hxq
   have HPF := Px.hid hpf
   have HQR := Px.hid (And.intro hq (And.intro hr hrest))
   have hlen := HS.out.2.2.1
   have HDL := Px.hid hlen
   have HO := Px.hid HS.out.2.2.2
   obtain ⟨h0, h1⟩ := blk2 HO.out.blk
   obtain ⟨a4, c4, hv4, hc41, hc42, _⟩ := HO.out.ol.len
   rw [List.length_map, hlen] at hv4 hc41
   subst hv4
   unfold maxLen at hc42
   have hbl := HO.out.blk.lt
   have ab : (Value.slice a4 i c4).ownBlock ≠ some (w.heap.size + 1) := fun e => (HO.out.nl _ e).2 rfl
   have f0 : wr.frozen? ⟨w.heap.size + 1, 0, none⟩ = false := HO.out.blk.free 0
   have HOL : Hid (wr.ownsRow 0 62 3 (.slice a4 i c4) i ((done.map Prod.fst).flatMap cAtom)) := Px.hid (by
    have := HO.out.ol
    unfold Owns at this
    rw [List.length_map, hlen] at this
    exact this)
   clear hxn hxq hx hy hpf hq hr hrest hlen
   go_upto_region 6 with fail
   go_cut [] (fun wx => ∃ vl', RHO W0 wx (w.heap.size + 1) vl' vv (done.map Prod.fst ++ [x]) (done.map Prod.snd))
   case first =>
    go_region_law
     ((refine step_append_lies _ (by rfl) _ _ _ (by rfl) 0 62 i0 _ 3 32 Tryd.underlying50 hi0 hz0 hz1 hz2 rfl (by omega) (.slice a4 i c4) i ((done.map Prod.fst).flatMap cAtom) (by rfl) ((HOL.out.alloc _).drew)
        ⟨wr.heap.size, 0, none⟩ 1 1 (cAtom x) (by rfl) (by rfl) (World.news_of_block (cs := #[.int .i64 x.kind, .int .u64 x.num, S x.text]) (t := 62) (fr := (0, 0)) (heap_alloc_new wr _)) (by simp [cAtom, Value.oneCell'])
        (by omega) (by unfold maxLen; omega) (by omega) (by simp) (wr.heap.size + 1) (by simp) ?_; intro gg cap w1 hown1 hgrow hat hlt; have k5 := grown_cell hgrow h0 ab; have e5 := grown_free hgrow h0 f0 ab))
    all_goals (go_wp2_with fail; go_meet; have hg2 := grown_alloc hgrow; have hat2 := hat.imp id (fun e : gg = wr.heap.size + 1 => (by omega : wr.heap.size ≤ gg)); have z := HO.out.pushL (x := x) (g := gg) (cap := cap) (by rw [List.length_map, HDL.out]; exact hown1) hg2 hat2; rw [List.length_map, HDL.out] at z; exact ⟨_, z⟩)
   case rest =>
    obtain ⟨vl', hx1⟩ := hcut
    have HX := Px.hid hx1
    clear hx1 h0 h1 f0 x0 x1 x2 xp HOL ab hc41 hc42 HO
    go_wp2_with fail
    refine (rbehind_any _ L next q _ (Lies.same H.out (HS0.out.trans HX.out.same)) hl HQR.out.1).mono ?_
    rintro e w2 ⟨⟨m2, rfl⟩, hs⟩
    have HX2 := Px.hid (HX.out.sm hs)
    clear hs
    obtain ⟨x0, x1, x2⟩ := HXQ.out w2 (HS0.out.trans HX2.out.same)
    obtain ⟨h0, h1⟩ := blk2 HX2.out.blk
    have f1 : w2.frozen? ⟨w.heap.size + 1, 1, none⟩ = false := HX2.out.blk.free 1
    obtain ⟨a5, c5, hv5, hc51, hc52, _⟩ := HX2.out.ov.len
    rw [List.length_map, HDL.out] at hv5 hc51
    subst hv5
    unfold maxLen at hc52
    have hbl := HX2.out.blk.lt
    have ab : (Value.slice a5 i c5).ownBlock ≠ some (w.heap.size + 1) := fun e => (HX2.out.nv _ e).2 rfl
    have HOL : Hid (w2.ownsRow 0 62 3 (.slice a5 i c5) i ((done.map Prod.snd).flatMap cAtom)) := Px.hid (by
     have := HX2.out.ov
     unfold Owns at this
     rw [List.length_map, HDL.out] at this
     exact this)
    go_upto_region 8 with fail
    go_cut [] (fun wx => ∃ vl' vv', RHO W0 wx (w.heap.size + 1) vl' vv' (done.map Prod.fst ++ [x]) (done.map Prod.snd ++ [y]))
    case first =>
     go_region_law
      ((refine step_append_lies _ (by rfl) _ _ _ (by rfl) 0 62 i0 _ 3 32 Tryd.underlying50 hi0 hz0 hz1 hz2 rfl (by omega) (.slice a5 i c5) i ((done.map Prod.snd).flatMap cAtom) (by rfl) ((HOL.out.alloc _).drew)
         ⟨w2.heap.size, 0, none⟩ 1 1 (cAtom y) (by rfl) (by rfl) (World.news_of_block (cs := #[.int .i64 y.kind, .int .u64 y.num, S y.text]) (t := 62) (fr := (0, 0)) (heap_alloc_new w2 _)) (by simp [cAtom, Value.oneCell'])
         (by omega) (by unfold maxLen; omega) (by omega) (by simp) (w2.heap.size + 1) (by simp) ?_; intro gg cap w1 hown1 hgrow hat hlt; have k5 := grown_cell hgrow h1 ab; have e5 := grown_free hgrow h1 f1 ab))
     all_goals (go_wp2_with fail; go_meet; have hg2 := grown_alloc hgrow; have hat2 := hat.imp id (fun e : gg = w2.heap.size + 1 => (by omega : w2.heap.size ≤ gg)); have z := HX2.out.pushV (x := y) (g := gg) (cap := cap) (by rw [List.length_map, HDL.out]; exact hown1) hg2 hat2; rw [List.length_map, HDL.out] at z; exact ⟨_, _, z⟩)
    case rest =>
     obtain ⟨vl2, vv2, hx1⟩ := hcut
     have HX3 := Px.hid hx1
     clear hx1 h0 h1 f1 x0 x1 x2 HOL ab hc51 hc52 HX2 HX
     go_wp2_with fail
     refine (rbehind_any _ L q r _ (Lies.same H.out (HS0.out.trans HX3.out.same)) hl HQR.out.2.1).mono ?_
     rintro e w4 ⟨⟨m3, rfl⟩, hs⟩
     have HN := Px.hid (HX3.out.sm hs)
     clear hs
     have hrl := HQR.out.2.1.lt
     go_wp2
     go_roundg g'
     case measure => omega
     case rel => exact ⟨i + 1, r, _, _, done ++ [(x, y)], by omega, by go_num, rfl, by omega, Px.hid ⟨by rw [HS.out.1, HPF.out]; simp, HQR.out.2.2, by simp [HDL.out], by simpa using HN.out⟩⟩
  ·have hltz : ¬ (i : Int) < (m : Int) := by omega
   have h0 : gk = 0 := by omega
   subst h0
   have HE := Px.hid (show pairsF L m (p + 1) = done by rw [HS.out.1]; exact List.append_nil _)
   obtain ⟨h0, h1⟩ := blk2 HS.out.2.2.2.blk
   have hb0 : Blk wr w.heap.size #[.slice none 0 0, .slice none 0 0] 96 := Blk.fr HB0.out HS.out.2.2.2.same (fun x => x)
   obtain ⟨a4, c4, hv4, _, _, _⟩ := HS.out.2.2.2.ol.len
   obtain ⟨a5, c5, hv5, _, _, _⟩ := HS.out.2.2.2.ov.len
   have HF := Px.hid (And.intro HS.out.2.2.2.same (And.intro HS.out.2.2.2.ol HS.out.2.2.2.ov))
   have HNL := Px.hid (And.intro HS.out.2.2.2.nl HS.out.2.2.2.nv)
   have HDL : (done.map Prod.fst).length = done.length := List.length_map _
   have HDL2 : (done.map Prod.snd).length = done.length := List.length_map _
   clear HS
   rw [HDL] at hv4
   rw [HDL2] at hv5
   subst hv4
   subst hv5
   have r0 := hb0.free 0
   have r1 := hb0.free 1
   obtain ⟨q0, q1⟩ := blk2 hb0
   have hbl := hb0.lt
   clear hb0
   go_wp2
   rw [HE.out]
   have hnl : ∀ V u : Value, ∀ o1 o2 : Nat, Same w ((wr.setCell ⟨w.heap.size, o1, none⟩ V).setCell ⟨w.heap.size, o2, none⟩ u) := fun V u o1 o2 => Fr.setCell (Fr.setCell (HS0.out.trans HF.out.1) (.inr (Nat.le_refl _)) _) (.inr (Nat.le_refl _)) _
   have ne1 : ∀ g, (Value.slice a4 done.length c4).ownBlock = some g → g ≠ w.heap.size := fun g e h => by
    have := (HNL.out.1 g e).1
    omega
   have ne2 : ∀ g, (Value.slice a5 done.length c5).ownBlock = some g → g ≠ w.heap.size := fun g e h => by
    have := (HNL.out.2 g e).1
    omega
   have o1 := ((HF.out.2.1.setCell (p := ⟨w.heap.size, 0, none⟩) (fun e => ne1 _ e rfl) (.slice a4 done.length c4)).setCell (p := ⟨w.heap.size, 1, none⟩) (fun e => ne1 _ e rfl) (.slice a5 done.length c5)).lies (fun _ => rfl)
   have o2 := ((HF.out.2.2.setCell (p := ⟨w.heap.size, 0, none⟩) (fun e => ne2 _ e rfl) (.slice a4 done.length c4)).setCell (p := ⟨w.heap.size, 1, none⟩) (fun e => ne2 _ e rfl) (.slice a5 done.length c5)).lies (fun _ => rfl)
   have v0 : ((wr.setCell ⟨w.heap.size, 0, none⟩ (.slice a4 done.length c4)).setCell ⟨w.heap.size, 1, none⟩ (.slice a5 done.length c5)).cell? ⟨w.heap.size, 0, none⟩ = some (.slice a4 done.length c4) := by go_simp
   have v1 : ((wr.setCell ⟨w.heap.size, 0, none⟩ (.slice a4 done.length c4)).setCell ⟨w.heap.size, 1, none⟩ (.slice a5 done.length c5)).cell? ⟨w.heap.size, 1, none⟩ = some (.slice a5 done.length c5) := by go_simp
   refine bodyPost_ret (v := .agg #[.slice a4 done.length c4, .slice a5 done.length c5]) (by simp [results, Tryd.results43, go_sem, *]) rfl ⟨_, _, rfl, ⟨o1, o2⟩, hnl _ _ _ _, fun g e => by have := (HNL.out.1 g e).1; omega, fun g e => by have := (HNL.out.2 g e).1; omega⟩
end Go.Proofs.YtddiabaagpmkgaaDoor

/-! The walk over the reference's last (layer 25; printed by gen_cqh.py). -/
namespace Go.Px.Co
theorem row_of_rrow {mac : Bool} {n : Nat} {r : Row} (h : rrow mac n = some r) : r ∈ table := by
 unfold rrow at h
 split at h
 ·cases h
 ·cases mac with
  | true =>
   rw [if_pos rfl] at h
   exact List.mem_of_find?_eq_some h
  | false =>
   rw [if_neg (by decide)] at h
   split at h
   ·cases h
   ·rename_i r' hr
    split at h
    ·cases h
    ·cases h
     exact List.mem_of_find?_eq_some hr
theorem rrow_alg {mac : Bool} {n : Nat} {r : Row} (h : rrow mac n = some r) : r.alg ≠ 0 ∧ r.tag ≤ 64 ∧ r.iv ≤ 16 := by
 have hm := row_of_rrow h
 have : ∀ r ∈ table, r.alg ≠ 0 ∧ r.tag ≤ 64 ∧ r.iv ≤ 16 := by decide
 exact this _ hm
end Go.Px.Co
namespace Go.Proofs.YtddiabaagpmkgaaDoor
open Go.RowKit Go.Px Go.Px.E7 Go.Px.Co
/-- What the reference gives on its way: a code, and an envelope where the code is 0. -/
def GivesR (w : World) (d : Env × Int) (e : Ending) (w' : World) : Prop :=
 ∃ (y : Env) (a : Option Addr) (n c : Nat), e = .returned (.tuple #[.agg (envC y (.slice a n c)), .int .i64 d.2]) ∧ Same w w' ∧ (d.2 = 0 → y = d.1 ∧ Owns w' 59 9 cRec (.slice a n c) d.1.to ∧ (∀ g, (Value.slice a n c).ownBlock = some g → w.heap.size ≤ g) ∧ n = d.1.to.length)
theorem givesR_err {w w' : World} {d : Env × Int} {er : Int} {a : Option Addr} {n c : Nat} (y : Env) (h : d = (zero, er)) (h0 : er ≠ 0) (hs : Same w w') : GivesR w d (.returned (.tuple #[.agg (envC y (.slice a n c)), .int .i64 er])) w' := by
 subst h
 exact ⟨y, a, n, c, rfl, hs, fun e => absurd e h0⟩
/-- The call's blocks. -/
structure LsS (w wx : World) (X : Array Value) (va vb vc vd : Value) (bv : Nat) (a : Atom) : Prop where
 same : Same w wx
 x : Blk wx w.heap.size X 27
 h1 : Blk wx (w.heap.size + 1) #[va, vb] 96
 h2 : Blk wx (w.heap.size + 2) #[vc, vd] 96
 r : Blk wx (w.heap.size + 3) envZ 27
 v : Blk wx bv #[.int .i64 a.kind, .int .u64 (a.num : Nat), S a.text] 62
 far : w.heap.size + 4 ≤ bv
section
variable {w wx wy : World} {X : Array Value} {va vb vc vd : Value} {bv : Nat} {a : Atom}
theorem LsS.sm (h : LsS w wx X va vb vc vd bv a) (hs : Same wx wy) : LsS w wy X va vb vc vd bv a :=
 ⟨h.same.trans hs, h.x.fr hs (fun x => x), h.h1.fr hs (fun x => x), h.h2.fr hs (fun x => x), h.r.fr hs (fun x => x), h.v.fr hs (fun x => x), h.far⟩
theorem LsS.alloc (h : LsS w wx X va vb vc vd bv a) (o : Obj) : LsS w (wx.alloc o) X va vb vc vd bv a := h.sm (Fr.alloc (Fr.refl _ wx) o)
theorem LsS.drewN (h : LsS w wx X va vb vc vd bv a) (n : Nat) : LsS w (wx.drewN n) X va vb vc vd bv a := h.sm (Fr.drewN (Fr.refl _ wx) n)
theorem LsS.putV (h : LsS w wx X va vb vc vd bv a) (y : Atom) : LsS w (((wx.setCell ⟨bv, 0, none⟩ (.int .i64 y.kind)).setCell ⟨bv, 1, none⟩ (.int .u64 (y.num : Nat))).setCell ⟨bv, 2, none⟩ (S y.text)) X va vb vc vd bv y := by
 have hf := h.far
 have o : ∀ {k : Nat} {cs : Array Value} {T : TypeId}, ¬ k = bv → Blk wx k cs T → Blk (((wx.setCell ⟨bv, 0, none⟩ (.int .i64 y.kind)).setCell ⟨bv, 1, none⟩ (.int .u64 (y.num : Nat))).setCell ⟨bv, 2, none⟩ (S y.text)) k cs T := fun hne hk => ((hk.other _ hne).other _ hne).other _ hne
 have z := ((h.v.set 0 (.int .i64 y.kind)).set 1 (.int .u64 (y.num : Nat))).set 2 (S y.text)
 exact ⟨((h.same.setCell (.inr (by show _ ≤ bv; omega)) _).setCell (.inr (by show _ ≤ bv; omega)) _).setCell (.inr (by show _ ≤ bv; omega)) _, o (by omega) h.x, o (by omega) h.h1, o (by omega) h.h2, o (by omega) h.r, by simpa using z, hf⟩
theorem LsS.putX (h : LsS w wx X va vb vc vd bv a) (i : Nat) (u : Value) : LsS w (wx.setCell ⟨w.heap.size, i, none⟩ u) (X.setIfInBounds i u) va vb vc vd bv a := by
 have hf := h.far
 have o : ∀ {k : Nat} {cs : Array Value} {T : TypeId}, ¬ k = w.heap.size → Blk wx k cs T → Blk (wx.setCell ⟨w.heap.size, i, none⟩ u) k cs T := fun hne hk => hk.other _ hne
 exact ⟨h.same.setCell (.inr (by show _ ≤ w.heap.size; omega)) _, h.x.set i u, o (by omega) h.h1, o (by omega) h.h2, o (by omega) h.r, o (by omega) h.v, hf⟩
theorem LsS.cells (h : LsS w wx X va vb vc vd bv a) : wx.cell? ⟨w.heap.size + 1, 0, none⟩ = some va ∧ wx.cell? ⟨w.heap.size + 1, 1, none⟩ = some vb ∧ wx.cell? ⟨w.heap.size + 2, 0, none⟩ = some vc ∧ wx.cell? ⟨w.heap.size + 2, 1, none⟩ = some vd :=
 ⟨h.h1.cell 0 rfl, h.h1.cell 1 rfl, h.h2.cell 0 rfl, h.h2.cell 1 rfl⟩
theorem LsS.lts (h : LsS w wx X va vb vc vd bv a) : w.heap.size < wx.heap.size ∧ w.heap.size + 1 < wx.heap.size ∧ w.heap.size + 2 < wx.heap.size ∧ w.heap.size + 3 < wx.heap.size ∧ bv < wx.heap.size := ⟨h.x.lt, h.h1.lt, h.h2.lt, h.r.lt, h.v.lt⟩
theorem LsS.res (h : LsS w wx X va vb vc vd bv a) : Blk wx (w.heap.size + 3) #[.int .i64 0, .int .i64 0, .slice none 0 0, .string ByteArray.empty, .string ByteArray.empty, .string ByteArray.empty, .string ByteArray.empty, .string ByteArray.empty, .string ByteArray.empty] 27 := h.r
end
/-- The call's first blocks. -/
structure LsW (w wx : World) (X : Array Value) (va vb vc vd : Value) : Prop where
 same : Same w wx
 x : Blk wx w.heap.size X 27
 h1 : Blk wx (w.heap.size + 1) #[va, vb] 96
 h2 : Blk wx (w.heap.size + 2) #[vc, vd] 96
 r : Blk wx (w.heap.size + 3) envZ 27
theorem LsW.sm {w wx wy : World} {X : Array Value} {va vb vc vd : Value} (h : LsW w wx X va vb vc vd) (hs : Same wx wy) : LsW w wy X va vb vc vd :=
 ⟨h.same.trans hs, h.x.fr hs (fun x => x), h.h1.fr hs (fun x => x), h.h2.fr hs (fun x => x), h.r.fr hs (fun x => x)⟩
theorem LsW.atom {w wx : World} {X : Array Value} {va vb vc vd : Value} (h : LsW w wx X va vb vc vd) (a : Atom) : LsS w (wx.alloc (.cells #[.int .i64 a.kind, .int .u64 (a.num : Nat), S a.text] 62)) X va vb vc vd wx.heap.size a :=
 ⟨h.same.alloc _, h.x.alloc _, h.h1.alloc _, h.h2.alloc _, h.r.alloc _, blk_new wx _ _, h.r.lt⟩
theorem blk5 {w : World} {b : Nat} {T : TypeId} {a0 a1 a2 a3 a4 : Value} (h : Blk w b #[a0, a1, a2, a3, a4] T) : w.cell? ⟨b, 0, none⟩ = some a0 ∧ w.cell? ⟨b, 1, none⟩ = some a1 ∧ w.cell? ⟨b, 2, none⟩ = some a2 ∧ w.cell? ⟨b, 3, none⟩ = some a3 ∧ w.cell? ⟨b, 4, none⟩ = some a4 :=
 ⟨h.cell 0 rfl, h.cell 1 rfl, h.cell 2 rfl, h.cell 3 rfl, h.cell 4 rfl⟩
end Go.Proofs.YtddiabaagpmkgaaDoor

/-! The walk over the reference's last (layer 25; printed by gen_cqh.py). -/
namespace Go.Proofs.YtddiabaagpmkgaaDoor
open Go.RowKit Go.Px Go.Px.E7 Go.Px.Co
set_option maxRecDepth 100000 in
set_option maxHeartbeats 40000000 in
theorem rlast_mac (hd lo ci tg : Bytes) (v1 v2 v3 v4 : Value) (a b : Hdr) (w : World) (ha : RHdr w v1 v2 a) (hb : RHdr w v3 v4 b) (hl : a.length ≤ 10000) (hl2 : b.length ≤ 10000) (hn : ∀ p ∈ a ++ b, p.2.num < 18446744073709551616) (hci : ci.length ≤ 9223372036854775807) :
  Calls Tryd.prog 46 #[.agg #[.int .i64 6, .int .i64 0, .slice none 0 0, S hd, S lo, S [], S [], S ci, S tg], .agg #[v1, v2], .agg #[v3, v4]] w (GivesR w (Co.last true hd lo ci tg (a ++ b))) := by
 have HB := Px.hid (show ∀ (n : Nat) (W : World), Same w W → Calls Tryd.prog 66 #[.agg #[v1, v2], .agg #[v3, v4], .int .u64 (n : Nat)] W fun e w' => e = .returned (fndV (Co.find (a ++ b) n)) ∧ Same W w' from fun n W hW => rboth_any v1 v2 v3 v4 a b n W (ha.same hW) (hb.same hW) hl hl2)
 have HM := Px.hid (show Co.last true hd lo ci tg (a ++ b) = match Co.find (a ++ b) 1 with
  | none => (zero, 9)
  | some v => if v.kind ≠ 0 then (zero, 11) else match row true v.num with
   | none => (zero, 11)
   | some r => if badName (Co.find (a ++ b) 4) = true then (zero, 9) else if true = true then (if tg.length ≠ r.tag then (zero, 9) else if 70000 < ci.length then (zero, 10) else (⟨6, r.alg, [direct (nameOf (Co.find (a ++ b) 4))], hd, lo, [], [], ci, tg⟩, 0)) else match Co.find (a ++ b) 5 with
    | none => (zero, 9)
    | some v => if v.kind ≠ 2 ∨ v.text.length ≠ r.iv ∨ ci.length < r.tag then (zero, 9) else if 70000 < ci.length - r.tag ∨ (65536 ≤ ci.length - r.tag ∧ r.iv = 13) then (zero, 10)
       else (⟨5, r.alg, [direct (nameOf (Co.find (a ++ b) 4))], hd, lo, [], v.text, ci.take (ci.length - r.tag), ci.drop (ci.length - r.tag)⟩, 0) from rfl)
 have HNN := Px.hid (And.intro hn hci)
 obtain ⟨la, lc, va, vc, rfl, rfl⟩ := ha.lit
 obtain ⟨lb, ld, vb, vd, rfl, rfl⟩ := hb.lit
 clear ha hb hn hl hl2
 obtain ⟨R, hR⟩ : ∃ R, R = Co.last true hd lo ci tg (a ++ b) := ⟨_, rfl⟩
 rw [← hR] at HM ⊢
 clear hR
 have h0 : LsW w ((((w.alloc (.cells #[.int .i64 6, .int .i64 0, .slice none 0 0, S hd, S lo, S [], S [], S ci, S tg] 27)).alloc (.cells #[.slice la a.length lc, .slice va a.length vc] 96)).alloc (.cells #[.slice lb b.length ld, .slice vb b.length vd] 96)).alloc (.cells envZ 27)) #[.int .i64 6, .int .i64 0, .slice none 0 0, S hd, S lo, S [], S [], S ci, S tg] (.slice la a.length lc) (.slice va a.length vc) (.slice lb b.length ld) (.slice vb b.length vd) := by
  refine ⟨Fr.alloc (Fr.alloc (Fr.alloc (Fr.alloc (Fr.refl _ w) _) _) _) _, Blk.alloc (Blk.alloc (Blk.alloc (blk_new w _ _) _) _) _, Blk.alloc (Blk.alloc ?_ _) _, Blk.alloc ?_ _, ?_⟩
  all_goals
   refine (show ∀ (W : World) (k : Nat) (cs : Array Value) (T : TypeId), W.heap.size = k → Blk (W.alloc (.cells cs T (0, 0))) k cs T from fun W k cs T h => by subst h; exact blk_new W cs T) _ _ _ _ ?_
   simp
 have H0 := Px.hid h0
 clear h0
 go_enter Tryd.func46, Tryd.ntmps46
 obtain ⟨o1, ho1⟩ : ∃ o, o = Co.find (a ++ b) 1 := ⟨_, rfl⟩
 have HO1 := Px.hid ho1
 rw [← ho1] at HM
 clear ho1
 go_upto_region 1 with fail
 go_cut [8, 9] (fun t8 t9 wx => ∃ bv, t8 = .pointer (some ⟨bv, 0, none⟩) ∧ t9 = .bool o1.isSome ∧ LsS w wx #[.int .i64 6, .int .i64 0, .slice none 0 0, S hd, S lo, S [], S [], S ci, S tg] (.slice la a.length lc) (.slice va a.length vc) (.slice lb b.length ld) (.slice vb b.length vd) bv (o1.getD za))
 case first =>
  go_wp2_with fail
  refine (HB.out 1 _ H0.out.same).mono ?_
  rintro e w1 ⟨rfl, hs⟩
  have HS := Px.hid hs
  clear hs
  rw [← HO1.out]
  clear HO1
  have hB0 : LsW w w1 #[.int .i64 6, .int .i64 0, .slice none 0 0, S hd, S lo, S [], S [], S ci, S tg] (.slice la a.length lc) (.slice va a.length vc) (.slice lb b.length ld) (.slice vb b.length vd) := H0.out.sm HS.out
  cases o1 with
  | none =>
   rw [show fndV none = .tuple #[.agg #[.int .i64 0, .int .u64 0, S []], .bool false] from rfl]
   go_wp2_with fail
   go_meet
   exact ⟨w1.heap.size, rfl, rfl, hB0.atom za⟩
  | some y =>
   obtain ⟨yk, yn, yt⟩ := y
   rw [show fndV (some (⟨yk, yn, yt⟩ : Atom)) = .tuple #[.agg #[.int .i64 yk, .int .u64 (yn : Nat), S yt], .bool true] from rfl]
   go_wp2_with fail
   go_meet
   exact ⟨w1.heap.size, rfl, rfl, hB0.atom ⟨yk, yn, yt⟩⟩
 case rest =>
  obtain ⟨bv, rfl, rfl, hL⟩ := hcut
  have HL := Px.hid hL
  clear hL H0
  obtain ⟨c0, c1, c2, c3, c4, c5, c6, c7, c8, d0, d1, d2, d3, d4, d5, d6, d7, d8⟩ := blk9 (show Blk wc w.heap.size #[.int .i64 6, .int .i64 0, .slice none 0 0, S hd, S lo, S [], S [], S ci, S tg] 27 from HL.out.x)
  obtain ⟨e0, e1, e2, e3, e4, e5, e6, e7, e8, f0, f1, f2, f3, f4, f5, f6, f7, f8⟩ := blk9 HL.out.res
  obtain ⟨p0, p1, p2, p3⟩ := HL.out.cells
  obtain ⟨k0, k1, k2, l0, l1, l2⟩ := blk3 HL.out.v
  obtain ⟨n0, n1, n2, n3, nv⟩ := HL.out.lts
  have nf := HL.out.far
  cases o1 with
  | none =>
   have HE : Hid (R = (zero, 9)) := Px.hid HM.out
   go_wp2_with fail
   try go_quiet (fail)
   go_wp2
   refine bodyPost_ret (v := .tuple #[.agg #[.int .i64 6, .int .i64 0, .slice none 0 0, S hd, S lo, S [], S [], S ci, S tg], .int .i64 9]) (by simp [results, Tryd.results46, go_sem, *]) rfl (givesR_err ⟨6, 0, [], hd, lo, [], [], ci, tg⟩ HE.out (by decide) ?_)
   repeat' first
    | refine Fr.setCell ?_ (.inr (by dsimp only; omega)) _
    | refine Fr.alloc ?_ _
    | refine Fr.drewN ?_ _
    | exact HL.out.same
  | some v =>
   obtain ⟨vk, vn, vt⟩ := v
   have HM : Hid (R = if vk ≠ 0 then (zero, (11 : Int)) else match row true vn with
    | none => (zero, 11)
    | some r => if badName (Co.find (a ++ b) 4) = true then (zero, 9) else (if tg.length ≠ r.tag then (zero, 9) else if 70000 < ci.length then (zero, 10) else (⟨6, r.alg, [direct (nameOf (Co.find (a ++ b) 4))], hd, lo, [], [], ci, tg⟩, 0))) := Px.hid HM.out
   have hnb : vn < 18446744073709551616 := by
    obtain ⟨p, hp, e⟩ := find_mem HO1.out.symm
    have := HNN.out.1 p hp
    rw [e] at this
    exact this
   have HR := Px.hid (show ∀ W : World, Calls Tryd.prog 67 #[.int .i64 6, .int .u64 (vn : Nat)] W fun e w' => e = .returned (rrowV (rrow true vn)) ∧ Same W w' from fun W => rrow_any true vn W hnb)
   have HRW := Px.hid (row_rrow true vn)
   clear HO1 hnb
   change Hid (LsS w wc _ _ _ _ _ bv ⟨vk, vn, vt⟩) at HL
   obtain ⟨rr, hrr⟩ : ∃ rr, rr = rrow true vn := ⟨_, rfl⟩
   rw [← hrr] at HRW
   have HRR := Px.hid hrr
   clear hrr
   go_upto_region 4 with fail
   go_cut [10] (fun t10 wx => ∃ br, t10 = .pointer (some ⟨br, 0, none⟩) ∧ bv < br ∧ LsS w wx #[.int .i64 6, .int .i64 0, .slice none 0 0, S hd, S lo, S [], S [], S ci, S tg] (.slice la a.length lc) (.slice va a.length vc) (.slice lb b.length ld) (.slice vb b.length vd) bv ⟨vk, vn, vt⟩ ∧ Blk wx br #[.int .i64 (rr.getD zr).alg, .int .i64 ((rr.getD zr).key : Nat), .int .i64 ((rr.getD zr).iv : Nat), .int .i64 ((rr.getD zr).tag : Nat), .int .i64 ((rr.getD zr).layer : Nat)] 71)
   case first =>
    go_wp2_with fail
    refine (HR.out _).mono ?_
    rintro e w2 ⟨rfl, hs⟩
    have hL2 := HL.out.sm hs
    have HL2 := Px.hid hL2
    have nw2 := hL2.v.lt
    clear hs hL2 c0 c1 c2 c3 c4 c5 c6 c7 c8 d0 d1 d2 d3 d4 d5 d6 d7 d8 e0 e1 e2 e3 e4 e5 e6 e7 e8 f0 f1 f2 f3 f4 f5 f6 f7 f8 p0 p1 p2 p3 k0 k1 k2 l0 l1 l2 n0 n1 n2 n3 nv nf
    rw [← HRR.out]
    clear HRR
    obtain ⟨q, hq⟩ : ∃ q, q = rr.getD zr := ⟨_, rfl⟩
    unfold rrowV
    rw [← hq]
    have HQQ := Px.hid hq
    clear hq
    go_wp2_with fail
    go_meet
    have hq := HQQ.out
    subst hq
    exact ⟨w2.heap.size, rfl, nw2, HL2.out.alloc _, blk_new w2 _ _⟩
   case rest =>
    obtain ⟨br, rfl, hbr, hL, hrw⟩ := hcut
    have HL := Px.hid hL
    have HW := Px.hid hrw
    clear hL c0 c1 c2 c3 c4 c5 c6 c7 c8 d0 d1 d2 d3 d4 d5 d6 d7 d8 e0 e1 e2 e3 e4 e5 e6 e7 e8 f0 f1 f2 f3 f4 f5 f6 f7 f8 p0 p1 p2 p3 k0 k1 k2 l0 l1 l2 n0 n1 n2 n3 nv nf HR
    obtain ⟨c0, c1, c2, c3, c4, c5, c6, c7, c8, d0, d1, d2, d3, d4, d5, d6, d7, d8⟩ := blk9 (show Blk wc w.heap.size #[.int .i64 6, .int .i64 0, .slice none 0 0, S hd, S lo, S [], S [], S ci, S tg] 27 from HL.out.x)
    obtain ⟨e0, e1, e2, e3, e4, e5, e6, e7, e8, f0, f1, f2, f3, f4, f5, f6, f7, f8⟩ := blk9 HL.out.res
    obtain ⟨p0, p1, p2, p3⟩ := HL.out.cells
    obtain ⟨k0, k1, k2, l0, l1, l2⟩ := blk3 HL.out.v
    obtain ⟨n0, n1, n2, n3, nv⟩ := HL.out.lts
    have nf := HL.out.far
    by_cases hk : vk = 0
    ·subst hk
     cases rr with
     | none =>
      have HE : Hid (R = (zero, 11)) := Px.hid (by rw [HM.out, if_neg (fun e => e rfl), HRW.out]; rfl)
      have z0 : wc.cell? ⟨br, 0, none⟩ = some (.int .i64 0) := Blk.cell hrw 0 rfl
      have nr := Blk.lt hrw
      clear hrw
      go_wp2_with fail
      try go_quiet (fail)
      go_wp2
      refine bodyPost_ret (v := .tuple #[.agg #[.int .i64 6, .int .i64 0, .slice none 0 0, S hd, S lo, S [], S [], S ci, S tg], .int .i64 11]) (by simp [results, Tryd.results46, go_sem, *]) rfl (givesR_err ⟨6, 0, [], hd, lo, [], [], ci, tg⟩ HE.out (by decide) ?_)
      repeat' first
       | refine Fr.setCell ?_ (.inr (by dsimp only; omega)) _
       | refine Fr.alloc ?_ _
       | refine Fr.drewN ?_ _
       | exact HL.out.same
     | some r =>
      change Blk wc br #[.int .i64 r.alg, .int .i64 (r.key : Nat), .int .i64 (r.iv : Nat), .int .i64 (r.tag : Nat), .int .i64 (r.layer : Nat)] 71 at hrw
      have HW := Px.hid hrw
      clear hrw
      obtain ⟨z0, z1, z2, z3, z4⟩ := blk5 HW.out
      have nr := Blk.lt HW.out
      obtain ⟨hal, htg, hi16⟩ := rrow_alg HRR.out.symm
      have hal0 : (r.alg == 0) = false := by simpa using hal
      have HTG := Px.hid (And.intro htg hi16)
      clear htg hi16
      by_cases hi : r.iv = 0
      ·rw [hi] at z2
       have HM : Hid (R = if badName (Co.find (a ++ b) 4) = true then (zero, (9 : Int)) else (if tg.length ≠ r.tag then (zero, 9) else if 70000 < ci.length then (zero, 10) else (⟨6, r.alg, [direct (nameOf (Co.find (a ++ b) 4))], hd, lo, [], [], ci, tg⟩, 0))) := Px.hid (by
        rw [HM.out, if_neg (fun e => e rfl), HRW.out]
        unfold pickS
        simp [hi])
       obtain ⟨o4, ho4⟩ : ∃ o, o = Co.find (a ++ b) 4 := ⟨_, rfl⟩
       have HO := Px.hid ho4
       rw [← ho4] at HM
       clear ho4 HRW HRR
       have HI := Px.hid hi
       clear hi
       go_upto_region 8 with fail
       obtain ⟨wf, rfl⟩ : ∃ wf : World, wf = wc := ⟨_, rfl⟩
       have HN := Px.hid (show LsS w (wf.setCell ⟨w.heap.size, 1, none⟩ (.int .i64 r.alg)) #[.int .i64 6, .int .i64 r.alg, .slice none 0 0, S hd, S lo, S [], S [], S ci, S tg] (.slice la a.length lc) (.slice va a.length vc) (.slice lb b.length ld) (.slice vb b.length vd) bv ⟨0, vn, vt⟩ ∧ Blk (wf.setCell ⟨w.heap.size, 1, none⟩ (.int .i64 r.alg)) br #[.int .i64 r.alg, .int .i64 (r.key : Nat), .int .i64 (r.iv : Nat), .int .i64 (r.tag : Nat), .int .i64 (r.layer : Nat)] 71 from ⟨by simpa using HL.out.putX 1 (.int .i64 r.alg), HW.out.other _ (by show ¬ br = w.heap.size; omega)⟩)
       clear HL HW
       go_cut [9] (fun t9 wx => t9 = .bool o4.isSome ∧ LsS w wx #[.int .i64 6, .int .i64 r.alg, .slice none 0 0, S hd, S lo, S [], S [], S ci, S tg] (.slice la a.length lc) (.slice va a.length vc) (.slice lb b.length ld) (.slice vb b.length vd) bv (o4.getD za) ∧ Blk wx br #[.int .i64 r.alg, .int .i64 (r.key : Nat), .int .i64 (r.iv : Nat), .int .i64 (r.tag : Nat), .int .i64 (r.layer : Nat)] 71)
       case first =>
        go_wp2_with fail
        refine (HB.out 4 _ HN.out.1.same).mono ?_
        rintro e w3 ⟨rfl, hs⟩
        have HQ := Px.hid (And.intro (HN.out.1.sm hs) (HN.out.2))
        have HSM := Px.hid hs
        clear hs c0 c1 c2 c3 c4 c5 c6 c7 c8 d0 d1 d2 d3 d4 d5 d6 d7 d8 e0 e1 e2 e3 e4 e5 e6 e7 e8 f0 f1 f2 f3 f4 f5 f6 f7 f8 p0 p1 p2 p3 k0 k1 k2 l0 l1 l2 n0 n1 n2 n3 nv nf z0 z1 z2 z3 z4 nr
        obtain ⟨k0, k1, k2, l0, l1, l2⟩ := blk3 HQ.out.1.v
        have nv := HQ.out.1.v.lt
        rw [← HO.out]
        clear HO
        cases o4 with
        | none =>
         rw [show fndV none = .tuple #[.agg #[.int .i64 0, .int .u64 0, S []], .bool false] from rfl]
         go_wp2_with fail
         go_meet
         exact ⟨rfl, HQ.out.1.putV za, ((Blk.fr HQ.out.2 HSM.out (fun x => x)).other _ (by show ¬ br = bv; omega) |>.other _ (by show ¬ br = bv; omega)).other _ (by show ¬ br = bv; omega)⟩
        | some y =>
         obtain ⟨yk, yn, yt⟩ := y
         rw [show fndV (some (⟨yk, yn, yt⟩ : Atom)) = .tuple #[.agg #[.int .i64 yk, .int .u64 (yn : Nat), S yt], .bool true] from rfl]
         go_wp2_with fail
         go_meet
         exact ⟨rfl, HQ.out.1.putV ⟨yk, yn, yt⟩, ((Blk.fr HQ.out.2 HSM.out (fun x => x)).other _ (by show ¬ br = bv; omega) |>.other _ (by show ¬ br = bv; omega)).other _ (by show ¬ br = bv; omega)⟩
       case rest =>
        obtain ⟨rfl, hL, hrw⟩ := hcut
        have HL := Px.hid hL
        have HW := Px.hid hrw
        clear hL hrw HN c0 c1 c2 c3 c4 c5 c6 c7 c8 d0 d1 d2 d3 d4 d5 d6 d7 d8 e0 e1 e2 e3 e4 e5 e6 e7 e8 f0 f1 f2 f3 f4 f5 f6 f7 f8 p0 p1 p2 p3 k0 k1 k2 l0 l1 l2 n0 n1 n2 n3 nv nf z0 z1 z2 z3 z4 nr
        obtain ⟨c0, c1, c2, c3, c4, c5, c6, c7, c8, d0, d1, d2, d3, d4, d5, d6, d7, d8⟩ := blk9 (show Blk wc w.heap.size #[.int .i64 6, .int .i64 r.alg, .slice none 0 0, S hd, S lo, S [], S [], S ci, S tg] 27 from HL.out.x)
        obtain ⟨e0, e1, e2, e3, e4, e5, e6, e7, e8, f0, f1, f2, f3, f4, f5, f6, f7, f8⟩ := blk9 HL.out.res
        obtain ⟨p0, p1, p2, p3⟩ := HL.out.cells
        obtain ⟨k0, k1, k2, l0, l1, l2⟩ := blk3 HL.out.v
        obtain ⟨n0, n1, n2, n3, nv⟩ := HL.out.lts
        have nf := HL.out.far
        obtain ⟨z0, z1, z2, z3, z4⟩ := blk5 HW.out
        have nr := Blk.lt HW.out
        go_upto_region 9 with fail
        go_cut [70] (fun t70 wx => t70 = .bool (badName o4) ∧ LsS w wx #[.int .i64 6, .int .i64 r.alg, .slice none 0 0, S hd, S lo, S [], S [], S ci, S tg] (.slice la a.length lc) (.slice va a.length vc) (.slice lb b.length ld) (.slice vb b.length vd) bv (o4.getD za) ∧ Blk wx br #[.int .i64 r.alg, .int .i64 (r.key : Nat), .int .i64 (r.iv : Nat), .int .i64 (r.tag : Nat), .int .i64 (r.layer : Nat)] 71)
        case first =>
         cases o4 with
         | none =>
          go_wp2_with fail
          try go_quiet (fail)
          go_wp2_with fail
          go_meet
          exact ⟨rfl, HL.out, HW.out⟩
         | some y =>
          obtain ⟨yk, yn, yt⟩ := y
          by_cases hk2 : yk = 2
          ·subst hk2
           by_cases hl1 : yt.length < 1
           ·have hz : (yt.length : Int) < 1 := by omega
            have HE := Px.hid (show badName (some (⟨2, yn, yt⟩ : Atom)) = true by
             have : yt = [] := List.length_eq_zero_iff.1 (by omega)
             subst this
             rfl)
            clear hl1
            go_wp2_with fail
            try go_quiet (fail)
            go_wp2_with fail
            go_meet
            exact ⟨by rw [HE.out], HL.out, HW.out⟩
           ·have hz : ¬ (yt.length : Int) < 1 := by omega
            have HE := Px.hid (show badName (some (⟨2, yn, yt⟩ : Atom)) = decide (128 < yt.length) by
             have : (yt == []) = false := by
              cases yt with
              | nil => exact absurd (show ([] : Bytes).length < 1 from Nat.lt_succ_self 0) hl1
              | cons c t => rfl
             unfold badName
             simp [this])
            by_cases h128 : 128 < yt.length
            ·have hz2 : (128 : Int) < (yt.length : Int) := by omega
             have HE2 : Hid (badName (some (⟨2, yn, yt⟩ : Atom)) = true) := Px.hid (by rw [HE.out]; simp [h128])
             clear hl1 h128
             go_wp2_with fail
             try go_quiet (fail)
             go_wp2_with fail
             go_meet
             exact ⟨by rw [HE2.out], HL.out, HW.out⟩
            ·have hz2 : ¬ (128 : Int) < (yt.length : Int) := by omega
             have HE2 : Hid (badName (some (⟨2, yn, yt⟩ : Atom)) = false) := Px.hid (by rw [HE.out]; simp; omega)
             clear hl1 h128
             go_wp2_with fail
             try go_quiet (fail)
             go_wp2_with fail
             go_meet
             exact ⟨by rw [HE2.out], HL.out, HW.out⟩
          ·have hz : (yk != 2) = true := by simpa using hk2
           have hz2 : ¬ yk = 2 := hk2
           have HE := Px.hid (show badName (some (⟨yk, yn, yt⟩ : Atom)) = true by unfold badName; simp [hk2])
           clear hk2
           go_wp2_with fail
           try go_quiet (fail)
           go_wp2_with fail
           go_meet
           exact ⟨by rw [HE.out], HL.out, HW.out⟩
        case rest =>
         obtain ⟨rfl, hL, hrw⟩ := hcut
         have HL := Px.hid hL
         have HW := Px.hid hrw
         clear hL hrw c0 c1 c2 c3 c4 c5 c6 c7 c8 d0 d1 d2 d3 d4 d5 d6 d7 d8 e0 e1 e2 e3 e4 e5 e6 e7 e8 f0 f1 f2 f3 f4 f5 f6 f7 f8 p0 p1 p2 p3 k0 k1 k2 l0 l1 l2 n0 n1 n2 n3 nv nf z0 z1 z2 z3 z4 nr
         obtain ⟨c0, c1, c2, c3, c4, c5, c6, c7, c8, d0, d1, d2, d3, d4, d5, d6, d7, d8⟩ := blk9 (show Blk wc w.heap.size #[.int .i64 6, .int .i64 r.alg, .slice none 0 0, S hd, S lo, S [], S [], S ci, S tg] 27 from HL.out.x)
         obtain ⟨e0, e1, e2, e3, e4, e5, e6, e7, e8, f0, f1, f2, f3, f4, f5, f6, f7, f8⟩ := blk9 HL.out.res
         obtain ⟨p0, p1, p2, p3⟩ := HL.out.cells
         obtain ⟨k0, k1, k2, l0, l1, l2⟩ := blk3 HL.out.v
         obtain ⟨n0, n1, n2, n3, nv⟩ := HL.out.lts
         have nf := HL.out.far
         obtain ⟨z0, z1, z2, z3, z4⟩ := blk5 HW.out
         have nr := Blk.lt HW.out
         obtain ⟨bn, hbn⟩ : ∃ bn, bn = badName o4 := ⟨_, rfl⟩
         rw [← hbn] at HM ⊢
         clear hbn
         cases bn with
         | true =>
          have HE : Hid (R = (zero, 9)) := Px.hid HM.out
          go_wp2_with fail
          try go_quiet (fail)
          go_wp2
          refine bodyPost_ret (v := .tuple #[.agg #[.int .i64 6, .int .i64 r.alg, .slice none 0 0, S hd, S lo, S [], S [], S ci, S tg], .int .i64 9]) (by simp [results, Tryd.results46, go_sem, *]) rfl (givesR_err ⟨6, r.alg, [], hd, lo, [], [], ci, tg⟩ HE.out (by decide) ?_)
          repeat' first
           | refine Fr.setCell ?_ (.inr (by dsimp only; omega)) _
           | refine Fr.alloc ?_ _
           | refine Fr.drewN ?_ _
           | exact HL.out.same
         | false =>
          obtain ⟨nm, hnm⟩ : ∃ nm, nm = nameOf o4 := ⟨_, rfl⟩
          have HM : Hid (R = (if tg.length ≠ r.tag then (zero, 9) else if 70000 < ci.length then (zero, 10) else (⟨6, r.alg, [direct nm], hd, lo, [], [], ci, tg⟩, 0))) := Px.hid (by rw [hnm]; exact HM.out)
          have hnt : (o4.getD za).text = nm := by rw [hnm]; cases o4 <;> rfl
          obtain ⟨y4, hy4⟩ : ∃ y, y = o4.getD za := ⟨_, rfl⟩
          rw [← hy4] at HL hnt k0 k1 k2
          rw [hnt] at k2
          clear hnm hy4 hnt
          go_upto_region 11 with fail
          obtain ⟨wf, rfl⟩ : ∃ wf : World, wf = wc := ⟨_, rfl⟩
          go_cut [] (fun wx => ∃ g, w.heap.size + 4 ≤ g ∧ g ≠ bv ∧ g ≠ br ∧ LsS w wx #[.int .i64 6, .int .i64 r.alg, .slice (some ⟨g, 0, none⟩) 1 1, S hd, S lo, S [], S [], S ci, S tg] (.slice la a.length lc) (.slice va a.length vc) (.slice lb b.length ld) (.slice vb b.length vd) bv y4 ∧ Blk wx br #[.int .i64 r.alg, .int .i64 (r.key : Nat), .int .i64 (r.iv : Nat), .int .i64 (r.tag : Nat), .int .i64 (r.layer : Nat)] 71 ∧ Blk wx g (cRec (direct nm)).toArray 59)
          case first =>
           go_wp2_with fail
           go_meet
           have z := (HL.out.putX 2 (.slice (some ⟨wf.heap.size, 0, none⟩) 1 1)).alloc (.cells (cRec (direct nm)).toArray 59 (0, 0))
           refine ⟨wf.heap.size, by omega, by omega, by omega, by simpa [cRec, direct] using z, (HW.out.other _ (by show ¬ br = w.heap.size; omega)).alloc _, blk_new_set wf _ _ _ _⟩
          case rest =>
           obtain ⟨g, hg4, hgv, hgr, hL, hrw, hgb⟩ := hcut
           have HL := Px.hid hL
           have HW := Px.hid hrw
           have HG := Px.hid hgb
           have ng := hgb.lt
           clear hL hrw hgb c0 c1 c2 c3 c4 c5 c6 c7 c8 d0 d1 d2 d3 d4 d5 d6 d7 d8 e0 e1 e2 e3 e4 e5 e6 e7 e8 f0 f1 f2 f3 f4 f5 f6 f7 f8 p0 p1 p2 p3 k0 k1 k2 l0 l1 l2 n0 n1 n2 n3 nv nf z0 z1 z2 z3 z4 nr
           obtain ⟨c0, c1, c2, c3, c4, c5, c6, c7, c8, d0, d1, d2, d3, d4, d5, d6, d7, d8⟩ := blk9 (show Blk wc w.heap.size #[.int .i64 6, .int .i64 r.alg, .slice (some ⟨g, 0, none⟩) 1 1, S hd, S lo, S [], S [], S ci, S tg] 27 from HL.out.x)
           obtain ⟨e0, e1, e2, e3, e4, e5, e6, e7, e8, f0, f1, f2, f3, f4, f5, f6, f7, f8⟩ := blk9 HL.out.res
           obtain ⟨p0, p1, p2, p3⟩ := HL.out.cells
           obtain ⟨k0, k1, k2, l0, l1, l2⟩ := blk3 HL.out.v
           obtain ⟨n0, n1, n2, n3, nv⟩ := HL.out.lts
           have nf := HL.out.far
           obtain ⟨z0, z1, z2, z3, z4⟩ := blk5 HW.out
           have nr := Blk.lt HW.out
           by_cases ht : tg.length = r.tag
           ·have htz : (tg.length : Int) = (r.tag : Int) := by omega
            by_cases h7 : 70000 < ci.length
            ·have h7z : (70000 : Int) < (ci.length : Int) := by omega
             have HE : Hid (R = (zero, 10)) := Px.hid (by rw [HM.out, if_neg (fun e => e ht), if_pos h7])
             clear ht h7
             go_wp2_with fail
             try go_quiet (fail)
             go_wp2
             refine bodyPost_ret (v := .tuple #[.agg #[.int .i64 6, .int .i64 r.alg, .slice (some ⟨g, 0, none⟩) 1 1, S hd, S lo, S [], S [], S ci, S tg], .int .i64 10]) (by simp [results, Tryd.results46, go_sem, *]) rfl (givesR_err ⟨6, r.alg, [], hd, lo, [], [], ci, tg⟩ HE.out (by decide) ?_)
             repeat' first
              | refine Fr.setCell ?_ (.inr (by dsimp only; omega)) _
              | refine Fr.alloc ?_ _
              | refine Fr.drewN ?_ _
              | exact HL.out.same
            ·have h7z : ¬ (70000 : Int) < (ci.length : Int) := by omega
             have HE : Hid (R = (⟨6, r.alg, [direct nm], hd, lo, [], [], ci, tg⟩, 0)) := Px.hid (by rw [HM.out, if_neg (fun e => e ht), if_neg h7])
             clear ht h7
             go_wp2_with fail
             try go_quiet (fail)
             go_wp2
             refine bodyPost_ret (v := .tuple #[.agg #[.int .i64 6, .int .i64 r.alg, .slice (some ⟨g, 0, none⟩) 1 1, S hd, S lo, S [], S [], S ci, S tg], .int .i64 0]) (by simp [results, Tryd.results46, go_sem, *]) rfl ?_
             rw [HE.out]
             refine ⟨⟨6, r.alg, [direct nm], hd, lo, [], [], ci, tg⟩, _, _, _, rfl, ?_, fun _ => ⟨rfl, owns_rec1 ?_, fun k e => ?_, rfl⟩⟩
             ·repeat' first
               | refine Fr.setCell ?_ (.inr (by dsimp only; omega)) _
               | refine Fr.alloc ?_ _
               | refine Fr.drewN ?_ _
               | exact HL.out.same
             ·have hne : ¬ g = w.heap.size + 1 + 1 + 1 := by omega
              exact ((((((((HG.out.other _ hne).other _ hne).other _ hne).other _ hne).other _ hne).other _ hne).other _ hne).other _ hne).other _ hne
             ·simp only [Value.ownBlock, Option.some.injEq] at e
              omega
           ·have htz : ¬ (tg.length : Int) = (r.tag : Int) := by omega
            have htz2 : ((tg.length : Int) != (r.tag : Int)) = true := by simp only [bne_iff_ne, ne_eq]; omega
            have HE : Hid (R = (zero, 9)) := Px.hid (by rw [HM.out, if_pos ht])
            clear ht
            go_wp2_with fail
            try go_quiet (fail)
            go_wp2
            refine bodyPost_ret (v := .tuple #[.agg #[.int .i64 6, .int .i64 r.alg, .slice (some ⟨g, 0, none⟩) 1 1, S hd, S lo, S [], S [], S ci, S tg], .int .i64 9]) (by simp [results, Tryd.results46, go_sem, *]) rfl (givesR_err ⟨6, r.alg, [], hd, lo, [], [], ci, tg⟩ HE.out (by decide) ?_)
            repeat' first
             | refine Fr.setCell ?_ (.inr (by dsimp only; omega)) _
             | refine Fr.alloc ?_ _
             | refine Fr.drewN ?_ _
             | exact HL.out.same
      ·have HE : Hid (R = (zero, 11)) := Px.hid (by rw [HM.out, if_neg (fun e => e rfl), HRW.out]; unfold pickS; simp [hi])
       have hiz : ((r.iv : Int) == 0) = false := by simpa using hi
       have hiz2 : ¬ (r.iv : Int) = 0 := by omega
       go_wp2_with fail
       try go_quiet (fail)
       go_wp2
       refine bodyPost_ret (v := .tuple #[.agg #[.int .i64 6, .int .i64 0, .slice none 0 0, S hd, S lo, S [], S [], S ci, S tg], .int .i64 11]) (by simp [results, Tryd.results46, go_sem, *]) rfl (givesR_err ⟨6, 0, [], hd, lo, [], [], ci, tg⟩ HE.out (by decide) ?_)
       repeat' first
        | refine Fr.setCell ?_ (.inr (by dsimp only; omega)) _
        | refine Fr.alloc ?_ _
        | refine Fr.drewN ?_ _
        | exact HL.out.same
    ·have hkz : (vk != 0) = true := by simpa using hk
     have hkz2 : ¬ vk = 0 := hk
     have HE : Hid (R = (zero, 11)) := Px.hid (by rw [HM.out, if_pos hk])
     clear hk
     go_wp2_with fail
     try go_quiet (fail)
     go_wp2
     refine bodyPost_ret (v := .tuple #[.agg #[.int .i64 6, .int .i64 0, .slice none 0 0, S hd, S lo, S [], S [], S ci, S tg], .int .i64 11]) (by simp [results, Tryd.results46, go_sem, *]) rfl (givesR_err ⟨6, 0, [], hd, lo, [], [], ci, tg⟩ HE.out (by decide) ?_)
     repeat' first
      | refine Fr.setCell ?_ (.inr (by dsimp only; omega)) _
      | refine Fr.alloc ?_ _
      | refine Fr.drewN ?_ _
      | exact HL.out.same
end Go.Proofs.YtddiabaagpmkgaaDoor

/-! The walk over the reference's last (layer 25; printed by gen_cqh.py). -/
namespace Go.Proofs.YtddiabaagpmkgaaDoor
open Go.RowKit Go.Px Go.Px.E7 Go.Px.Co
set_option maxRecDepth 100000 in
set_option maxHeartbeats 40000000 in
theorem rlast_enc (hd lo ci tg : Bytes) (v1 v2 v3 v4 : Value) (a b : Hdr) (w : World) (ha : RHdr w v1 v2 a) (hb : RHdr w v3 v4 b) (hl : a.length ≤ 10000) (hl2 : b.length ≤ 10000) (hn : ∀ p ∈ a ++ b, p.2.num < 18446744073709551616) (hci : ci.length ≤ 9223372036854775807) :
  Calls Tryd.prog 46 #[.agg #[.int .i64 5, .int .i64 0, .slice none 0 0, S hd, S lo, S [], S [], S ci, S tg], .agg #[v1, v2], .agg #[v3, v4]] w (GivesR w (Co.last false hd lo ci tg (a ++ b))) := by
 have HB := Px.hid (show ∀ (n : Nat) (W : World), Same w W → Calls Tryd.prog 66 #[.agg #[v1, v2], .agg #[v3, v4], .int .u64 (n : Nat)] W fun e w' => e = .returned (fndV (Co.find (a ++ b) n)) ∧ Same W w' from fun n W hW => rboth_any v1 v2 v3 v4 a b n W (ha.same hW) (hb.same hW) hl hl2)
 have HM := Px.hid (show Co.last false hd lo ci tg (a ++ b) = match Co.find (a ++ b) 1 with
  | none => (zero, 9)
  | some v => if v.kind ≠ 0 then (zero, 11) else match row false v.num with
   | none => (zero, 11)
   | some r => if badName (Co.find (a ++ b) 4) = true then (zero, 9) else if false = true then (if tg.length ≠ r.tag then (zero, 9) else if 70000 < ci.length then (zero, 10) else (⟨6, r.alg, [direct (nameOf (Co.find (a ++ b) 4))], hd, lo, [], [], ci, tg⟩, 0)) else match Co.find (a ++ b) 5 with
    | none => (zero, 9)
    | some v => if v.kind ≠ 2 ∨ v.text.length ≠ r.iv ∨ ci.length < r.tag then (zero, 9) else if 70000 < ci.length - r.tag ∨ (65536 ≤ ci.length - r.tag ∧ r.iv = 13) then (zero, 10)
       else (⟨5, r.alg, [direct (nameOf (Co.find (a ++ b) 4))], hd, lo, [], v.text, ci.take (ci.length - r.tag), ci.drop (ci.length - r.tag)⟩, 0) from rfl)
 have HNN := Px.hid (And.intro hn hci)
 obtain ⟨la, lc, va, vc, rfl, rfl⟩ := ha.lit
 obtain ⟨lb, ld, vb, vd, rfl, rfl⟩ := hb.lit
 clear ha hb hn hl hl2
 obtain ⟨R, hR⟩ : ∃ R, R = Co.last false hd lo ci tg (a ++ b) := ⟨_, rfl⟩
 rw [← hR] at HM ⊢
 clear hR
 have h0 : LsW w ((((w.alloc (.cells #[.int .i64 5, .int .i64 0, .slice none 0 0, S hd, S lo, S [], S [], S ci, S tg] 27)).alloc (.cells #[.slice la a.length lc, .slice va a.length vc] 96)).alloc (.cells #[.slice lb b.length ld, .slice vb b.length vd] 96)).alloc (.cells envZ 27)) #[.int .i64 5, .int .i64 0, .slice none 0 0, S hd, S lo, S [], S [], S ci, S tg] (.slice la a.length lc) (.slice va a.length vc) (.slice lb b.length ld) (.slice vb b.length vd) := by
  refine ⟨Fr.alloc (Fr.alloc (Fr.alloc (Fr.alloc (Fr.refl _ w) _) _) _) _, Blk.alloc (Blk.alloc (Blk.alloc (blk_new w _ _) _) _) _, Blk.alloc (Blk.alloc ?_ _) _, Blk.alloc ?_ _, ?_⟩
  all_goals
   refine (show ∀ (W : World) (k : Nat) (cs : Array Value) (T : TypeId), W.heap.size = k → Blk (W.alloc (.cells cs T (0, 0))) k cs T from fun W k cs T h => by subst h; exact blk_new W cs T) _ _ _ _ ?_
   simp
 have H0 := Px.hid h0
 clear h0
 go_enter Tryd.func46, Tryd.ntmps46
 obtain ⟨o1, ho1⟩ : ∃ o, o = Co.find (a ++ b) 1 := ⟨_, rfl⟩
 have HO1 := Px.hid ho1
 rw [← ho1] at HM
 clear ho1
 go_upto_region 1 with fail
 go_cut [8, 9] (fun t8 t9 wx => ∃ bv, t8 = .pointer (some ⟨bv, 0, none⟩) ∧ t9 = .bool o1.isSome ∧ LsS w wx #[.int .i64 5, .int .i64 0, .slice none 0 0, S hd, S lo, S [], S [], S ci, S tg] (.slice la a.length lc) (.slice va a.length vc) (.slice lb b.length ld) (.slice vb b.length vd) bv (o1.getD za))
 case first =>
  go_wp2_with fail
  refine (HB.out 1 _ H0.out.same).mono ?_
  rintro e w1 ⟨rfl, hs⟩
  have HS := Px.hid hs
  clear hs
  rw [← HO1.out]
  clear HO1
  have hB0 : LsW w w1 #[.int .i64 5, .int .i64 0, .slice none 0 0, S hd, S lo, S [], S [], S ci, S tg] (.slice la a.length lc) (.slice va a.length vc) (.slice lb b.length ld) (.slice vb b.length vd) := H0.out.sm HS.out
  cases o1 with
  | none =>
   rw [show fndV none = .tuple #[.agg #[.int .i64 0, .int .u64 0, S []], .bool false] from rfl]
   go_wp2_with fail
   go_meet
   exact ⟨w1.heap.size, rfl, rfl, hB0.atom za⟩
  | some y =>
   obtain ⟨yk, yn, yt⟩ := y
   rw [show fndV (some (⟨yk, yn, yt⟩ : Atom)) = .tuple #[.agg #[.int .i64 yk, .int .u64 (yn : Nat), S yt], .bool true] from rfl]
   go_wp2_with fail
   go_meet
   exact ⟨w1.heap.size, rfl, rfl, hB0.atom ⟨yk, yn, yt⟩⟩
 case rest =>
  obtain ⟨bv, rfl, rfl, hL⟩ := hcut
  have HL := Px.hid hL
  clear hL H0
  obtain ⟨c0, c1, c2, c3, c4, c5, c6, c7, c8, d0, d1, d2, d3, d4, d5, d6, d7, d8⟩ := blk9 (show Blk wc w.heap.size #[.int .i64 5, .int .i64 0, .slice none 0 0, S hd, S lo, S [], S [], S ci, S tg] 27 from HL.out.x)
  obtain ⟨e0, e1, e2, e3, e4, e5, e6, e7, e8, f0, f1, f2, f3, f4, f5, f6, f7, f8⟩ := blk9 HL.out.res
  obtain ⟨p0, p1, p2, p3⟩ := HL.out.cells
  obtain ⟨k0, k1, k2, l0, l1, l2⟩ := blk3 HL.out.v
  obtain ⟨n0, n1, n2, n3, nv⟩ := HL.out.lts
  have nf := HL.out.far
  cases o1 with
  | none =>
   have HE : Hid (R = (zero, 9)) := Px.hid HM.out
   go_wp2_with fail
   try go_quiet (fail)
   go_wp2
   refine bodyPost_ret (v := .tuple #[.agg #[.int .i64 5, .int .i64 0, .slice none 0 0, S hd, S lo, S [], S [], S ci, S tg], .int .i64 9]) (by simp [results, Tryd.results46, go_sem, *]) rfl (givesR_err ⟨5, 0, [], hd, lo, [], [], ci, tg⟩ HE.out (by decide) ?_)
   repeat' first
    | refine Fr.setCell ?_ (.inr (by dsimp only; omega)) _
    | refine Fr.alloc ?_ _
    | refine Fr.drewN ?_ _
    | exact HL.out.same
  | some v =>
   obtain ⟨vk, vn, vt⟩ := v
   have HM : Hid (R = if vk ≠ 0 then (zero, (11 : Int)) else match row false vn with
    | none => (zero, 11)
    | some r => if badName (Co.find (a ++ b) 4) = true then (zero, 9) else (match Co.find (a ++ b) 5 with
        | none => (zero, 9)
        | some v => if v.kind ≠ 2 ∨ v.text.length ≠ r.iv ∨ ci.length < r.tag then (zero, 9) else if 70000 < ci.length - r.tag ∨ (65536 ≤ ci.length - r.tag ∧ r.iv = 13) then (zero, 10)
         else (⟨5, r.alg, [direct (nameOf (Co.find (a ++ b) 4))], hd, lo, [], v.text, ci.take (ci.length - r.tag), ci.drop (ci.length - r.tag)⟩, 0))) := Px.hid HM.out
   have hnb : vn < 18446744073709551616 := by
    obtain ⟨p, hp, e⟩ := find_mem HO1.out.symm
    have := HNN.out.1 p hp
    rw [e] at this
    exact this
   have HR := Px.hid (show ∀ W : World, Calls Tryd.prog 67 #[.int .i64 5, .int .u64 (vn : Nat)] W fun e w' => e = .returned (rrowV (rrow false vn)) ∧ Same W w' from fun W => rrow_any false vn W hnb)
   have HRW := Px.hid (row_rrow false vn)
   clear HO1 hnb
   change Hid (LsS w wc _ _ _ _ _ bv ⟨vk, vn, vt⟩) at HL
   obtain ⟨rr, hrr⟩ : ∃ rr, rr = rrow false vn := ⟨_, rfl⟩
   rw [← hrr] at HRW
   have HRR := Px.hid hrr
   clear hrr
   go_upto_region 4 with fail
   go_cut [10] (fun t10 wx => ∃ br, t10 = .pointer (some ⟨br, 0, none⟩) ∧ bv < br ∧ LsS w wx #[.int .i64 5, .int .i64 0, .slice none 0 0, S hd, S lo, S [], S [], S ci, S tg] (.slice la a.length lc) (.slice va a.length vc) (.slice lb b.length ld) (.slice vb b.length vd) bv ⟨vk, vn, vt⟩ ∧ Blk wx br #[.int .i64 (rr.getD zr).alg, .int .i64 ((rr.getD zr).key : Nat), .int .i64 ((rr.getD zr).iv : Nat), .int .i64 ((rr.getD zr).tag : Nat), .int .i64 ((rr.getD zr).layer : Nat)] 71)
   case first =>
    go_wp2_with fail
    refine (HR.out _).mono ?_
    rintro e w2 ⟨rfl, hs⟩
    have hL2 := HL.out.sm hs
    have HL2 := Px.hid hL2
    have nw2 := hL2.v.lt
    clear hs hL2 c0 c1 c2 c3 c4 c5 c6 c7 c8 d0 d1 d2 d3 d4 d5 d6 d7 d8 e0 e1 e2 e3 e4 e5 e6 e7 e8 f0 f1 f2 f3 f4 f5 f6 f7 f8 p0 p1 p2 p3 k0 k1 k2 l0 l1 l2 n0 n1 n2 n3 nv nf
    rw [← HRR.out]
    clear HRR
    obtain ⟨q, hq⟩ : ∃ q, q = rr.getD zr := ⟨_, rfl⟩
    unfold rrowV
    rw [← hq]
    have HQQ := Px.hid hq
    clear hq
    go_wp2_with fail
    go_meet
    have hq := HQQ.out
    subst hq
    exact ⟨w2.heap.size, rfl, nw2, HL2.out.alloc _, blk_new w2 _ _⟩
   case rest =>
    obtain ⟨br, rfl, hbr, hL, hrw⟩ := hcut
    have HL := Px.hid hL
    have HW := Px.hid hrw
    clear hL c0 c1 c2 c3 c4 c5 c6 c7 c8 d0 d1 d2 d3 d4 d5 d6 d7 d8 e0 e1 e2 e3 e4 e5 e6 e7 e8 f0 f1 f2 f3 f4 f5 f6 f7 f8 p0 p1 p2 p3 k0 k1 k2 l0 l1 l2 n0 n1 n2 n3 nv nf HR
    obtain ⟨c0, c1, c2, c3, c4, c5, c6, c7, c8, d0, d1, d2, d3, d4, d5, d6, d7, d8⟩ := blk9 (show Blk wc w.heap.size #[.int .i64 5, .int .i64 0, .slice none 0 0, S hd, S lo, S [], S [], S ci, S tg] 27 from HL.out.x)
    obtain ⟨e0, e1, e2, e3, e4, e5, e6, e7, e8, f0, f1, f2, f3, f4, f5, f6, f7, f8⟩ := blk9 HL.out.res
    obtain ⟨p0, p1, p2, p3⟩ := HL.out.cells
    obtain ⟨k0, k1, k2, l0, l1, l2⟩ := blk3 HL.out.v
    obtain ⟨n0, n1, n2, n3, nv⟩ := HL.out.lts
    have nf := HL.out.far
    by_cases hk : vk = 0
    ·subst hk
     cases rr with
     | none =>
      have HE : Hid (R = (zero, 11)) := Px.hid (by rw [HM.out, if_neg (fun e => e rfl), HRW.out]; rfl)
      have z0 : wc.cell? ⟨br, 0, none⟩ = some (.int .i64 0) := Blk.cell hrw 0 rfl
      have nr := Blk.lt hrw
      clear hrw
      go_wp2_with fail
      try go_quiet (fail)
      go_wp2
      refine bodyPost_ret (v := .tuple #[.agg #[.int .i64 5, .int .i64 0, .slice none 0 0, S hd, S lo, S [], S [], S ci, S tg], .int .i64 11]) (by simp [results, Tryd.results46, go_sem, *]) rfl (givesR_err ⟨5, 0, [], hd, lo, [], [], ci, tg⟩ HE.out (by decide) ?_)
      repeat' first
       | refine Fr.setCell ?_ (.inr (by dsimp only; omega)) _
       | refine Fr.alloc ?_ _
       | refine Fr.drewN ?_ _
       | exact HL.out.same
     | some r =>
      change Blk wc br #[.int .i64 r.alg, .int .i64 (r.key : Nat), .int .i64 (r.iv : Nat), .int .i64 (r.tag : Nat), .int .i64 (r.layer : Nat)] 71 at hrw
      have HW := Px.hid hrw
      clear hrw
      obtain ⟨z0, z1, z2, z3, z4⟩ := blk5 HW.out
      have nr := Blk.lt HW.out
      obtain ⟨hal, htg, hi16⟩ := rrow_alg HRR.out.symm
      have hal0 : (r.alg == 0) = false := by simpa using hal
      have HTG := Px.hid (And.intro htg hi16)
      clear htg hi16
      by_cases hi : r.iv = 0
      ·have HE : Hid (R = (zero, 11)) := Px.hid (by rw [HM.out, if_neg (fun e => e rfl), HRW.out]; unfold pickS; simp [hi])
       rw [hi] at z2
       go_wp2_with fail
       try go_quiet (fail)
       go_wp2
       refine bodyPost_ret (v := .tuple #[.agg #[.int .i64 5, .int .i64 0, .slice none 0 0, S hd, S lo, S [], S [], S ci, S tg], .int .i64 11]) (by simp [results, Tryd.results46, go_sem, *]) rfl (givesR_err ⟨5, 0, [], hd, lo, [], [], ci, tg⟩ HE.out (by decide) ?_)
       repeat' first
        | refine Fr.setCell ?_ (.inr (by dsimp only; omega)) _
        | refine Fr.alloc ?_ _
        | refine Fr.drewN ?_ _
        | exact HL.out.same
      ·have hiz : ((r.iv : Int) == 0) = false := by simpa using hi
       have hiz2 : ¬ (r.iv : Int) = 0 := by omega
       have HM : Hid (R = if badName (Co.find (a ++ b) 4) = true then (zero, (9 : Int)) else (match Co.find (a ++ b) 5 with
             | none => (zero, 9)
             | some v => if v.kind ≠ 2 ∨ v.text.length ≠ r.iv ∨ ci.length < r.tag then (zero, 9) else if 70000 < ci.length - r.tag ∨ (65536 ≤ ci.length - r.tag ∧ r.iv = 13) then (zero, 10)
              else (⟨5, r.alg, [direct (nameOf (Co.find (a ++ b) 4))], hd, lo, [], v.text, ci.take (ci.length - r.tag), ci.drop (ci.length - r.tag)⟩, 0))) := Px.hid (by
        rw [HM.out, if_neg (fun e => e rfl), HRW.out]
        unfold pickS
        simp [hi])
       obtain ⟨o4, ho4⟩ : ∃ o, o = Co.find (a ++ b) 4 := ⟨_, rfl⟩
       have HO := Px.hid ho4
       rw [← ho4] at HM
       clear ho4 HRW HRR
       have HI := Px.hid hi
       clear hi
       go_upto_region 8 with fail
       obtain ⟨wf, rfl⟩ : ∃ wf : World, wf = wc := ⟨_, rfl⟩
       have HN := Px.hid (show LsS w (wf.setCell ⟨w.heap.size, 1, none⟩ (.int .i64 r.alg)) #[.int .i64 5, .int .i64 r.alg, .slice none 0 0, S hd, S lo, S [], S [], S ci, S tg] (.slice la a.length lc) (.slice va a.length vc) (.slice lb b.length ld) (.slice vb b.length vd) bv ⟨0, vn, vt⟩ ∧ Blk (wf.setCell ⟨w.heap.size, 1, none⟩ (.int .i64 r.alg)) br #[.int .i64 r.alg, .int .i64 (r.key : Nat), .int .i64 (r.iv : Nat), .int .i64 (r.tag : Nat), .int .i64 (r.layer : Nat)] 71 from ⟨by simpa using HL.out.putX 1 (.int .i64 r.alg), HW.out.other _ (by show ¬ br = w.heap.size; omega)⟩)
       clear HL HW
       go_cut [9] (fun t9 wx => t9 = .bool o4.isSome ∧ LsS w wx #[.int .i64 5, .int .i64 r.alg, .slice none 0 0, S hd, S lo, S [], S [], S ci, S tg] (.slice la a.length lc) (.slice va a.length vc) (.slice lb b.length ld) (.slice vb b.length vd) bv (o4.getD za) ∧ Blk wx br #[.int .i64 r.alg, .int .i64 (r.key : Nat), .int .i64 (r.iv : Nat), .int .i64 (r.tag : Nat), .int .i64 (r.layer : Nat)] 71)
       case first =>
        go_wp2_with fail
        refine (HB.out 4 _ HN.out.1.same).mono ?_
        rintro e w3 ⟨rfl, hs⟩
        have HQ := Px.hid (And.intro (HN.out.1.sm hs) (HN.out.2))
        have HSM := Px.hid hs
        clear hs c0 c1 c2 c3 c4 c5 c6 c7 c8 d0 d1 d2 d3 d4 d5 d6 d7 d8 e0 e1 e2 e3 e4 e5 e6 e7 e8 f0 f1 f2 f3 f4 f5 f6 f7 f8 p0 p1 p2 p3 k0 k1 k2 l0 l1 l2 n0 n1 n2 n3 nv nf z0 z1 z2 z3 z4 nr
        obtain ⟨k0, k1, k2, l0, l1, l2⟩ := blk3 HQ.out.1.v
        have nv := HQ.out.1.v.lt
        rw [← HO.out]
        clear HO
        cases o4 with
        | none =>
         rw [show fndV none = .tuple #[.agg #[.int .i64 0, .int .u64 0, S []], .bool false] from rfl]
         go_wp2_with fail
         go_meet
         exact ⟨rfl, HQ.out.1.putV za, ((Blk.fr HQ.out.2 HSM.out (fun x => x)).other _ (by show ¬ br = bv; omega) |>.other _ (by show ¬ br = bv; omega)).other _ (by show ¬ br = bv; omega)⟩
        | some y =>
         obtain ⟨yk, yn, yt⟩ := y
         rw [show fndV (some (⟨yk, yn, yt⟩ : Atom)) = .tuple #[.agg #[.int .i64 yk, .int .u64 (yn : Nat), S yt], .bool true] from rfl]
         go_wp2_with fail
         go_meet
         exact ⟨rfl, HQ.out.1.putV ⟨yk, yn, yt⟩, ((Blk.fr HQ.out.2 HSM.out (fun x => x)).other _ (by show ¬ br = bv; omega) |>.other _ (by show ¬ br = bv; omega)).other _ (by show ¬ br = bv; omega)⟩
       case rest =>
        obtain ⟨rfl, hL, hrw⟩ := hcut
        have HL := Px.hid hL
        have HW := Px.hid hrw
        clear hL hrw HN c0 c1 c2 c3 c4 c5 c6 c7 c8 d0 d1 d2 d3 d4 d5 d6 d7 d8 e0 e1 e2 e3 e4 e5 e6 e7 e8 f0 f1 f2 f3 f4 f5 f6 f7 f8 p0 p1 p2 p3 k0 k1 k2 l0 l1 l2 n0 n1 n2 n3 nv nf z0 z1 z2 z3 z4 nr
        obtain ⟨c0, c1, c2, c3, c4, c5, c6, c7, c8, d0, d1, d2, d3, d4, d5, d6, d7, d8⟩ := blk9 (show Blk wc w.heap.size #[.int .i64 5, .int .i64 r.alg, .slice none 0 0, S hd, S lo, S [], S [], S ci, S tg] 27 from HL.out.x)
        obtain ⟨e0, e1, e2, e3, e4, e5, e6, e7, e8, f0, f1, f2, f3, f4, f5, f6, f7, f8⟩ := blk9 HL.out.res
        obtain ⟨p0, p1, p2, p3⟩ := HL.out.cells
        obtain ⟨k0, k1, k2, l0, l1, l2⟩ := blk3 HL.out.v
        obtain ⟨n0, n1, n2, n3, nv⟩ := HL.out.lts
        have nf := HL.out.far
        obtain ⟨z0, z1, z2, z3, z4⟩ := blk5 HW.out
        have nr := Blk.lt HW.out
        go_upto_region 9 with fail
        go_cut [70] (fun t70 wx => t70 = .bool (badName o4) ∧ LsS w wx #[.int .i64 5, .int .i64 r.alg, .slice none 0 0, S hd, S lo, S [], S [], S ci, S tg] (.slice la a.length lc) (.slice va a.length vc) (.slice lb b.length ld) (.slice vb b.length vd) bv (o4.getD za) ∧ Blk wx br #[.int .i64 r.alg, .int .i64 (r.key : Nat), .int .i64 (r.iv : Nat), .int .i64 (r.tag : Nat), .int .i64 (r.layer : Nat)] 71)
        case first =>
         cases o4 with
         | none =>
          go_wp2_with fail
          try go_quiet (fail)
          go_wp2_with fail
          go_meet
          exact ⟨rfl, HL.out, HW.out⟩
         | some y =>
          obtain ⟨yk, yn, yt⟩ := y
          by_cases hk2 : yk = 2
          ·subst hk2
           by_cases hl1 : yt.length < 1
           ·have hz : (yt.length : Int) < 1 := by omega
            have HE := Px.hid (show badName (some (⟨2, yn, yt⟩ : Atom)) = true by
             have : yt = [] := List.length_eq_zero_iff.1 (by omega)
             subst this
             rfl)
            clear hl1
            go_wp2_with fail
            try go_quiet (fail)
            go_wp2_with fail
            go_meet
            exact ⟨by rw [HE.out], HL.out, HW.out⟩
           ·have hz : ¬ (yt.length : Int) < 1 := by omega
            have HE := Px.hid (show badName (some (⟨2, yn, yt⟩ : Atom)) = decide (128 < yt.length) by
             have : (yt == []) = false := by
              cases yt with
              | nil => exact absurd (show ([] : Bytes).length < 1 from Nat.lt_succ_self 0) hl1
              | cons c t => rfl
             unfold badName
             simp [this])
            by_cases h128 : 128 < yt.length
            ·have hz2 : (128 : Int) < (yt.length : Int) := by omega
             have HE2 : Hid (badName (some (⟨2, yn, yt⟩ : Atom)) = true) := Px.hid (by rw [HE.out]; simp [h128])
             clear hl1 h128
             go_wp2_with fail
             try go_quiet (fail)
             go_wp2_with fail
             go_meet
             exact ⟨by rw [HE2.out], HL.out, HW.out⟩
            ·have hz2 : ¬ (128 : Int) < (yt.length : Int) := by omega
             have HE2 : Hid (badName (some (⟨2, yn, yt⟩ : Atom)) = false) := Px.hid (by rw [HE.out]; simp; omega)
             clear hl1 h128
             go_wp2_with fail
             try go_quiet (fail)
             go_wp2_with fail
             go_meet
             exact ⟨by rw [HE2.out], HL.out, HW.out⟩
          ·have hz : (yk != 2) = true := by simpa using hk2
           have hz2 : ¬ yk = 2 := hk2
           have HE := Px.hid (show badName (some (⟨yk, yn, yt⟩ : Atom)) = true by unfold badName; simp [hk2])
           clear hk2
           go_wp2_with fail
           try go_quiet (fail)
           go_wp2_with fail
           go_meet
           exact ⟨by rw [HE.out], HL.out, HW.out⟩
        case rest =>
         obtain ⟨rfl, hL, hrw⟩ := hcut
         have HL := Px.hid hL
         have HW := Px.hid hrw
         clear hL hrw c0 c1 c2 c3 c4 c5 c6 c7 c8 d0 d1 d2 d3 d4 d5 d6 d7 d8 e0 e1 e2 e3 e4 e5 e6 e7 e8 f0 f1 f2 f3 f4 f5 f6 f7 f8 p0 p1 p2 p3 k0 k1 k2 l0 l1 l2 n0 n1 n2 n3 nv nf z0 z1 z2 z3 z4 nr
         obtain ⟨c0, c1, c2, c3, c4, c5, c6, c7, c8, d0, d1, d2, d3, d4, d5, d6, d7, d8⟩ := blk9 (show Blk wc w.heap.size #[.int .i64 5, .int .i64 r.alg, .slice none 0 0, S hd, S lo, S [], S [], S ci, S tg] 27 from HL.out.x)
         obtain ⟨e0, e1, e2, e3, e4, e5, e6, e7, e8, f0, f1, f2, f3, f4, f5, f6, f7, f8⟩ := blk9 HL.out.res
         obtain ⟨p0, p1, p2, p3⟩ := HL.out.cells
         obtain ⟨k0, k1, k2, l0, l1, l2⟩ := blk3 HL.out.v
         obtain ⟨n0, n1, n2, n3, nv⟩ := HL.out.lts
         have nf := HL.out.far
         obtain ⟨z0, z1, z2, z3, z4⟩ := blk5 HW.out
         have nr := Blk.lt HW.out
         obtain ⟨bn, hbn⟩ : ∃ bn, bn = badName o4 := ⟨_, rfl⟩
         rw [← hbn] at HM ⊢
         clear hbn
         cases bn with
         | true =>
          have HE : Hid (R = (zero, 9)) := Px.hid HM.out
          go_wp2_with fail
          try go_quiet (fail)
          go_wp2
          refine bodyPost_ret (v := .tuple #[.agg #[.int .i64 5, .int .i64 r.alg, .slice none 0 0, S hd, S lo, S [], S [], S ci, S tg], .int .i64 9]) (by simp [results, Tryd.results46, go_sem, *]) rfl (givesR_err ⟨5, r.alg, [], hd, lo, [], [], ci, tg⟩ HE.out (by decide) ?_)
          repeat' first
           | refine Fr.setCell ?_ (.inr (by dsimp only; omega)) _
           | refine Fr.alloc ?_ _
           | refine Fr.drewN ?_ _
           | exact HL.out.same
         | false =>
          obtain ⟨nm, hnm⟩ : ∃ nm, nm = nameOf o4 := ⟨_, rfl⟩
          have HM : Hid (R = (match Co.find (a ++ b) 5 with
              | none => (zero, 9)
              | some v => if v.kind ≠ 2 ∨ v.text.length ≠ r.iv ∨ ci.length < r.tag then (zero, 9) else if 70000 < ci.length - r.tag ∨ (65536 ≤ ci.length - r.tag ∧ r.iv = 13) then (zero, 10)
               else (⟨5, r.alg, [direct nm], hd, lo, [], v.text, ci.take (ci.length - r.tag), ci.drop (ci.length - r.tag)⟩, 0))) := Px.hid (by rw [hnm]; exact HM.out)
          have hnt : (o4.getD za).text = nm := by rw [hnm]; cases o4 <;> rfl
          obtain ⟨y4, hy4⟩ : ∃ y, y = o4.getD za := ⟨_, rfl⟩
          rw [← hy4] at HL hnt k0 k1 k2
          rw [hnt] at k2
          clear hnm hy4 hnt
          go_upto_region 11 with fail
          obtain ⟨wf, rfl⟩ : ∃ wf : World, wf = wc := ⟨_, rfl⟩
          go_cut [] (fun wx => ∃ g, w.heap.size + 4 ≤ g ∧ g ≠ bv ∧ g ≠ br ∧ LsS w wx #[.int .i64 5, .int .i64 r.alg, .slice (some ⟨g, 0, none⟩) 1 1, S hd, S lo, S [], S [], S ci, S tg] (.slice la a.length lc) (.slice va a.length vc) (.slice lb b.length ld) (.slice vb b.length vd) bv y4 ∧ Blk wx br #[.int .i64 r.alg, .int .i64 (r.key : Nat), .int .i64 (r.iv : Nat), .int .i64 (r.tag : Nat), .int .i64 (r.layer : Nat)] 71 ∧ Blk wx g (cRec (direct nm)).toArray 59)
          case first =>
           go_wp2_with fail
           go_meet
           have z := (HL.out.putX 2 (.slice (some ⟨wf.heap.size, 0, none⟩) 1 1)).alloc (.cells (cRec (direct nm)).toArray 59 (0, 0))
           refine ⟨wf.heap.size, by omega, by omega, by omega, by simpa [cRec, direct] using z, (HW.out.other _ (by show ¬ br = w.heap.size; omega)).alloc _, blk_new_set wf _ _ _ _⟩
          case rest =>
           obtain ⟨g, hg4, hgv, hgr, hL, hrw, hgb⟩ := hcut
           have HL := Px.hid hL
           have HW := Px.hid hrw
           have HG := Px.hid hgb
           have ng := hgb.lt
           clear hL hrw hgb c0 c1 c2 c3 c4 c5 c6 c7 c8 d0 d1 d2 d3 d4 d5 d6 d7 d8 e0 e1 e2 e3 e4 e5 e6 e7 e8 f0 f1 f2 f3 f4 f5 f6 f7 f8 p0 p1 p2 p3 k0 k1 k2 l0 l1 l2 n0 n1 n2 n3 nv nf z0 z1 z2 z3 z4 nr
           obtain ⟨c0, c1, c2, c3, c4, c5, c6, c7, c8, d0, d1, d2, d3, d4, d5, d6, d7, d8⟩ := blk9 (show Blk wc w.heap.size #[.int .i64 5, .int .i64 r.alg, .slice (some ⟨g, 0, none⟩) 1 1, S hd, S lo, S [], S [], S ci, S tg] 27 from HL.out.x)
           obtain ⟨e0, e1, e2, e3, e4, e5, e6, e7, e8, f0, f1, f2, f3, f4, f5, f6, f7, f8⟩ := blk9 HL.out.res
           obtain ⟨p0, p1, p2, p3⟩ := HL.out.cells
           obtain ⟨k0, k1, k2, l0, l1, l2⟩ := blk3 HL.out.v
           obtain ⟨n0, n1, n2, n3, nv⟩ := HL.out.lts
           have nf := HL.out.far
           obtain ⟨z0, z1, z2, z3, z4⟩ := blk5 HW.out
           have nr := Blk.lt HW.out
           obtain ⟨o5, ho5⟩ : ∃ o, o = Co.find (a ++ b) 5 := ⟨_, rfl⟩
           have HO := Px.hid ho5
           rw [← ho5] at HM
           clear ho5
           go_upto_region 18 with fail
           have HN := Px.hid (And.intro HL.out (And.intro HW.out HG.out))
           clear HL HW HG
           go_cut [9] (fun t9 wx => t9 = .bool o5.isSome ∧ LsS w wx #[.int .i64 5, .int .i64 r.alg, .slice (some ⟨g, 0, none⟩) 1 1, S hd, S lo, S [], S [], S ci, S tg] (.slice la a.length lc) (.slice va a.length vc) (.slice lb b.length ld) (.slice vb b.length vd) bv (o5.getD za) ∧ Blk wx br #[.int .i64 r.alg, .int .i64 (r.key : Nat), .int .i64 (r.iv : Nat), .int .i64 (r.tag : Nat), .int .i64 (r.layer : Nat)] 71 ∧ Blk wx g (cRec (direct nm)).toArray 59)
           case first =>
            go_wp2_with fail
            refine (HB.out 5 _ HN.out.1.same).mono ?_
            rintro e w5 ⟨rfl, hs⟩
            have HQ := Px.hid (And.intro (HN.out.1.sm hs) (HN.out.2))
            have HSM := Px.hid hs
            clear hs c0 c1 c2 c3 c4 c5 c6 c7 c8 d0 d1 d2 d3 d4 d5 d6 d7 d8 e0 e1 e2 e3 e4 e5 e6 e7 e8 f0 f1 f2 f3 f4 f5 f6 f7 f8 p0 p1 p2 p3 k0 k1 k2 l0 l1 l2 n0 n1 n2 n3 nv nf z0 z1 z2 z3 z4 nr
            obtain ⟨k0, k1, k2, l0, l1, l2⟩ := blk3 HQ.out.1.v
            have nv := HQ.out.1.v.lt
            rw [← HO.out]
            clear HO
            cases o5 with
            | none =>
             rw [show fndV none = .tuple #[.agg #[.int .i64 0, .int .u64 0, S []], .bool false] from rfl]
             go_wp2_with fail
             go_meet
             exact ⟨rfl, HQ.out.1.putV za, (((Blk.fr HQ.out.2.1 HSM.out (fun x => x)).other _ (by show ¬ br = bv; omega)).other _ (by show ¬ br = bv; omega)).other _ (by show ¬ br = bv; omega), (((Blk.fr HQ.out.2.2 HSM.out (fun x => x)).other _ (by show ¬ g = bv; omega)).other _ (by show ¬ g = bv; omega)).other _ (by show ¬ g = bv; omega)⟩
            | some y =>
             obtain ⟨yk, yn, yt⟩ := y
             rw [show fndV (some (⟨yk, yn, yt⟩ : Atom)) = .tuple #[.agg #[.int .i64 yk, .int .u64 (yn : Nat), S yt], .bool true] from rfl]
             go_wp2_with fail
             go_meet
             exact ⟨rfl, HQ.out.1.putV ⟨yk, yn, yt⟩, (((Blk.fr HQ.out.2.1 HSM.out (fun x => x)).other _ (by show ¬ br = bv; omega)).other _ (by show ¬ br = bv; omega)).other _ (by show ¬ br = bv; omega), (((Blk.fr HQ.out.2.2 HSM.out (fun x => x)).other _ (by show ¬ g = bv; omega)).other _ (by show ¬ g = bv; omega)).other _ (by show ¬ g = bv; omega)⟩
           case rest =>
            obtain ⟨rfl, hL, hrw, hgb⟩ := hcut
            have HL := Px.hid hL
            have HW := Px.hid hrw
            have HG := Px.hid hgb
            have ng := hgb.lt
            clear hL hrw hgb HN c0 c1 c2 c3 c4 c5 c6 c7 c8 d0 d1 d2 d3 d4 d5 d6 d7 d8 e0 e1 e2 e3 e4 e5 e6 e7 e8 f0 f1 f2 f3 f4 f5 f6 f7 f8 p0 p1 p2 p3 k0 k1 k2 l0 l1 l2 n0 n1 n2 n3 nv nf z0 z1 z2 z3 z4 nr
            obtain ⟨c0, c1, c2, c3, c4, c5, c6, c7, c8, d0, d1, d2, d3, d4, d5, d6, d7, d8⟩ := blk9 (show Blk wc w.heap.size #[.int .i64 5, .int .i64 r.alg, .slice (some ⟨g, 0, none⟩) 1 1, S hd, S lo, S [], S [], S ci, S tg] 27 from HL.out.x)
            obtain ⟨e0, e1, e2, e3, e4, e5, e6, e7, e8, f0, f1, f2, f3, f4, f5, f6, f7, f8⟩ := blk9 HL.out.res
            obtain ⟨p0, p1, p2, p3⟩ := HL.out.cells
            obtain ⟨k0, k1, k2, l0, l1, l2⟩ := blk3 HL.out.v
            obtain ⟨n0, n1, n2, n3, nv⟩ := HL.out.lts
            have nf := HL.out.far
            obtain ⟨z0, z1, z2, z3, z4⟩ := blk5 HW.out
            have nr := Blk.lt HW.out
            cases o5 with
            | none =>
             have HE : Hid (R = (zero, 9)) := Px.hid HM.out
             go_wp2_with fail
             try go_quiet (fail)
             go_wp2
             refine bodyPost_ret (v := .tuple #[.agg #[.int .i64 5, .int .i64 r.alg, .slice (some ⟨g, 0, none⟩) 1 1, S hd, S lo, S [], S [], S ci, S tg], .int .i64 9]) (by simp [results, Tryd.results46, go_sem, *]) rfl (givesR_err ⟨5, r.alg, [], hd, lo, [], [], ci, tg⟩ HE.out (by decide) ?_)
             repeat' first
              | refine Fr.setCell ?_ (.inr (by dsimp only; omega)) _
              | refine Fr.alloc ?_ _
              | refine Fr.drewN ?_ _
              | exact HL.out.same
            | some y =>
             obtain ⟨yk, yn, yt⟩ := y
             have k2 : wc.cell? ⟨bv, 2, none⟩ = some (S yt) := k2
             have k0 : wc.cell? ⟨bv, 0, none⟩ = some (.int .i64 yk) := k0
             have HM : Hid (R = if yk ≠ 2 ∨ yt.length ≠ r.iv ∨ ci.length < r.tag then (zero, 9) else if 70000 < ci.length - r.tag ∨ (65536 ≤ ci.length - r.tag ∧ r.iv = 13) then (zero, 10)
                   else (⟨5, r.alg, [direct nm], hd, lo, [], yt, ci.take (ci.length - r.tag), ci.drop (ci.length - r.tag)⟩, 0)) := Px.hid HM.out
             by_cases hk2 : yk = 2
             ·subst hk2
              by_cases hli : yt.length = r.iv
              ·have hlz : (yt.length : Int) = (r.iv : Int) := by omega
               by_cases hcl : ci.length < r.tag
               ·have hcz : (ci.length : Int) < (r.tag : Int) := by omega
                have HE : Hid (R = (zero, 9)) := Px.hid (by rw [HM.out, if_pos (.inr (.inr hcl))])
                clear hli hcl
                go_wp2_with fail
                try go_quiet (fail)
                go_wp2
                refine bodyPost_ret (v := .tuple #[.agg #[.int .i64 5, .int .i64 r.alg, .slice (some ⟨g, 0, none⟩) 1 1, S hd, S lo, S [], S [], S ci, S tg], .int .i64 9]) (by simp [results, Tryd.results46, go_sem, *]) rfl (givesR_err ⟨5, r.alg, [], hd, lo, [], [], ci, tg⟩ HE.out (by decide) ?_)
                repeat' first
                 | refine Fr.setCell ?_ (.inr (by dsimp only; omega)) _
                 | refine Fr.alloc ?_ _
                 | refine Fr.drewN ?_ _
                 | exact HL.out.same
               ·have hcz : ¬ (ci.length : Int) < (r.tag : Int) := by omega
                have HM : Hid (R = if 70000 < ci.length - r.tag ∨ (65536 ≤ ci.length - r.tag ∧ r.iv = 13) then (zero, 10)
                   else (⟨5, r.alg, [direct nm], hd, lo, [], yt, ci.take (ci.length - r.tag), ci.drop (ci.length - r.tag)⟩, 0)) := Px.hid (by rw [HM.out, if_neg (by rintro (e | e | e); exact e rfl; exact e hli; exact hcl e)])
                clear hli
                have hci := HNN.out.2
                have htg := HTG.out.1
                have hwz : IntKind.i64.wrap ((ci.length : Int) - (r.tag : Int)) = (ci.length : Int) - (r.tag : Int) := IntWalk.i64_in _ (by omega)
                go_upto_region 23 with fail
                obtain ⟨tn, htn⟩ : ∃ tn, tn = ci.length - r.tag := ⟨_, rfl⟩
                have htni : (ci.length : Int) - (r.tag : Int) = (tn : Int) := by omega
                have htnl : tn ≤ ci.length := by omega
                have hts := fun W => to_S ci tn htnl W
                have hfs := fun W => from_S ci tn htnl W
                try rw [htni]
                rw [← htn] at HM
                clear hwz htni htnl htn hcl hci htg hcz
                go_upto_region 25 with fail
                obtain ⟨wx, hwx⟩ : ∃ wx : World, wx = ((wc.setCell ⟨w.heap.size, 6, none⟩ (S yt)).setCell ⟨w.heap.size, 8, none⟩ (S (ci.drop tn))).setCell ⟨w.heap.size, 7, none⟩ (S (ci.take tn)) := ⟨_, rfl⟩
                have hq : LsS w wx #[.int .i64 5, .int .i64 r.alg, .slice (some ⟨g, 0, none⟩) 1 1, S hd, S lo, S [], S yt, S (ci.take tn), S (ci.drop tn)] (.slice la a.length lc) (.slice va a.length vc) (.slice lb b.length ld) (.slice vb b.length vd) bv ⟨2, yn, yt⟩ ∧ Blk wx br #[.int .i64 r.alg, .int .i64 (r.key : Nat), .int .i64 (r.iv : Nat), .int .i64 (r.tag : Nat), .int .i64 (r.layer : Nat)] 71 ∧ Blk wx g (cRec (direct nm)).toArray 59 := by
                 rw [hwx]
                 have z := ((HL.out.putX 6 (S yt)).putX 8 (S (ci.drop tn))).putX 7 (S (ci.take tn))
                 refine ⟨by simpa using z, ?_, ?_⟩
                 ·exact ((HW.out.other _ (by show ¬ br = w.heap.size; omega)).other _ (by show ¬ br = w.heap.size; omega)).other _ (by show ¬ br = w.heap.size; omega)
                 ·exact ((HG.out.other _ (by show ¬ g = w.heap.size; omega)).other _ (by show ¬ g = w.heap.size; omega)).other _ (by show ¬ g = w.heap.size; omega)
                rw [← hwx]
                obtain ⟨hL, hrw, hgb⟩ := hq
                obtain ⟨cp, hcp⟩ : ∃ cp, cp = ci.take tn := ⟨_, rfl⟩
                obtain ⟨tgx, htgx⟩ : ∃ tgx, tgx = ci.drop tn := ⟨_, rfl⟩
                rw [← hcp, ← htgx] at hL HM
                have HL := Px.hid hL
                have HW := Px.hid hrw
                have HG := Px.hid hgb
                have ng := hgb.lt
                clear hL hrw hgb hcp htgx hts hfs hwx c0 c1 c2 c3 c4 c5 c6 c7 c8 d0 d1 d2 d3 d4 d5 d6 d7 d8 e0 e1 e2 e3 e4 e5 e6 e7 e8 f0 f1 f2 f3 f4 f5 f6 f7 f8 p0 p1 p2 p3 k0 k1 k2 l0 l1 l2 n0 n1 n2 n3 nv nf z0 z1 z2 z3 z4 nr
                obtain ⟨c0, c1, c2, c3, c4, c5, c6, c7, c8, d0, d1, d2, d3, d4, d5, d6, d7, d8⟩ := blk9 (show Blk wx w.heap.size #[.int .i64 5, .int .i64 r.alg, .slice (some ⟨g, 0, none⟩) 1 1, S hd, S lo, S [], S yt, S cp, S tgx] 27 from HL.out.x)
                obtain ⟨e0, e1, e2, e3, e4, e5, e6, e7, e8, f0, f1, f2, f3, f4, f5, f6, f7, f8⟩ := blk9 HL.out.res
                obtain ⟨p0, p1, p2, p3⟩ := HL.out.cells
                obtain ⟨k0, k1, k2, l0, l1, l2⟩ := blk3 HL.out.v
                obtain ⟨n0, n1, n2, n3, nv⟩ := HL.out.lts
                have nf := HL.out.far
                obtain ⟨z0, z1, z2, z3, z4⟩ := blk5 HW.out
                have nr := Blk.lt HW.out
                by_cases h7 : 70000 < tn
                ·have h7z : (70000 : Int) < (tn : Int) := by omega
                 have HE : Hid (R = (zero, 10)) := Px.hid (by rw [HM.out, if_pos (.inl h7)])
                 clear h7
                 go_wp2_with fail
                 try go_quiet (fail)
                 go_wp2
                 refine bodyPost_ret (v := .tuple #[.agg #[.int .i64 5, .int .i64 r.alg, .slice (some ⟨g, 0, none⟩) 1 1, S hd, S lo, S [], S yt, S cp, S tgx], .int .i64 10]) (by simp [results, Tryd.results46, go_sem, *]) rfl (givesR_err ⟨5, r.alg, [], hd, lo, [], yt, cp, tgx⟩ HE.out (by decide) ?_)
                 repeat' first
                  | refine Fr.setCell ?_ (.inr (by dsimp only; omega)) _
                  | refine Fr.alloc ?_ _
                  | refine Fr.drewN ?_ _
                  | exact HL.out.same
                ·have h7z : ¬ (70000 : Int) < (tn : Int) := by omega
                 by_cases h65 : 65536 ≤ tn
                 ·have h65z : (65536 : Int) ≤ (tn : Int) := by omega
                  by_cases h13 : r.iv = 13
                  ·rw [h13] at z2
                   have HE : Hid (R = (zero, 10)) := Px.hid (by rw [HM.out, if_pos (.inr ⟨h65, h13⟩)])
                   clear h7 h65 h13
                   go_wp2_with fail
                   try go_quiet (fail)
                   go_wp2
                   refine bodyPost_ret (v := .tuple #[.agg #[.int .i64 5, .int .i64 r.alg, .slice (some ⟨g, 0, none⟩) 1 1, S hd, S lo, S [], S yt, S cp, S tgx], .int .i64 10]) (by simp [results, Tryd.results46, go_sem, *]) rfl (givesR_err ⟨5, r.alg, [], hd, lo, [], yt, cp, tgx⟩ HE.out (by decide) ?_)
                   repeat' first
                    | refine Fr.setCell ?_ (.inr (by dsimp only; omega)) _
                    | refine Fr.alloc ?_ _
                    | refine Fr.drewN ?_ _
                    | exact HL.out.same
                  ·have h13z : ((r.iv : Int) == 13) = false := by simp; omega
                   have h13z2 : ¬ (r.iv : Int) = 13 := by omega
                   have HE : Hid (R = (⟨5, r.alg, [direct nm], hd, lo, [], yt, cp, tgx⟩, 0)) := Px.hid (by rw [HM.out, if_neg (by rintro (e | e); exact h7 e; exact h13 e.2)])
                   clear h7 h65 h13
                   go_wp2_with fail
                   try go_quiet (fail)
                   go_wp2
                   refine bodyPost_ret (v := .tuple #[.agg #[.int .i64 5, .int .i64 r.alg, .slice (some ⟨g, 0, none⟩) 1 1, S hd, S lo, S [], S yt, S cp, S tgx], .int .i64 0]) (by simp [results, Tryd.results46, go_sem, *]) rfl ?_
                   rw [HE.out]
                   refine ⟨⟨5, r.alg, [direct nm], hd, lo, [], yt, cp, tgx⟩, _, _, _, rfl, ?_, fun _ => ⟨rfl, owns_rec1 ?_, fun k e => ?_, rfl⟩⟩
                   ·repeat' first
                     | refine Fr.setCell ?_ (.inr (by dsimp only; omega)) _
                     | refine Fr.alloc ?_ _
                     | refine Fr.drewN ?_ _
                     | exact HL.out.same
                   ·have hne : ¬ g = w.heap.size + 1 + 1 + 1 := by omega
                    exact ((((((((HG.out.other _ hne).other _ hne).other _ hne).other _ hne).other _ hne).other _ hne).other _ hne).other _ hne).other _ hne
                   ·simp only [Value.ownBlock, Option.some.injEq] at e
                    omega
                 ·have h65z : decide ((65536 : Int) ≤ (tn : Int)) = false := by simp; omega
                  have HE : Hid (R = (⟨5, r.alg, [direct nm], hd, lo, [], yt, cp, tgx⟩, 0)) := Px.hid (by rw [HM.out, if_neg (by rintro (e | e); exact h7 e; exact h65 e.1)])
                  clear h7 h65
                  go_wp2_with fail
                  try go_quiet (fail)
                  go_wp2
                  refine bodyPost_ret (v := .tuple #[.agg #[.int .i64 5, .int .i64 r.alg, .slice (some ⟨g, 0, none⟩) 1 1, S hd, S lo, S [], S yt, S cp, S tgx], .int .i64 0]) (by simp [results, Tryd.results46, go_sem, *]) rfl ?_
                  rw [HE.out]
                  refine ⟨⟨5, r.alg, [direct nm], hd, lo, [], yt, cp, tgx⟩, _, _, _, rfl, ?_, fun _ => ⟨rfl, owns_rec1 ?_, fun k e => ?_, rfl⟩⟩
                  ·repeat' first
                    | refine Fr.setCell ?_ (.inr (by dsimp only; omega)) _
                    | refine Fr.alloc ?_ _
                    | refine Fr.drewN ?_ _
                    | exact HL.out.same
                  ·have hne : ¬ g = w.heap.size + 1 + 1 + 1 := by omega
                   exact ((((((((HG.out.other _ hne).other _ hne).other _ hne).other _ hne).other _ hne).other _ hne).other _ hne).other _ hne).other _ hne
                  ·simp only [Value.ownBlock, Option.some.injEq] at e
                   omega
              ·have HE : Hid (R = (zero, 9)) := Px.hid (by rw [HM.out, if_pos (.inr (.inl hli))])
               have hlz : ((yt.length : Int) != (r.iv : Int)) = true := by simp only [bne_iff_ne, ne_eq]; omega
               have hlz2 : ¬ (yt.length : Int) = (r.iv : Int) := by omega
               clear hli
               go_wp2_with fail
               try go_quiet (fail)
               go_wp2
               refine bodyPost_ret (v := .tuple #[.agg #[.int .i64 5, .int .i64 r.alg, .slice (some ⟨g, 0, none⟩) 1 1, S hd, S lo, S [], S [], S ci, S tg], .int .i64 9]) (by simp [results, Tryd.results46, go_sem, *]) rfl (givesR_err ⟨5, r.alg, [], hd, lo, [], [], ci, tg⟩ HE.out (by decide) ?_)
               repeat' first
                | refine Fr.setCell ?_ (.inr (by dsimp only; omega)) _
                | refine Fr.alloc ?_ _
                | refine Fr.drewN ?_ _
                | exact HL.out.same
             ·have HE : Hid (R = (zero, 9)) := Px.hid (by rw [HM.out, if_pos (.inl hk2)])
              have hkz : (yk != 2) = true := by simpa using hk2
              have hkz2 : ¬ yk = 2 := hk2
              clear hk2
              go_wp2_with fail
              try go_quiet (fail)
              go_wp2
              refine bodyPost_ret (v := .tuple #[.agg #[.int .i64 5, .int .i64 r.alg, .slice (some ⟨g, 0, none⟩) 1 1, S hd, S lo, S [], S [], S ci, S tg], .int .i64 9]) (by simp [results, Tryd.results46, go_sem, *]) rfl (givesR_err ⟨5, r.alg, [], hd, lo, [], [], ci, tg⟩ HE.out (by decide) ?_)
              repeat' first
               | refine Fr.setCell ?_ (.inr (by dsimp only; omega)) _
               | refine Fr.alloc ?_ _
               | refine Fr.drewN ?_ _
               | exact HL.out.same
    ·have hkz : (vk != 0) = true := by simpa using hk
     have hkz2 : ¬ vk = 0 := hk
     have HE : Hid (R = (zero, 11)) := Px.hid (by rw [HM.out, if_pos hk])
     clear hk
     go_wp2_with fail
     try go_quiet (fail)
     go_wp2
     refine bodyPost_ret (v := .tuple #[.agg #[.int .i64 5, .int .i64 0, .slice none 0 0, S hd, S lo, S [], S [], S ci, S tg], .int .i64 11]) (by simp [results, Tryd.results46, go_sem, *]) rfl (givesR_err ⟨5, 0, [], hd, lo, [], [], ci, tg⟩ HE.out (by decide) ?_)
     repeat' first
      | refine Fr.setCell ?_ (.inr (by dsimp only; omega)) _
      | refine Fr.alloc ?_ _
      | refine Fr.drewN ?_ _
      | exact HL.out.same
end Go.Proofs.YtddiabaagpmkgaaDoor
