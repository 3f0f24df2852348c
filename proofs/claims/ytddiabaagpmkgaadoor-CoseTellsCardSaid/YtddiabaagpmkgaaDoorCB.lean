/-
 Several texts in one: The walk over cose.pairs. The walks over the closure of cose.labels, slices.IndexFunc and slices.ContainsFunc. The walks over slices.Grow (of the nil slice) and slices.Concat, of headers. The walk over cose.labels.
-/
import Derived.Test.YtddiabaagpmkgaaDoorCA
import Derived.Test.YtddiabaagpmkgaaDoorAq
/-! The walk over cose.pairs. -/
namespace Go.Proofs.YtddiabaagpmkgaaDoor
open Go.RowKit Go.Px Go.Px.E7 Go.Px.Co
theorem okL_ways (x : Atom) : (okL x = true ∧ x.kind = 0) ∨ (okL x = true ∧ x.kind = 1) ∨ (okL x = true ∧ x.kind = 3) ∨ (okL x = false ∧ ¬ x.kind = 0 ∧ ¬ x.kind = 1 ∧ ¬ x.kind = 3) := by
 unfold okL
 by_cases h0 : x.kind = 0
 ·simp [h0]
 ·by_cases h1 : x.kind = 1
  ·simp [h1]
  ·by_cases h3 : x.kind = 3
   ·simp [h3]
   ·simp [h0, h1, h3]
/-- Pairs of the call's own. -/
structure PrsO (w wr : World) (v : Value) (h : Hdr) : Prop where
 own : Owns wr 116 7 cPair v h
 same : Same w wr
 new : ∀ g, v.ownBlock = some g → w.heap.size ≤ g
theorem PrsO.sm {w wr w2 : World} {v : Value} {h : Hdr} (x : PrsO w wr v h) (hs : Same wr w2) : PrsO w w2 v h := ⟨Owns.same x.own hs, x.same.trans hs, x.new⟩
theorem PrsO.push {w wr w1 : World} {v : Value} {h : Hdr} {p : Atom × Atom} {g cap : Nat} (x : PrsO w wr v h)
  (hown : w1.ownsRow 0 116 7 (.slice (some ⟨g, 0, none⟩) (h.length + 1) cap) (h.length + 1) (h.flatMap cPair ++ cPair p)) (hg : wr.grownBy w1 v.ownBlock) (hat : v.ownBlock = some g ∨ wr.heap.size ≤ g) :
  PrsO w w1 (.slice (some ⟨g, 0, none⟩) (h.length + 1) cap) (h ++ [p]) := by
 refine ⟨owns_append hown, Fr.grown x.same hg (fun k e => .inr (x.new k e)), fun g' hg' => ?_⟩
 simp only [Value.ownBlock, Option.some.injEq] at hg'
 subst hg'
 rcases hat with e | e
 ·exact x.new _ e
 ·exact Nat.le_trans x.same.size e
set_option maxRecDepth 100000 in
set_option maxHeartbeats 4000000 in
theorem cpairs_any (v : Value) (L : List Atom) (p m : Nat) (w : World) (h : Lies w 3 cAtom v L) (hl : L.length ≤ 4096) (hp : p < L.length) (hm : (L.getD p za).num = m) (hm2 : m ≤ 4096) (hr : Prs L m (p + 1)) :
  Calls Tryd.prog 54 #[v, .int .i64 p] w fun e w' => ∃ vo, e = .returned vo ∧ PrsO w w' vo (pairsF L m (p + 1)) := by
 obtain ⟨va, vc, hve, _, _⟩ := h.slice
 subst hve
 have H := Px.hid h
 have HR := Px.hid hr
 obtain ⟨xb, xo, xc, hve, hxb, hcx⟩ := h.cell p L[p] (by simp [hp])
 simp only [Value.slice.injEq, true_and] at hve
 obtain ⟨rfl, rfl⟩ := hve
 have hpz : (p : Int) < (L.length : Int) := by omega
 have x1 := hcx 1 _ rfl
 rw [← Nat.add_assoc] at x1
 have hLp : L[p].num = m := by rw [← hm, List.getD_eq_getElem?_getD, List.getElem?_eq_getElem hp]; rfl
 rw [hLp] at x1
 obtain ⟨i0, hi0, hz0, hz1, hz2⟩ := info_parts Tryd.infoPair
 clear h hr hcx hm hLp
 go_enter Tryd.func54, Tryd.ntmps54
 go_wp2
 clear x1
 go_loopg [4, 5, 14] m (fun gk t4 t5 t14 wr => ∃ (i next : Nat) (done : Hdr), gk + i = m ∧ t14 = .int .u64 i ∧ t5 = .int .i64 next ∧ next ≤ 4097 ∧ Hid (pairsF L m (p + 1) = done ++ pairsF L gk next ∧ Prs L gk next ∧ done.length = i ∧ PrsO w wr t4 done))
 case atStart => exact ⟨0, p + 1, [], rfl, rfl, by go_num, by omega, Px.hid ⟨rfl, HR.out, rfl, owns_nil _ _ _ _, Same.refl w, nofun⟩⟩
 case round =>
  obtain ⟨i, next, done, hgk, rfl, rfl, hn, HS⟩ := hrel
  by_cases hlt : i < m
  ·have hltz : (i : Int) < (m : Int) := by omega
   obtain ⟨g', rfl⟩ : ∃ g', gk = g' + 1 := ⟨gk - 1, by omega⟩
   obtain ⟨q, r, hq, hr, hrest⟩ := HS.out.2.1
   have hnq := hq.lt
   have hqr := hr.lt
   have hnl : next < L.length := by omega
   have hql : q < L.length := by omega
   have hnz : (next : Int) < (L.length : Int) := by omega
   have hqz : (q : Int) < (L.length : Int) := by omega
   have hxn : ∀ W, Same w W → W.cell? ⟨xb, xo + next * 3, none⟩ = some (.int .i64 L[next].kind) ∧ W.cell? ⟨xb, xo + next * 3 + 1, none⟩ = some (.int .u64 (L[next].num : Nat)) ∧ W.cell? ⟨xb, xo + next * 3 + 2, none⟩ = some (S L[next].text) := fun W hW => by
    obtain ⟨yb, yo, yc, hve, hyb, hcy⟩ := (Lies.same H.out hW).cell next L[next] (by simp [hnl])
    simp only [Value.slice.injEq, Option.some.injEq, Addr.mk.injEq, true_and, and_true] at hve
    obtain ⟨⟨rfl, rfl⟩, _⟩ := hve
    exact ⟨hcy 0 _ rfl, hcy 1 _ rfl, hcy 2 _ rfl⟩
   have hxq : ∀ W, Same w W → W.cell? ⟨xb, xo + q * 3, none⟩ = some (.int .i64 L[q].kind) ∧ W.cell? ⟨xb, xo + q * 3 + 1, none⟩ = some (.int .u64 (L[q].num : Nat)) ∧ W.cell? ⟨xb, xo + q * 3 + 2, none⟩ = some (S L[q].text) := fun W hW => by
    obtain ⟨yb, yo, yc, hve, hyb, hcy⟩ := (Lies.same H.out hW).cell q L[q] (by simp [hql])
    simp only [Value.slice.injEq, Option.some.injEq, Addr.mk.injEq, true_and, and_true] at hve
    obtain ⟨⟨rfl, rfl⟩, _⟩ := hve
    exact ⟨hcy 0 _ rfl, hcy 1 _ rfl, hcy 2 _ rfl⟩
   have hpf : pairsF L (g' + 1) next = (L[next], L[q]) :: pairsF L g' r := by
    rw [show pairsF L (g' + 1) next = (L.getD next za, L.getD (nx L next) za) :: pairsF L g' (nx L (nx L next)) from rfl]
    rw [hq.nx hl, hr.nx hl, List.getD_eq_getElem?_getD, List.getD_eq_getElem?_getD, List.getElem?_eq_getElem hnl, List.getElem?_eq_getElem hql]
    rfl
   obtain ⟨x, hx⟩ : ∃ x, x = L[next] := ⟨_, rfl⟩
   obtain ⟨y, hy⟩ : ∃ y, y = L[q] := ⟨_, rfl⟩
   rw [← hx] at hxn hpf
   rw [← hy] at hxq hpf
   obtain ⟨x0, x1, x2⟩ := hxn wr HS.out.2.2.2.same
   have HXQ := Px.hid hxq
   have HPF := Px.hid hpf
   have HQR := Px.hid (And.intro hq (And.intro hr hrest))
   have hlen := HS.out.2.2.1
   obtain ⟨a4, c4, hv4, hc41, hc42, _⟩ := HS.out.2.2.2.own.len
   have HO := Px.hid HS.out.2.2.2
   rw [hlen] at hv4 hc41
   subst hv4
   unfold maxLen at hc42
   have HDL := Px.hid hlen
   clear hxn hxq hx hy hpf hq hr hrest hlen
   go_wp2_with fail
   refine (cbehind_any _ L next q _ (Lies.same H.out (Fr.alloc HO.out.same _)) hl HQR.out.1).mono ?_
   rintro e w1 ⟨rfl, hs⟩
   have hb6 : w1.heap[wr.heap.size]? = some (.cells #[.int .i64 x.kind, .int .u64 (x.num : Nat), S x.text] 62 (0, 0)) := (hs.block _ (by simp) (fun x => x)).trans (heap_alloc_new wr _)
   have k0 : w1.cell? ⟨wr.heap.size, 0, none⟩ = some (.int .i64 x.kind) := cellOf hb6 0 rfl
   have k1 : w1.cell? ⟨wr.heap.size, 1, none⟩ = some (.int .u64 (x.num : Nat)) := cellOf hb6 1 rfl
   have k2 : w1.cell? ⟨wr.heap.size, 2, none⟩ = some (S x.text) := cellOf hb6 2 rfl
   have HO1 := Px.hid (HO.out.sm (Fr.trans (Fr.alloc (Fr.refl _ wr) _) hs (fun _ _ x => x)))
   obtain ⟨y0, y1, y2⟩ := HXQ.out w1 HO1.out.same
   have HW := Px.hid (okL_ways x)
   have ag : (Value.slice a4 i c4).ownBlock ≠ some wr.heap.size := fun e => by have := HO.out.own.lt e; omega
   have ak : (Value.slice a4 i c4).ownBlock ≠ some xb := fun e => by have := HO.out.new _ e; omega
   have lg : wr.heap.size < w1.heap.size := ltOf hb6
   have lx : xb < w1.heap.size := Nat.lt_of_lt_of_le hxb HO1.out.same.size
   have hi9 : i ≤ 4096 := by omega
   have HX : Hid (w1.ownsRow 0 116 7 (.slice a4 i c4) i (done.flatMap cPair)) := Px.hid (by have := HO1.out.own; unfold Owns at this; rw [HDL.out] at this; exact this)
   clear x0 x1 x2 hb6 hs
   go_upto_region 6 with fail
   go_cut [4] (fun t4 wx => PrsO w wx t4 (done ++ [(x, y)]))
   case first =>
    rcases HW.out with ⟨e1, e2⟩ | ⟨e1, e2⟩ | ⟨e1, e2⟩ | ⟨e1, e2, e3, e4⟩
    ·have HE := Px.hid e1
     have HK := Px.hid e2
     rw [e2] at k0
     clear e1 e2
     obtain ⟨SS, hSS⟩ : ∃ SS : World → Prop, SS = (fun W : World => W.cell? ⟨wr.heap.size, 0, none⟩ = some (.int .i64 0) ∧ W.cell? ⟨wr.heap.size, 1, none⟩ = some (.int .u64 (x.num : Nat)) ∧ W.cell? ⟨wr.heap.size, 2, none⟩ = some (S x.text) ∧ W.cell? ⟨xb, xo + q * 3, none⟩ = some (.int .i64 y.kind) ∧ W.cell? ⟨xb, xo + q * 3 + 1, none⟩ = some (.int .u64 (y.num : Nat)) ∧ W.cell? ⟨xb, xo + q * 3 + 2, none⟩ = some (S y.text)) := ⟨_, rfl⟩
     have hS0 : SS w1.drew := by rw [hSS]; exact ⟨k0, k1, k2, y0, y1, y2⟩
     refine wp_region_held_drew (S := SS) (by kernel_rfl) hS0 (fun hHeld => ?_)
     refine wpAnyH_take (i := 0) (v := ?_) rfl (by kernel_rfl) (by kernel_rfl) (by kernel_rfl) (fun _ _ _ h => h) (Or.inl ⟨by rfl, ?_⟩) (by assumption) ?_
     rotate_left
     ·intro w hw
      rw [hSS] at hw
      obtain ⟨k0, k1, k2, y0, y1, y2⟩ := hw
      go_simp
      try (with_reducible rfl)
     change wpAnyH _ _ _ _ _ _ _ (Act.put _ (some 23) _) _
     simp only [Act.put, List.setIfInBounds_toArray, List.set_cons_zero, List.set_cons_succ]
     refine wpAnyH_take (i := 1) (v := ?_) rfl (by kernel_rfl) (by kernel_rfl) (by kernel_rfl) (fun _ _ _ h => h) (Or.inl ⟨by rfl, ?_⟩) (by assumption) ?_
     rotate_left
     ·intro w hw
      rw [hSS] at hw
      obtain ⟨k0, k1, k2, y0, y1, y2⟩ := hw
      go_simp
      try (with_reducible rfl)
     change wpAnyH _ _ _ _ _ _ _ (Act.put _ (some 24) _) _
     simp only [Act.put, List.setIfInBounds_toArray, List.set_cons_zero, List.set_cons_succ]
     refine wpAnyH_take (i := 2) (v := ?_) rfl (by kernel_rfl) (by kernel_rfl) (by kernel_rfl) (fun _ _ _ h => h) (Or.inl ⟨by rfl, ?_⟩) (by assumption) ?_
     rotate_left
     ·intro w hw
      rw [hSS] at hw
      obtain ⟨k0, k1, k2, y0, y1, y2⟩ := hw
      go_simp
      try (with_reducible rfl)
     change wpAnyH _ _ _ _ _ _ _ (Act.put _ (some 25) _) _
     simp only [Act.put, List.setIfInBounds_toArray, List.set_cons_zero, List.set_cons_succ]
     refine wpAnyH_take (i := 3) (v := ?_) rfl (by kernel_rfl) (by kernel_rfl) (by kernel_rfl) (fun _ _ _ h => h) (Or.inl ⟨by rfl, ?_⟩) (by assumption) ?_
     rotate_left
     ·intro w hw
      rw [hSS] at hw
      obtain ⟨k0, k1, k2, y0, y1, y2⟩ := hw
      go_simp
      try (with_reducible rfl)
     change wpAnyH _ _ _ _ _ _ _ (Act.put _ (some 26) _) _
     simp only [Act.put, List.setIfInBounds_toArray, List.set_cons_zero, List.set_cons_succ]
     refine wpAnyH_take (i := 4) (v := ?_) rfl (by kernel_rfl) (by kernel_rfl) (by kernel_rfl) (fun _ _ _ h => h) (Or.inl ⟨by rfl, ?_⟩) (by assumption) ?_
     rotate_left
     ·intro w hw
      rw [hSS] at hw
      obtain ⟨k0, k1, k2, y0, y1, y2⟩ := hw
      go_simp
      try (with_reducible rfl)
     change wpAnyH _ _ _ _ _ _ _ (Act.put _ (some 27) _) _
     simp only [Act.put, List.setIfInBounds_toArray, List.set_cons_zero, List.set_cons_succ]
     refine wpAnyH_take (i := 5) (v := ?_) rfl (by kernel_rfl) (by kernel_rfl) (by kernel_rfl) (fun _ _ _ h => h) (Or.inl ⟨by rfl, ?_⟩) (by assumption) ?_
     rotate_left
     ·intro w hw
      rw [hSS] at hw
      obtain ⟨k0, k1, k2, y0, y1, y2⟩ := hw
      go_simp
      try (with_reducible rfl)
     change wpAnyH _ _ _ _ _ _ _ (Act.put _ (some 28) _) _
     simp only [Act.put, List.setIfInBounds_toArray, List.set_cons_zero, List.set_cons_succ]
     refine wpAnyH_take (i := 6) (v := ?_) rfl (by kernel_rfl) (by kernel_rfl) (by kernel_rfl) (fun _ _ _ h => h) (Or.inl ⟨by rfl, ?_⟩) (by assumption) ?_
     rotate_left
     ·intro w hw
      rw [hSS] at hw
      obtain ⟨k0, k1, k2, y0, y1, y2⟩ := hw
      go_simp
      try (with_reducible rfl)
     change wpAnyH _ _ _ _ _ _ _ (Act.put _ (some 29) _) _
     simp only [Act.put, List.setIfInBounds_toArray, List.set_cons_zero, List.set_cons_succ]
     refine wpAnyH_take (i := 7) (v := ?_) rfl (by kernel_rfl) (by kernel_rfl) (by kernel_rfl) (fun _ _ _ h => h) (Or.inl ⟨by rfl, ?_⟩) (by assumption) ?_
     rotate_left
     ·intro w hw
      rw [hSS] at hw
      obtain ⟨k0, k1, k2, y0, y1, y2⟩ := hw
      go_simp
      try (with_reducible rfl)
     change wpAnyH _ _ _ _ _ _ _ (Act.put _ (some 30) _) _
     simp only [Act.put, List.setIfInBounds_toArray, List.set_cons_zero, List.set_cons_succ]
     refine wpAnyH_take (i := 8) (v := ?_) rfl (by kernel_rfl) (by kernel_rfl) (by kernel_rfl) (fun _ _ _ h => h) (Or.inl ⟨by rfl, ?_⟩) (by assumption) ?_
     rotate_left
     ·intro w hw
      rw [hSS] at hw
      obtain ⟨k0, k1, k2, y0, y1, y2⟩ := hw
      go_simp
      try (with_reducible rfl)
     change wpAnyH _ _ _ _ _ _ _ (Act.put _ (some 31) _) _
     simp only [Act.put, List.setIfInBounds_toArray, List.set_cons_zero, List.set_cons_succ]
     refine wpAnyH_take (i := 9) (v := ?_) rfl (by kernel_rfl) (by kernel_rfl) (by kernel_rfl) (fun _ _ _ h => h) (Or.inl ⟨by rfl, ?_⟩) (by assumption) ?_
     rotate_left
     ·intro w hw
      rw [hSS] at hw
      obtain ⟨k0, k1, k2, y0, y1, y2⟩ := hw
      go_simp
      try (with_reducible rfl)
     change wpAnyH _ _ _ _ _ _ _ (Act.put _ (some 32) _) _
     simp only [Act.put, List.setIfInBounds_toArray, List.set_cons_zero, List.set_cons_succ]
     refine wpAnyH_take (i := 10) (v := undef) rfl (by kernel_rfl) (by kernel_rfl) (by kernel_rfl) (fun _ _ _ h => h) (Or.inr ⟨by rfl, rfl⟩) (by assumption) ?_
     change wpAnyH _ _ _ _ _ _ _ (Act.put _ (some 33) _) _
     simp only [Act.put, List.setIfInBounds_toArray, List.set_cons_zero, List.set_cons_succ]
     refine wpAnyH_take (i := 11) (v := undef) rfl (by kernel_rfl) (by kernel_rfl) (by kernel_rfl) (fun _ _ _ h => h) (Or.inr ⟨by rfl, rfl⟩) (by assumption) ?_
     change wpAnyH _ _ _ _ _ _ _ (Act.put _ (some 34) _) _
     simp only [Act.put, List.setIfInBounds_toArray, List.set_cons_zero, List.set_cons_succ]
     refine wpAnyH_take (i := 12) (v := undef) rfl (by kernel_rfl) (by kernel_rfl) (by kernel_rfl) (fun _ _ _ h => h) (Or.inr ⟨by rfl, rfl⟩) (by assumption) ?_
     change wpAnyH _ _ _ _ _ _ _ (Act.put _ (some 35) _) _
     simp only [Act.put, List.setIfInBounds_toArray, List.set_cons_zero, List.set_cons_succ]
     refine wpAnyH_take (i := 13) (v := ?_) rfl (by kernel_rfl) (by kernel_rfl) (by kernel_rfl) (fun _ _ _ h => h) (Or.inl ⟨by rfl, ?_⟩) (by assumption) ?_
     rotate_left
     ·intro w hw
      rw [hSS] at hw
      obtain ⟨k0, k1, k2, y0, y1, y2⟩ := hw
      go_simp
      try (with_reducible rfl)
     change wpAnyH _ _ _ _ _ _ _ (Act.put _ (some 36) _) _
     simp only [Act.put, List.setIfInBounds_toArray, List.set_cons_zero, List.set_cons_succ]
     refine wpAnyH_take (i := 14) (v := ?_) rfl (by kernel_rfl) (by kernel_rfl) (by kernel_rfl) (fun _ _ _ h => h) (Or.inl ⟨by rfl, ?_⟩) (by assumption) ?_
     rotate_left
     ·intro w hw
      rw [hSS] at hw
      obtain ⟨k0, k1, k2, y0, y1, y2⟩ := hw
      go_simp
      try (with_reducible rfl)
     change wpAnyH _ _ _ _ _ _ _ (Act.put _ (some 37) _) _
     simp only [Act.put, List.setIfInBounds_toArray, List.set_cons_zero, List.set_cons_succ]
     refine wpAnyH_take (i := 15) (v := undef) rfl (by kernel_rfl) (by kernel_rfl) (by kernel_rfl) (fun _ _ _ h => h) (Or.inr ⟨by rfl, rfl⟩) (by assumption) ?_
     change wpAnyH _ _ _ _ _ _ _ (Act.put _ (some 38) _) _
     simp only [Act.put, List.setIfInBounds_toArray, List.set_cons_zero, List.set_cons_succ]
     refine wpAnyH_take (i := 16) (v := undef) rfl (by kernel_rfl) (by kernel_rfl) (by kernel_rfl) (fun _ _ _ h => h) (Or.inr ⟨by rfl, rfl⟩) (by assumption) ?_
     change wpAnyH _ _ _ _ _ _ _ (Act.put _ (some 39) _) _
     simp only [Act.put, List.setIfInBounds_toArray, List.set_cons_zero, List.set_cons_succ]
     refine wpAnyH_take (i := 17) (v := undef) rfl (by kernel_rfl) (by kernel_rfl) (by kernel_rfl) (fun _ _ _ h => h) (Or.inr ⟨by rfl, rfl⟩) (by assumption) ?_
     change wpAnyH _ _ _ _ _ _ _ (Act.put _ (some 40) _) _
     simp only [Act.put, List.setIfInBounds_toArray, List.set_cons_zero, List.set_cons_succ]
     refine wpAnyH_take (i := 18) (v := ?_) rfl (by kernel_rfl) (by kernel_rfl) (by kernel_rfl) (fun _ _ _ h => h) (Or.inl ⟨by rfl, ?_⟩) (by assumption) ?_
     rotate_left
     ·intro w hw
      rw [hSS] at hw
      obtain ⟨k0, k1, k2, y0, y1, y2⟩ := hw
      go_simp
      try (with_reducible rfl)
     change wpAnyH _ _ _ _ _ _ _ (Act.put _ (some 41) _) _
     simp only [Act.put, List.setIfInBounds_toArray, List.set_cons_zero, List.set_cons_succ]
     refine wpAnyH_take (i := 19) (v := ?_) rfl (by kernel_rfl) (by kernel_rfl) (by kernel_rfl) (fun _ _ _ h => h) (Or.inl ⟨by rfl, ?_⟩) (by assumption) ?_
     rotate_left
     ·intro w hw
      rw [hSS] at hw
      obtain ⟨k0, k1, k2, y0, y1, y2⟩ := hw
      go_simp
      try (with_reducible rfl)
     change wpAnyH _ _ _ _ _ _ _ (Act.put _ (some 42) _) _
     simp only [Act.put, List.setIfInBounds_toArray, List.set_cons_zero, List.set_cons_succ]
     clear hHeld
     refine wpAnyH_ready (rs := [20]) (by kernel_rfl) (by simp) ?_
     refine AllReadyH.cons rfl (fun K hK => ?_) AllReadyH.nil
     go_simp
     refine Shut.out hK _ _ ?_ (fun hHeld => ?_)
     ·rw [hSS]
      go_keep
     clear hK K
     refine wpAnyH_ready (rs := [21]) (by kernel_rfl) (by simp) ?_
     refine AllReadyH.cons rfl (fun K hK => ?_) AllReadyH.nil
     refine step_append_lies _ (by rfl) _ _ _ (by rfl) 0 116 i0 _ 7 72 Tryd.underlying86 hi0 hz0 hz1 hz2 rfl (by omega) (.slice a4 i c4) i (done.flatMap cPair) (by rfl) ((HX.out.alloc _).drew)
       ⟨w1.heap.size, 0, none⟩ 1 1 [.int .i64 0, .int .u64 (x.num : Nat), S x.text, .int .i64 y.kind, .int .u64 (y.num : Nat), S y.text, .bool true] (by rfl) (by rfl) (World.news_of_block (cs := #[.int .i64 0, .int .u64 (x.num : Nat), S x.text, .int .i64 y.kind, .int .u64 (y.num : Nat), S y.text, .bool true]) (t := 116) (fr := (0, 0)) (heap_alloc_new w1 _)) (by simp [Value.oneCell'])
       (by omega) (by unfold maxLen; omega) (by omega) (by simp) (w1.heap.size + 1) (by simp) ?_
     intro gg cap w3 hown1 hgrow hat hlt3
     refine Shut.out hK _ _ ?_ (fun hHeld => ?_)
     ·rw [hSS]
      refine ⟨?_, ?_, ?_, ?_, ?_, ?_⟩
      ·rw [hgrow.cell_far _ (by simp; omega) (Ne.symm ag)]; exact cell_alloc k0
      ·rw [hgrow.cell_far _ (by simp; omega) (Ne.symm ag)]; exact cell_alloc k1
      ·rw [hgrow.cell_far _ (by simp; omega) (Ne.symm ag)]; exact cell_alloc k2
      ·rw [hgrow.cell_far _ (by simp; omega) (Ne.symm ak)]; exact cell_alloc y0
      ·rw [hgrow.cell_far _ (by simp; omega) (Ne.symm ak)]; exact cell_alloc y1
      ·rw [hgrow.cell_far _ (by simp; omega) (Ne.symm ak)]; exact cell_alloc y2
     clear hK K
     refine wpAnyH_ready (rs := [22]) (by kernel_rfl) (by simp) ?_
     refine AllReadyH.cons rfl (fun K hK => ?_) AllReadyH.nil
     go_simp
     refine Shut.out hK _ _ hHeld (fun hHeld => ?_)
     clear hK K
     refine wpAnyH_done (by kernel_rfl) ?_ _
     go_wp2_with fail
     go_meet
     have hdl := HDL.out
     subst hdl
     refine HO1.out.push (p := (x, y)) (g := gg) (cap := cap) ?_ (grown_alloc hgrow) (hat.imp id (fun e => by omega))
     rw [show cPair (x, y) = [.int .i64 0, .int .u64 (x.num : Nat), S x.text, .int .i64 y.kind, .int .u64 (y.num : Nat), S y.text, .bool true] by
      unfold cPair
      simp only [HE.out, HK.out]]
     exact hown1
    ·have HE := Px.hid e1
     have HK := Px.hid e2
     rw [e2] at k0
     clear e1 e2
     obtain ⟨SS, hSS⟩ : ∃ SS : World → Prop, SS = (fun W : World => W.cell? ⟨wr.heap.size, 0, none⟩ = some (.int .i64 1) ∧ W.cell? ⟨wr.heap.size, 1, none⟩ = some (.int .u64 (x.num : Nat)) ∧ W.cell? ⟨wr.heap.size, 2, none⟩ = some (S x.text) ∧ W.cell? ⟨xb, xo + q * 3, none⟩ = some (.int .i64 y.kind) ∧ W.cell? ⟨xb, xo + q * 3 + 1, none⟩ = some (.int .u64 (y.num : Nat)) ∧ W.cell? ⟨xb, xo + q * 3 + 2, none⟩ = some (S y.text)) := ⟨_, rfl⟩
     have hS0 : SS w1.drew := by rw [hSS]; exact ⟨k0, k1, k2, y0, y1, y2⟩
     refine wp_region_held_drew (S := SS) (by kernel_rfl) hS0 (fun hHeld => ?_)
     refine wpAnyH_take (i := 0) (v := ?_) rfl (by kernel_rfl) (by kernel_rfl) (by kernel_rfl) (fun _ _ _ h => h) (Or.inl ⟨by rfl, ?_⟩) (by assumption) ?_
     rotate_left
     ·intro w hw
      rw [hSS] at hw
      obtain ⟨k0, k1, k2, y0, y1, y2⟩ := hw
      go_simp
      try (with_reducible rfl)
     change wpAnyH _ _ _ _ _ _ _ (Act.put _ (some 23) _) _
     simp only [Act.put, List.setIfInBounds_toArray, List.set_cons_zero, List.set_cons_succ]
     refine wpAnyH_take (i := 1) (v := ?_) rfl (by kernel_rfl) (by kernel_rfl) (by kernel_rfl) (fun _ _ _ h => h) (Or.inl ⟨by rfl, ?_⟩) (by assumption) ?_
     rotate_left
     ·intro w hw
      rw [hSS] at hw
      obtain ⟨k0, k1, k2, y0, y1, y2⟩ := hw
      go_simp
      try (with_reducible rfl)
     change wpAnyH _ _ _ _ _ _ _ (Act.put _ (some 24) _) _
     simp only [Act.put, List.setIfInBounds_toArray, List.set_cons_zero, List.set_cons_succ]
     refine wpAnyH_take (i := 2) (v := ?_) rfl (by kernel_rfl) (by kernel_rfl) (by kernel_rfl) (fun _ _ _ h => h) (Or.inl ⟨by rfl, ?_⟩) (by assumption) ?_
     rotate_left
     ·intro w hw
      rw [hSS] at hw
      obtain ⟨k0, k1, k2, y0, y1, y2⟩ := hw
      go_simp
      try (with_reducible rfl)
     change wpAnyH _ _ _ _ _ _ _ (Act.put _ (some 25) _) _
     simp only [Act.put, List.setIfInBounds_toArray, List.set_cons_zero, List.set_cons_succ]
     refine wpAnyH_take (i := 3) (v := ?_) rfl (by kernel_rfl) (by kernel_rfl) (by kernel_rfl) (fun _ _ _ h => h) (Or.inl ⟨by rfl, ?_⟩) (by assumption) ?_
     rotate_left
     ·intro w hw
      rw [hSS] at hw
      obtain ⟨k0, k1, k2, y0, y1, y2⟩ := hw
      go_simp
      try (with_reducible rfl)
     change wpAnyH _ _ _ _ _ _ _ (Act.put _ (some 26) _) _
     simp only [Act.put, List.setIfInBounds_toArray, List.set_cons_zero, List.set_cons_succ]
     refine wpAnyH_take (i := 4) (v := ?_) rfl (by kernel_rfl) (by kernel_rfl) (by kernel_rfl) (fun _ _ _ h => h) (Or.inl ⟨by rfl, ?_⟩) (by assumption) ?_
     rotate_left
     ·intro w hw
      rw [hSS] at hw
      obtain ⟨k0, k1, k2, y0, y1, y2⟩ := hw
      go_simp
      try (with_reducible rfl)
     change wpAnyH _ _ _ _ _ _ _ (Act.put _ (some 27) _) _
     simp only [Act.put, List.setIfInBounds_toArray, List.set_cons_zero, List.set_cons_succ]
     refine wpAnyH_take (i := 5) (v := ?_) rfl (by kernel_rfl) (by kernel_rfl) (by kernel_rfl) (fun _ _ _ h => h) (Or.inl ⟨by rfl, ?_⟩) (by assumption) ?_
     rotate_left
     ·intro w hw
      rw [hSS] at hw
      obtain ⟨k0, k1, k2, y0, y1, y2⟩ := hw
      go_simp
      try (with_reducible rfl)
     change wpAnyH _ _ _ _ _ _ _ (Act.put _ (some 28) _) _
     simp only [Act.put, List.setIfInBounds_toArray, List.set_cons_zero, List.set_cons_succ]
     refine wpAnyH_take (i := 6) (v := ?_) rfl (by kernel_rfl) (by kernel_rfl) (by kernel_rfl) (fun _ _ _ h => h) (Or.inl ⟨by rfl, ?_⟩) (by assumption) ?_
     rotate_left
     ·intro w hw
      rw [hSS] at hw
      obtain ⟨k0, k1, k2, y0, y1, y2⟩ := hw
      go_simp
      try (with_reducible rfl)
     change wpAnyH _ _ _ _ _ _ _ (Act.put _ (some 29) _) _
     simp only [Act.put, List.setIfInBounds_toArray, List.set_cons_zero, List.set_cons_succ]
     refine wpAnyH_take (i := 7) (v := ?_) rfl (by kernel_rfl) (by kernel_rfl) (by kernel_rfl) (fun _ _ _ h => h) (Or.inl ⟨by rfl, ?_⟩) (by assumption) ?_
     rotate_left
     ·intro w hw
      rw [hSS] at hw
      obtain ⟨k0, k1, k2, y0, y1, y2⟩ := hw
      go_simp
      try (with_reducible rfl)
     change wpAnyH _ _ _ _ _ _ _ (Act.put _ (some 30) _) _
     simp only [Act.put, List.setIfInBounds_toArray, List.set_cons_zero, List.set_cons_succ]
     refine wpAnyH_take (i := 8) (v := ?_) rfl (by kernel_rfl) (by kernel_rfl) (by kernel_rfl) (fun _ _ _ h => h) (Or.inl ⟨by rfl, ?_⟩) (by assumption) ?_
     rotate_left
     ·intro w hw
      rw [hSS] at hw
      obtain ⟨k0, k1, k2, y0, y1, y2⟩ := hw
      go_simp
      try (with_reducible rfl)
     change wpAnyH _ _ _ _ _ _ _ (Act.put _ (some 31) _) _
     simp only [Act.put, List.setIfInBounds_toArray, List.set_cons_zero, List.set_cons_succ]
     refine wpAnyH_take (i := 9) (v := ?_) rfl (by kernel_rfl) (by kernel_rfl) (by kernel_rfl) (fun _ _ _ h => h) (Or.inl ⟨by rfl, ?_⟩) (by assumption) ?_
     rotate_left
     ·intro w hw
      rw [hSS] at hw
      obtain ⟨k0, k1, k2, y0, y1, y2⟩ := hw
      go_simp
      try (with_reducible rfl)
     change wpAnyH _ _ _ _ _ _ _ (Act.put _ (some 32) _) _
     simp only [Act.put, List.setIfInBounds_toArray, List.set_cons_zero, List.set_cons_succ]
     refine wpAnyH_take (i := 10) (v := ?_) rfl (by kernel_rfl) (by kernel_rfl) (by kernel_rfl) (fun _ _ _ h => h) (Or.inl ⟨by rfl, ?_⟩) (by assumption) ?_
     rotate_left
     ·intro w hw
      rw [hSS] at hw
      obtain ⟨k0, k1, k2, y0, y1, y2⟩ := hw
      go_simp
      try (with_reducible rfl)
     change wpAnyH _ _ _ _ _ _ _ (Act.put _ (some 33) _) _
     simp only [Act.put, List.setIfInBounds_toArray, List.set_cons_zero, List.set_cons_succ]
     refine wpAnyH_take (i := 11) (v := ?_) rfl (by kernel_rfl) (by kernel_rfl) (by kernel_rfl) (fun _ _ _ h => h) (Or.inl ⟨by rfl, ?_⟩) (by assumption) ?_
     rotate_left
     ·intro w hw
      rw [hSS] at hw
      obtain ⟨k0, k1, k2, y0, y1, y2⟩ := hw
      go_simp
      try (with_reducible rfl)
     change wpAnyH _ _ _ _ _ _ _ (Act.put _ (some 34) _) _
     simp only [Act.put, List.setIfInBounds_toArray, List.set_cons_zero, List.set_cons_succ]
     refine wpAnyH_take (i := 12) (v := ?_) rfl (by kernel_rfl) (by kernel_rfl) (by kernel_rfl) (fun _ _ _ h => h) (Or.inl ⟨by rfl, ?_⟩) (by assumption) ?_
     rotate_left
     ·intro w hw
      rw [hSS] at hw
      obtain ⟨k0, k1, k2, y0, y1, y2⟩ := hw
      go_simp
      try (with_reducible rfl)
     change wpAnyH _ _ _ _ _ _ _ (Act.put _ (some 35) _) _
     simp only [Act.put, List.setIfInBounds_toArray, List.set_cons_zero, List.set_cons_succ]
     refine wpAnyH_take (i := 13) (v := ?_) rfl (by kernel_rfl) (by kernel_rfl) (by kernel_rfl) (fun _ _ _ h => h) (Or.inl ⟨by rfl, ?_⟩) (by assumption) ?_
     rotate_left
     ·intro w hw
      rw [hSS] at hw
      obtain ⟨k0, k1, k2, y0, y1, y2⟩ := hw
      go_simp
      try (with_reducible rfl)
     change wpAnyH _ _ _ _ _ _ _ (Act.put _ (some 36) _) _
     simp only [Act.put, List.setIfInBounds_toArray, List.set_cons_zero, List.set_cons_succ]
     refine wpAnyH_take (i := 14) (v := ?_) rfl (by kernel_rfl) (by kernel_rfl) (by kernel_rfl) (fun _ _ _ h => h) (Or.inl ⟨by rfl, ?_⟩) (by assumption) ?_
     rotate_left
     ·intro w hw
      rw [hSS] at hw
      obtain ⟨k0, k1, k2, y0, y1, y2⟩ := hw
      go_simp
      try (with_reducible rfl)
     change wpAnyH _ _ _ _ _ _ _ (Act.put _ (some 37) _) _
     simp only [Act.put, List.setIfInBounds_toArray, List.set_cons_zero, List.set_cons_succ]
     refine wpAnyH_take (i := 15) (v := undef) rfl (by kernel_rfl) (by kernel_rfl) (by kernel_rfl) (fun _ _ _ h => h) (Or.inr ⟨by rfl, rfl⟩) (by assumption) ?_
     change wpAnyH _ _ _ _ _ _ _ (Act.put _ (some 38) _) _
     simp only [Act.put, List.setIfInBounds_toArray, List.set_cons_zero, List.set_cons_succ]
     refine wpAnyH_take (i := 16) (v := undef) rfl (by kernel_rfl) (by kernel_rfl) (by kernel_rfl) (fun _ _ _ h => h) (Or.inr ⟨by rfl, rfl⟩) (by assumption) ?_
     change wpAnyH _ _ _ _ _ _ _ (Act.put _ (some 39) _) _
     simp only [Act.put, List.setIfInBounds_toArray, List.set_cons_zero, List.set_cons_succ]
     refine wpAnyH_take (i := 17) (v := undef) rfl (by kernel_rfl) (by kernel_rfl) (by kernel_rfl) (fun _ _ _ h => h) (Or.inr ⟨by rfl, rfl⟩) (by assumption) ?_
     change wpAnyH _ _ _ _ _ _ _ (Act.put _ (some 40) _) _
     simp only [Act.put, List.setIfInBounds_toArray, List.set_cons_zero, List.set_cons_succ]
     refine wpAnyH_take (i := 18) (v := ?_) rfl (by kernel_rfl) (by kernel_rfl) (by kernel_rfl) (fun _ _ _ h => h) (Or.inl ⟨by rfl, ?_⟩) (by assumption) ?_
     rotate_left
     ·intro w hw
      rw [hSS] at hw
      obtain ⟨k0, k1, k2, y0, y1, y2⟩ := hw
      go_simp
      try (with_reducible rfl)
     change wpAnyH _ _ _ _ _ _ _ (Act.put _ (some 41) _) _
     simp only [Act.put, List.setIfInBounds_toArray, List.set_cons_zero, List.set_cons_succ]
     refine wpAnyH_take (i := 19) (v := ?_) rfl (by kernel_rfl) (by kernel_rfl) (by kernel_rfl) (fun _ _ _ h => h) (Or.inl ⟨by rfl, ?_⟩) (by assumption) ?_
     rotate_left
     ·intro w hw
      rw [hSS] at hw
      obtain ⟨k0, k1, k2, y0, y1, y2⟩ := hw
      go_simp
      try (with_reducible rfl)
     change wpAnyH _ _ _ _ _ _ _ (Act.put _ (some 42) _) _
     simp only [Act.put, List.setIfInBounds_toArray, List.set_cons_zero, List.set_cons_succ]
     clear hHeld
     refine wpAnyH_ready (rs := [20]) (by kernel_rfl) (by simp) ?_
     refine AllReadyH.cons rfl (fun K hK => ?_) AllReadyH.nil
     go_simp
     refine Shut.out hK _ _ ?_ (fun hHeld => ?_)
     ·rw [hSS]
      go_keep
     clear hK K
     refine wpAnyH_ready (rs := [21]) (by kernel_rfl) (by simp) ?_
     refine AllReadyH.cons rfl (fun K hK => ?_) AllReadyH.nil
     refine step_append_lies _ (by rfl) _ _ _ (by rfl) 0 116 i0 _ 7 72 Tryd.underlying86 hi0 hz0 hz1 hz2 rfl (by omega) (.slice a4 i c4) i (done.flatMap cPair) (by rfl) ((HX.out.alloc _).drew)
       ⟨w1.heap.size, 0, none⟩ 1 1 [.int .i64 1, .int .u64 (x.num : Nat), S x.text, .int .i64 y.kind, .int .u64 (y.num : Nat), S y.text, .bool true] (by rfl) (by rfl) (World.news_of_block (cs := #[.int .i64 1, .int .u64 (x.num : Nat), S x.text, .int .i64 y.kind, .int .u64 (y.num : Nat), S y.text, .bool true]) (t := 116) (fr := (0, 0)) (heap_alloc_new w1 _)) (by simp [Value.oneCell'])
       (by omega) (by unfold maxLen; omega) (by omega) (by simp) (w1.heap.size + 1) (by simp) ?_
     intro gg cap w3 hown1 hgrow hat hlt3
     refine Shut.out hK _ _ ?_ (fun hHeld => ?_)
     ·rw [hSS]
      refine ⟨?_, ?_, ?_, ?_, ?_, ?_⟩
      ·rw [hgrow.cell_far _ (by simp; omega) (Ne.symm ag)]; exact cell_alloc k0
      ·rw [hgrow.cell_far _ (by simp; omega) (Ne.symm ag)]; exact cell_alloc k1
      ·rw [hgrow.cell_far _ (by simp; omega) (Ne.symm ag)]; exact cell_alloc k2
      ·rw [hgrow.cell_far _ (by simp; omega) (Ne.symm ak)]; exact cell_alloc y0
      ·rw [hgrow.cell_far _ (by simp; omega) (Ne.symm ak)]; exact cell_alloc y1
      ·rw [hgrow.cell_far _ (by simp; omega) (Ne.symm ak)]; exact cell_alloc y2
     clear hK K
     refine wpAnyH_ready (rs := [22]) (by kernel_rfl) (by simp) ?_
     refine AllReadyH.cons rfl (fun K hK => ?_) AllReadyH.nil
     go_simp
     refine Shut.out hK _ _ hHeld (fun hHeld => ?_)
     clear hK K
     refine wpAnyH_done (by kernel_rfl) ?_ _
     go_wp2_with fail
     go_meet
     have hdl := HDL.out
     subst hdl
     refine HO1.out.push (p := (x, y)) (g := gg) (cap := cap) ?_ (grown_alloc hgrow) (hat.imp id (fun e => by omega))
     rw [show cPair (x, y) = [.int .i64 1, .int .u64 (x.num : Nat), S x.text, .int .i64 y.kind, .int .u64 (y.num : Nat), S y.text, .bool true] by
      unfold cPair
      simp only [HE.out, HK.out]]
     exact hown1
    ·have HE := Px.hid e1
     have HK := Px.hid e2
     rw [e2] at k0
     clear e1 e2
     obtain ⟨SS, hSS⟩ : ∃ SS : World → Prop, SS = (fun W : World => W.cell? ⟨wr.heap.size, 0, none⟩ = some (.int .i64 3) ∧ W.cell? ⟨wr.heap.size, 1, none⟩ = some (.int .u64 (x.num : Nat)) ∧ W.cell? ⟨wr.heap.size, 2, none⟩ = some (S x.text) ∧ W.cell? ⟨xb, xo + q * 3, none⟩ = some (.int .i64 y.kind) ∧ W.cell? ⟨xb, xo + q * 3 + 1, none⟩ = some (.int .u64 (y.num : Nat)) ∧ W.cell? ⟨xb, xo + q * 3 + 2, none⟩ = some (S y.text)) := ⟨_, rfl⟩
     have hS0 : SS w1.drew := by rw [hSS]; exact ⟨k0, k1, k2, y0, y1, y2⟩
     refine wp_region_held_drew (S := SS) (by kernel_rfl) hS0 (fun hHeld => ?_)
     refine wpAnyH_take (i := 0) (v := ?_) rfl (by kernel_rfl) (by kernel_rfl) (by kernel_rfl) (fun _ _ _ h => h) (Or.inl ⟨by rfl, ?_⟩) (by assumption) ?_
     rotate_left
     ·intro w hw
      rw [hSS] at hw
      obtain ⟨k0, k1, k2, y0, y1, y2⟩ := hw
      go_simp
      try (with_reducible rfl)
     change wpAnyH _ _ _ _ _ _ _ (Act.put _ (some 23) _) _
     simp only [Act.put, List.setIfInBounds_toArray, List.set_cons_zero, List.set_cons_succ]
     refine wpAnyH_take (i := 1) (v := ?_) rfl (by kernel_rfl) (by kernel_rfl) (by kernel_rfl) (fun _ _ _ h => h) (Or.inl ⟨by rfl, ?_⟩) (by assumption) ?_
     rotate_left
     ·intro w hw
      rw [hSS] at hw
      obtain ⟨k0, k1, k2, y0, y1, y2⟩ := hw
      go_simp
      try (with_reducible rfl)
     change wpAnyH _ _ _ _ _ _ _ (Act.put _ (some 24) _) _
     simp only [Act.put, List.setIfInBounds_toArray, List.set_cons_zero, List.set_cons_succ]
     refine wpAnyH_take (i := 2) (v := ?_) rfl (by kernel_rfl) (by kernel_rfl) (by kernel_rfl) (fun _ _ _ h => h) (Or.inl ⟨by rfl, ?_⟩) (by assumption) ?_
     rotate_left
     ·intro w hw
      rw [hSS] at hw
      obtain ⟨k0, k1, k2, y0, y1, y2⟩ := hw
      go_simp
      try (with_reducible rfl)
     change wpAnyH _ _ _ _ _ _ _ (Act.put _ (some 25) _) _
     simp only [Act.put, List.setIfInBounds_toArray, List.set_cons_zero, List.set_cons_succ]
     refine wpAnyH_take (i := 3) (v := ?_) rfl (by kernel_rfl) (by kernel_rfl) (by kernel_rfl) (fun _ _ _ h => h) (Or.inl ⟨by rfl, ?_⟩) (by assumption) ?_
     rotate_left
     ·intro w hw
      rw [hSS] at hw
      obtain ⟨k0, k1, k2, y0, y1, y2⟩ := hw
      go_simp
      try (with_reducible rfl)
     change wpAnyH _ _ _ _ _ _ _ (Act.put _ (some 26) _) _
     simp only [Act.put, List.setIfInBounds_toArray, List.set_cons_zero, List.set_cons_succ]
     refine wpAnyH_take (i := 4) (v := ?_) rfl (by kernel_rfl) (by kernel_rfl) (by kernel_rfl) (fun _ _ _ h => h) (Or.inl ⟨by rfl, ?_⟩) (by assumption) ?_
     rotate_left
     ·intro w hw
      rw [hSS] at hw
      obtain ⟨k0, k1, k2, y0, y1, y2⟩ := hw
      go_simp
      try (with_reducible rfl)
     change wpAnyH _ _ _ _ _ _ _ (Act.put _ (some 27) _) _
     simp only [Act.put, List.setIfInBounds_toArray, List.set_cons_zero, List.set_cons_succ]
     refine wpAnyH_take (i := 5) (v := ?_) rfl (by kernel_rfl) (by kernel_rfl) (by kernel_rfl) (fun _ _ _ h => h) (Or.inl ⟨by rfl, ?_⟩) (by assumption) ?_
     rotate_left
     ·intro w hw
      rw [hSS] at hw
      obtain ⟨k0, k1, k2, y0, y1, y2⟩ := hw
      go_simp
      try (with_reducible rfl)
     change wpAnyH _ _ _ _ _ _ _ (Act.put _ (some 28) _) _
     simp only [Act.put, List.setIfInBounds_toArray, List.set_cons_zero, List.set_cons_succ]
     refine wpAnyH_take (i := 6) (v := ?_) rfl (by kernel_rfl) (by kernel_rfl) (by kernel_rfl) (fun _ _ _ h => h) (Or.inl ⟨by rfl, ?_⟩) (by assumption) ?_
     rotate_left
     ·intro w hw
      rw [hSS] at hw
      obtain ⟨k0, k1, k2, y0, y1, y2⟩ := hw
      go_simp
      try (with_reducible rfl)
     change wpAnyH _ _ _ _ _ _ _ (Act.put _ (some 29) _) _
     simp only [Act.put, List.setIfInBounds_toArray, List.set_cons_zero, List.set_cons_succ]
     refine wpAnyH_take (i := 7) (v := ?_) rfl (by kernel_rfl) (by kernel_rfl) (by kernel_rfl) (fun _ _ _ h => h) (Or.inl ⟨by rfl, ?_⟩) (by assumption) ?_
     rotate_left
     ·intro w hw
      rw [hSS] at hw
      obtain ⟨k0, k1, k2, y0, y1, y2⟩ := hw
      go_simp
      try (with_reducible rfl)
     change wpAnyH _ _ _ _ _ _ _ (Act.put _ (some 30) _) _
     simp only [Act.put, List.setIfInBounds_toArray, List.set_cons_zero, List.set_cons_succ]
     refine wpAnyH_take (i := 8) (v := ?_) rfl (by kernel_rfl) (by kernel_rfl) (by kernel_rfl) (fun _ _ _ h => h) (Or.inl ⟨by rfl, ?_⟩) (by assumption) ?_
     rotate_left
     ·intro w hw
      rw [hSS] at hw
      obtain ⟨k0, k1, k2, y0, y1, y2⟩ := hw
      go_simp
      try (with_reducible rfl)
     change wpAnyH _ _ _ _ _ _ _ (Act.put _ (some 31) _) _
     simp only [Act.put, List.setIfInBounds_toArray, List.set_cons_zero, List.set_cons_succ]
     refine wpAnyH_take (i := 9) (v := ?_) rfl (by kernel_rfl) (by kernel_rfl) (by kernel_rfl) (fun _ _ _ h => h) (Or.inl ⟨by rfl, ?_⟩) (by assumption) ?_
     rotate_left
     ·intro w hw
      rw [hSS] at hw
      obtain ⟨k0, k1, k2, y0, y1, y2⟩ := hw
      go_simp
      try (with_reducible rfl)
     change wpAnyH _ _ _ _ _ _ _ (Act.put _ (some 32) _) _
     simp only [Act.put, List.setIfInBounds_toArray, List.set_cons_zero, List.set_cons_succ]
     refine wpAnyH_take (i := 10) (v := ?_) rfl (by kernel_rfl) (by kernel_rfl) (by kernel_rfl) (fun _ _ _ h => h) (Or.inl ⟨by rfl, ?_⟩) (by assumption) ?_
     rotate_left
     ·intro w hw
      rw [hSS] at hw
      obtain ⟨k0, k1, k2, y0, y1, y2⟩ := hw
      go_simp
      try (with_reducible rfl)
     change wpAnyH _ _ _ _ _ _ _ (Act.put _ (some 33) _) _
     simp only [Act.put, List.setIfInBounds_toArray, List.set_cons_zero, List.set_cons_succ]
     refine wpAnyH_take (i := 11) (v := ?_) rfl (by kernel_rfl) (by kernel_rfl) (by kernel_rfl) (fun _ _ _ h => h) (Or.inl ⟨by rfl, ?_⟩) (by assumption) ?_
     rotate_left
     ·intro w hw
      rw [hSS] at hw
      obtain ⟨k0, k1, k2, y0, y1, y2⟩ := hw
      go_simp
      try (with_reducible rfl)
     change wpAnyH _ _ _ _ _ _ _ (Act.put _ (some 34) _) _
     simp only [Act.put, List.setIfInBounds_toArray, List.set_cons_zero, List.set_cons_succ]
     refine wpAnyH_take (i := 12) (v := ?_) rfl (by kernel_rfl) (by kernel_rfl) (by kernel_rfl) (fun _ _ _ h => h) (Or.inl ⟨by rfl, ?_⟩) (by assumption) ?_
     rotate_left
     ·intro w hw
      rw [hSS] at hw
      obtain ⟨k0, k1, k2, y0, y1, y2⟩ := hw
      go_simp
      try (with_reducible rfl)
     change wpAnyH _ _ _ _ _ _ _ (Act.put _ (some 35) _) _
     simp only [Act.put, List.setIfInBounds_toArray, List.set_cons_zero, List.set_cons_succ]
     refine wpAnyH_take (i := 13) (v := ?_) rfl (by kernel_rfl) (by kernel_rfl) (by kernel_rfl) (fun _ _ _ h => h) (Or.inl ⟨by rfl, ?_⟩) (by assumption) ?_
     rotate_left
     ·intro w hw
      rw [hSS] at hw
      obtain ⟨k0, k1, k2, y0, y1, y2⟩ := hw
      go_simp
      try (with_reducible rfl)
     change wpAnyH _ _ _ _ _ _ _ (Act.put _ (some 36) _) _
     simp only [Act.put, List.setIfInBounds_toArray, List.set_cons_zero, List.set_cons_succ]
     refine wpAnyH_take (i := 14) (v := ?_) rfl (by kernel_rfl) (by kernel_rfl) (by kernel_rfl) (fun _ _ _ h => h) (Or.inl ⟨by rfl, ?_⟩) (by assumption) ?_
     rotate_left
     ·intro w hw
      rw [hSS] at hw
      obtain ⟨k0, k1, k2, y0, y1, y2⟩ := hw
      go_simp
      try (with_reducible rfl)
     change wpAnyH _ _ _ _ _ _ _ (Act.put _ (some 37) _) _
     simp only [Act.put, List.setIfInBounds_toArray, List.set_cons_zero, List.set_cons_succ]
     refine wpAnyH_take (i := 15) (v := ?_) rfl (by kernel_rfl) (by kernel_rfl) (by kernel_rfl) (fun _ _ _ h => h) (Or.inl ⟨by rfl, ?_⟩) (by assumption) ?_
     rotate_left
     ·intro w hw
      rw [hSS] at hw
      obtain ⟨k0, k1, k2, y0, y1, y2⟩ := hw
      go_simp
      try (with_reducible rfl)
     change wpAnyH _ _ _ _ _ _ _ (Act.put _ (some 38) _) _
     simp only [Act.put, List.setIfInBounds_toArray, List.set_cons_zero, List.set_cons_succ]
     refine wpAnyH_take (i := 16) (v := ?_) rfl (by kernel_rfl) (by kernel_rfl) (by kernel_rfl) (fun _ _ _ h => h) (Or.inl ⟨by rfl, ?_⟩) (by assumption) ?_
     rotate_left
     ·intro w hw
      rw [hSS] at hw
      obtain ⟨k0, k1, k2, y0, y1, y2⟩ := hw
      go_simp
      try (with_reducible rfl)
     change wpAnyH _ _ _ _ _ _ _ (Act.put _ (some 39) _) _
     simp only [Act.put, List.setIfInBounds_toArray, List.set_cons_zero, List.set_cons_succ]
     refine wpAnyH_take (i := 17) (v := ?_) rfl (by kernel_rfl) (by kernel_rfl) (by kernel_rfl) (fun _ _ _ h => h) (Or.inl ⟨by rfl, ?_⟩) (by assumption) ?_
     rotate_left
     ·intro w hw
      rw [hSS] at hw
      obtain ⟨k0, k1, k2, y0, y1, y2⟩ := hw
      go_simp
      try (with_reducible rfl)
     change wpAnyH _ _ _ _ _ _ _ (Act.put _ (some 40) _) _
     simp only [Act.put, List.setIfInBounds_toArray, List.set_cons_zero, List.set_cons_succ]
     refine wpAnyH_take (i := 18) (v := ?_) rfl (by kernel_rfl) (by kernel_rfl) (by kernel_rfl) (fun _ _ _ h => h) (Or.inl ⟨by rfl, ?_⟩) (by assumption) ?_
     rotate_left
     ·intro w hw
      rw [hSS] at hw
      obtain ⟨k0, k1, k2, y0, y1, y2⟩ := hw
      go_simp
      try (with_reducible rfl)
     change wpAnyH _ _ _ _ _ _ _ (Act.put _ (some 41) _) _
     simp only [Act.put, List.setIfInBounds_toArray, List.set_cons_zero, List.set_cons_succ]
     refine wpAnyH_take (i := 19) (v := ?_) rfl (by kernel_rfl) (by kernel_rfl) (by kernel_rfl) (fun _ _ _ h => h) (Or.inl ⟨by rfl, ?_⟩) (by assumption) ?_
     rotate_left
     ·intro w hw
      rw [hSS] at hw
      obtain ⟨k0, k1, k2, y0, y1, y2⟩ := hw
      go_simp
      try (with_reducible rfl)
     change wpAnyH _ _ _ _ _ _ _ (Act.put _ (some 42) _) _
     simp only [Act.put, List.setIfInBounds_toArray, List.set_cons_zero, List.set_cons_succ]
     clear hHeld
     refine wpAnyH_ready (rs := [20]) (by kernel_rfl) (by simp) ?_
     refine AllReadyH.cons rfl (fun K hK => ?_) AllReadyH.nil
     go_simp
     refine Shut.out hK _ _ ?_ (fun hHeld => ?_)
     ·rw [hSS]
      go_keep
     clear hK K
     refine wpAnyH_ready (rs := [21]) (by kernel_rfl) (by simp) ?_
     refine AllReadyH.cons rfl (fun K hK => ?_) AllReadyH.nil
     refine step_append_lies _ (by rfl) _ _ _ (by rfl) 0 116 i0 _ 7 72 Tryd.underlying86 hi0 hz0 hz1 hz2 rfl (by omega) (.slice a4 i c4) i (done.flatMap cPair) (by rfl) ((HX.out.alloc _).drew)
       ⟨w1.heap.size, 0, none⟩ 1 1 [.int .i64 3, .int .u64 (x.num : Nat), S x.text, .int .i64 y.kind, .int .u64 (y.num : Nat), S y.text, .bool true] (by rfl) (by rfl) (World.news_of_block (cs := #[.int .i64 3, .int .u64 (x.num : Nat), S x.text, .int .i64 y.kind, .int .u64 (y.num : Nat), S y.text, .bool true]) (t := 116) (fr := (0, 0)) (heap_alloc_new w1 _)) (by simp [Value.oneCell'])
       (by omega) (by unfold maxLen; omega) (by omega) (by simp) (w1.heap.size + 1) (by simp) ?_
     intro gg cap w3 hown1 hgrow hat hlt3
     refine Shut.out hK _ _ ?_ (fun hHeld => ?_)
     ·rw [hSS]
      refine ⟨?_, ?_, ?_, ?_, ?_, ?_⟩
      ·rw [hgrow.cell_far _ (by simp; omega) (Ne.symm ag)]; exact cell_alloc k0
      ·rw [hgrow.cell_far _ (by simp; omega) (Ne.symm ag)]; exact cell_alloc k1
      ·rw [hgrow.cell_far _ (by simp; omega) (Ne.symm ag)]; exact cell_alloc k2
      ·rw [hgrow.cell_far _ (by simp; omega) (Ne.symm ak)]; exact cell_alloc y0
      ·rw [hgrow.cell_far _ (by simp; omega) (Ne.symm ak)]; exact cell_alloc y1
      ·rw [hgrow.cell_far _ (by simp; omega) (Ne.symm ak)]; exact cell_alloc y2
     clear hK K
     refine wpAnyH_ready (rs := [22]) (by kernel_rfl) (by simp) ?_
     refine AllReadyH.cons rfl (fun K hK => ?_) AllReadyH.nil
     go_simp
     refine Shut.out hK _ _ hHeld (fun hHeld => ?_)
     clear hK K
     refine wpAnyH_done (by kernel_rfl) ?_ _
     go_wp2_with fail
     go_meet
     have hdl := HDL.out
     subst hdl
     refine HO1.out.push (p := (x, y)) (g := gg) (cap := cap) ?_ (grown_alloc hgrow) (hat.imp id (fun e => by omega))
     rw [show cPair (x, y) = [.int .i64 3, .int .u64 (x.num : Nat), S x.text, .int .i64 y.kind, .int .u64 (y.num : Nat), S y.text, .bool true] by
      unfold cPair
      simp only [HE.out, HK.out]]
     exact hown1
    ·have HE := Px.hid e1
     have b0 : (x.kind == 0) = false := by simpa using e2
     have b1 : (x.kind == 1) = false := by simpa using e3
     have b3 : (x.kind == 3) = false := by simpa using e4
     clear e1 e2 e3 e4
     obtain ⟨SS, hSS⟩ : ∃ SS : World → Prop, SS = (fun W : World => W.cell? ⟨wr.heap.size, 0, none⟩ = some (.int .i64 x.kind) ∧ W.cell? ⟨wr.heap.size, 1, none⟩ = some (.int .u64 (x.num : Nat)) ∧ W.cell? ⟨wr.heap.size, 2, none⟩ = some (S x.text) ∧ W.cell? ⟨xb, xo + q * 3, none⟩ = some (.int .i64 y.kind) ∧ W.cell? ⟨xb, xo + q * 3 + 1, none⟩ = some (.int .u64 (y.num : Nat)) ∧ W.cell? ⟨xb, xo + q * 3 + 2, none⟩ = some (S y.text)) := ⟨_, rfl⟩
     have hS0 : SS w1.drew := by rw [hSS]; exact ⟨k0, k1, k2, y0, y1, y2⟩
     refine wp_region_held_drew (S := SS) (by kernel_rfl) hS0 (fun hHeld => ?_)
     refine wpAnyH_take (i := 0) (v := ?_) rfl (by kernel_rfl) (by kernel_rfl) (by kernel_rfl) (fun _ _ _ h => h) (Or.inl ⟨by rfl, ?_⟩) (by assumption) ?_
     rotate_left
     ·intro w hw
      rw [hSS] at hw
      obtain ⟨k0, k1, k2, y0, y1, y2⟩ := hw
      go_simp
      try (with_reducible rfl)
     change wpAnyH _ _ _ _ _ _ _ (Act.put _ (some 23) _) _
     simp only [Act.put, List.setIfInBounds_toArray, List.set_cons_zero, List.set_cons_succ]
     refine wpAnyH_take (i := 1) (v := ?_) rfl (by kernel_rfl) (by kernel_rfl) (by kernel_rfl) (fun _ _ _ h => h) (Or.inl ⟨by rfl, ?_⟩) (by assumption) ?_
     rotate_left
     ·intro w hw
      rw [hSS] at hw
      obtain ⟨k0, k1, k2, y0, y1, y2⟩ := hw
      go_simp
      try (with_reducible rfl)
     change wpAnyH _ _ _ _ _ _ _ (Act.put _ (some 24) _) _
     simp only [Act.put, List.setIfInBounds_toArray, List.set_cons_zero, List.set_cons_succ]
     refine wpAnyH_take (i := 2) (v := ?_) rfl (by kernel_rfl) (by kernel_rfl) (by kernel_rfl) (fun _ _ _ h => h) (Or.inl ⟨by rfl, ?_⟩) (by assumption) ?_
     rotate_left
     ·intro w hw
      rw [hSS] at hw
      obtain ⟨k0, k1, k2, y0, y1, y2⟩ := hw
      go_simp
      try (with_reducible rfl)
     change wpAnyH _ _ _ _ _ _ _ (Act.put _ (some 25) _) _
     simp only [Act.put, List.setIfInBounds_toArray, List.set_cons_zero, List.set_cons_succ]
     refine wpAnyH_take (i := 3) (v := ?_) rfl (by kernel_rfl) (by kernel_rfl) (by kernel_rfl) (fun _ _ _ h => h) (Or.inl ⟨by rfl, ?_⟩) (by assumption) ?_
     rotate_left
     ·intro w hw
      rw [hSS] at hw
      obtain ⟨k0, k1, k2, y0, y1, y2⟩ := hw
      go_simp
      try (with_reducible rfl)
     change wpAnyH _ _ _ _ _ _ _ (Act.put _ (some 26) _) _
     simp only [Act.put, List.setIfInBounds_toArray, List.set_cons_zero, List.set_cons_succ]
     refine wpAnyH_take (i := 4) (v := ?_) rfl (by kernel_rfl) (by kernel_rfl) (by kernel_rfl) (fun _ _ _ h => h) (Or.inl ⟨by rfl, ?_⟩) (by assumption) ?_
     rotate_left
     ·intro w hw
      rw [hSS] at hw
      obtain ⟨k0, k1, k2, y0, y1, y2⟩ := hw
      go_simp
      try (with_reducible rfl)
     change wpAnyH _ _ _ _ _ _ _ (Act.put _ (some 27) _) _
     simp only [Act.put, List.setIfInBounds_toArray, List.set_cons_zero, List.set_cons_succ]
     refine wpAnyH_take (i := 5) (v := ?_) rfl (by kernel_rfl) (by kernel_rfl) (by kernel_rfl) (fun _ _ _ h => h) (Or.inl ⟨by rfl, ?_⟩) (by assumption) ?_
     rotate_left
     ·intro w hw
      rw [hSS] at hw
      obtain ⟨k0, k1, k2, y0, y1, y2⟩ := hw
      go_simp
      try (with_reducible rfl)
     change wpAnyH _ _ _ _ _ _ _ (Act.put _ (some 28) _) _
     simp only [Act.put, List.setIfInBounds_toArray, List.set_cons_zero, List.set_cons_succ]
     refine wpAnyH_take (i := 6) (v := ?_) rfl (by kernel_rfl) (by kernel_rfl) (by kernel_rfl) (fun _ _ _ h => h) (Or.inl ⟨by rfl, ?_⟩) (by assumption) ?_
     rotate_left
     ·intro w hw
      rw [hSS] at hw
      obtain ⟨k0, k1, k2, y0, y1, y2⟩ := hw
      go_simp
      try (with_reducible rfl)
     change wpAnyH _ _ _ _ _ _ _ (Act.put _ (some 29) _) _
     simp only [Act.put, List.setIfInBounds_toArray, List.set_cons_zero, List.set_cons_succ]
     refine wpAnyH_take (i := 7) (v := ?_) rfl (by kernel_rfl) (by kernel_rfl) (by kernel_rfl) (fun _ _ _ h => h) (Or.inl ⟨by rfl, ?_⟩) (by assumption) ?_
     rotate_left
     ·intro w hw
      rw [hSS] at hw
      obtain ⟨k0, k1, k2, y0, y1, y2⟩ := hw
      go_simp
      try (with_reducible rfl)
     change wpAnyH _ _ _ _ _ _ _ (Act.put _ (some 30) _) _
     simp only [Act.put, List.setIfInBounds_toArray, List.set_cons_zero, List.set_cons_succ]
     refine wpAnyH_take (i := 8) (v := ?_) rfl (by kernel_rfl) (by kernel_rfl) (by kernel_rfl) (fun _ _ _ h => h) (Or.inl ⟨by rfl, ?_⟩) (by assumption) ?_
     rotate_left
     ·intro w hw
      rw [hSS] at hw
      obtain ⟨k0, k1, k2, y0, y1, y2⟩ := hw
      go_simp
      try (with_reducible rfl)
     change wpAnyH _ _ _ _ _ _ _ (Act.put _ (some 31) _) _
     simp only [Act.put, List.setIfInBounds_toArray, List.set_cons_zero, List.set_cons_succ]
     refine wpAnyH_take (i := 9) (v := ?_) rfl (by kernel_rfl) (by kernel_rfl) (by kernel_rfl) (fun _ _ _ h => h) (Or.inl ⟨by rfl, ?_⟩) (by assumption) ?_
     rotate_left
     ·intro w hw
      rw [hSS] at hw
      obtain ⟨k0, k1, k2, y0, y1, y2⟩ := hw
      go_simp
      try (with_reducible rfl)
     change wpAnyH _ _ _ _ _ _ _ (Act.put _ (some 32) _) _
     simp only [Act.put, List.setIfInBounds_toArray, List.set_cons_zero, List.set_cons_succ]
     refine wpAnyH_take (i := 10) (v := ?_) rfl (by kernel_rfl) (by kernel_rfl) (by kernel_rfl) (fun _ _ _ h => h) (Or.inl ⟨by rfl, ?_⟩) (by assumption) ?_
     rotate_left
     ·intro w hw
      rw [hSS] at hw
      obtain ⟨k0, k1, k2, y0, y1, y2⟩ := hw
      go_simp
      try (with_reducible rfl)
     change wpAnyH _ _ _ _ _ _ _ (Act.put _ (some 33) _) _
     simp only [Act.put, List.setIfInBounds_toArray, List.set_cons_zero, List.set_cons_succ]
     refine wpAnyH_take (i := 11) (v := ?_) rfl (by kernel_rfl) (by kernel_rfl) (by kernel_rfl) (fun _ _ _ h => h) (Or.inl ⟨by rfl, ?_⟩) (by assumption) ?_
     rotate_left
     ·intro w hw
      rw [hSS] at hw
      obtain ⟨k0, k1, k2, y0, y1, y2⟩ := hw
      go_simp
      try (with_reducible rfl)
     change wpAnyH _ _ _ _ _ _ _ (Act.put _ (some 34) _) _
     simp only [Act.put, List.setIfInBounds_toArray, List.set_cons_zero, List.set_cons_succ]
     refine wpAnyH_take (i := 12) (v := ?_) rfl (by kernel_rfl) (by kernel_rfl) (by kernel_rfl) (fun _ _ _ h => h) (Or.inl ⟨by rfl, ?_⟩) (by assumption) ?_
     rotate_left
     ·intro w hw
      rw [hSS] at hw
      obtain ⟨k0, k1, k2, y0, y1, y2⟩ := hw
      go_simp
      try (with_reducible rfl)
     change wpAnyH _ _ _ _ _ _ _ (Act.put _ (some 35) _) _
     simp only [Act.put, List.setIfInBounds_toArray, List.set_cons_zero, List.set_cons_succ]
     refine wpAnyH_take (i := 13) (v := ?_) rfl (by kernel_rfl) (by kernel_rfl) (by kernel_rfl) (fun _ _ _ h => h) (Or.inl ⟨by rfl, ?_⟩) (by assumption) ?_
     rotate_left
     ·intro w hw
      rw [hSS] at hw
      obtain ⟨k0, k1, k2, y0, y1, y2⟩ := hw
      go_simp
      try (with_reducible rfl)
     change wpAnyH _ _ _ _ _ _ _ (Act.put _ (some 36) _) _
     simp only [Act.put, List.setIfInBounds_toArray, List.set_cons_zero, List.set_cons_succ]
     refine wpAnyH_take (i := 14) (v := ?_) rfl (by kernel_rfl) (by kernel_rfl) (by kernel_rfl) (fun _ _ _ h => h) (Or.inl ⟨by rfl, ?_⟩) (by assumption) ?_
     rotate_left
     ·intro w hw
      rw [hSS] at hw
      obtain ⟨k0, k1, k2, y0, y1, y2⟩ := hw
      go_simp
      try (with_reducible rfl)
     change wpAnyH _ _ _ _ _ _ _ (Act.put _ (some 37) _) _
     simp only [Act.put, List.setIfInBounds_toArray, List.set_cons_zero, List.set_cons_succ]
     refine wpAnyH_take (i := 15) (v := ?_) rfl (by kernel_rfl) (by kernel_rfl) (by kernel_rfl) (fun _ _ _ h => h) (Or.inl ⟨by rfl, ?_⟩) (by assumption) ?_
     rotate_left
     ·intro w hw
      rw [hSS] at hw
      obtain ⟨k0, k1, k2, y0, y1, y2⟩ := hw
      go_simp
      try (with_reducible rfl)
     change wpAnyH _ _ _ _ _ _ _ (Act.put _ (some 38) _) _
     simp only [Act.put, List.setIfInBounds_toArray, List.set_cons_zero, List.set_cons_succ]
     refine wpAnyH_take (i := 16) (v := ?_) rfl (by kernel_rfl) (by kernel_rfl) (by kernel_rfl) (fun _ _ _ h => h) (Or.inl ⟨by rfl, ?_⟩) (by assumption) ?_
     rotate_left
     ·intro w hw
      rw [hSS] at hw
      obtain ⟨k0, k1, k2, y0, y1, y2⟩ := hw
      go_simp
      try (with_reducible rfl)
     change wpAnyH _ _ _ _ _ _ _ (Act.put _ (some 39) _) _
     simp only [Act.put, List.setIfInBounds_toArray, List.set_cons_zero, List.set_cons_succ]
     refine wpAnyH_take (i := 17) (v := ?_) rfl (by kernel_rfl) (by kernel_rfl) (by kernel_rfl) (fun _ _ _ h => h) (Or.inl ⟨by rfl, ?_⟩) (by assumption) ?_
     rotate_left
     ·intro w hw
      rw [hSS] at hw
      obtain ⟨k0, k1, k2, y0, y1, y2⟩ := hw
      go_simp
      try (with_reducible rfl)
     change wpAnyH _ _ _ _ _ _ _ (Act.put _ (some 40) _) _
     simp only [Act.put, List.setIfInBounds_toArray, List.set_cons_zero, List.set_cons_succ]
     refine wpAnyH_take (i := 18) (v := ?_) rfl (by kernel_rfl) (by kernel_rfl) (by kernel_rfl) (fun _ _ _ h => h) (Or.inl ⟨by rfl, ?_⟩) (by assumption) ?_
     rotate_left
     ·intro w hw
      rw [hSS] at hw
      obtain ⟨k0, k1, k2, y0, y1, y2⟩ := hw
      go_simp
      try (with_reducible rfl)
     change wpAnyH _ _ _ _ _ _ _ (Act.put _ (some 41) _) _
     simp only [Act.put, List.setIfInBounds_toArray, List.set_cons_zero, List.set_cons_succ]
     refine wpAnyH_take (i := 19) (v := ?_) rfl (by kernel_rfl) (by kernel_rfl) (by kernel_rfl) (fun _ _ _ h => h) (Or.inl ⟨by rfl, ?_⟩) (by assumption) ?_
     rotate_left
     ·intro w hw
      rw [hSS] at hw
      obtain ⟨k0, k1, k2, y0, y1, y2⟩ := hw
      go_simp
      try (with_reducible rfl)
     change wpAnyH _ _ _ _ _ _ _ (Act.put _ (some 42) _) _
     simp only [Act.put, List.setIfInBounds_toArray, List.set_cons_zero, List.set_cons_succ]
     clear hHeld
     refine wpAnyH_ready (rs := [20]) (by kernel_rfl) (by simp) ?_
     refine AllReadyH.cons rfl (fun K hK => ?_) AllReadyH.nil
     go_simp
     refine Shut.out hK _ _ ?_ (fun hHeld => ?_)
     ·rw [hSS]
      go_keep
     clear hK K
     refine wpAnyH_ready (rs := [21]) (by kernel_rfl) (by simp) ?_
     refine AllReadyH.cons rfl (fun K hK => ?_) AllReadyH.nil
     refine step_append_lies _ (by rfl) _ _ _ (by rfl) 0 116 i0 _ 7 72 Tryd.underlying86 hi0 hz0 hz1 hz2 rfl (by omega) (.slice a4 i c4) i (done.flatMap cPair) (by rfl) ((HX.out.alloc _).drew)
       ⟨w1.heap.size, 0, none⟩ 1 1 [.int .i64 x.kind, .int .u64 (x.num : Nat), S x.text, .int .i64 y.kind, .int .u64 (y.num : Nat), S y.text, .bool false] (by rfl) (by rfl) (World.news_of_block (cs := #[.int .i64 x.kind, .int .u64 (x.num : Nat), S x.text, .int .i64 y.kind, .int .u64 (y.num : Nat), S y.text, .bool false]) (t := 116) (fr := (0, 0)) (heap_alloc_new w1 _)) (by simp [Value.oneCell'])
       (by omega) (by unfold maxLen; omega) (by omega) (by simp) (w1.heap.size + 1) (by simp) ?_
     intro gg cap w3 hown1 hgrow hat hlt3
     refine Shut.out hK _ _ ?_ (fun hHeld => ?_)
     ·rw [hSS]
      refine ⟨?_, ?_, ?_, ?_, ?_, ?_⟩
      ·rw [hgrow.cell_far _ (by simp; omega) (Ne.symm ag)]; exact cell_alloc k0
      ·rw [hgrow.cell_far _ (by simp; omega) (Ne.symm ag)]; exact cell_alloc k1
      ·rw [hgrow.cell_far _ (by simp; omega) (Ne.symm ag)]; exact cell_alloc k2
      ·rw [hgrow.cell_far _ (by simp; omega) (Ne.symm ak)]; exact cell_alloc y0
      ·rw [hgrow.cell_far _ (by simp; omega) (Ne.symm ak)]; exact cell_alloc y1
      ·rw [hgrow.cell_far _ (by simp; omega) (Ne.symm ak)]; exact cell_alloc y2
     clear hK K
     refine wpAnyH_ready (rs := [22]) (by kernel_rfl) (by simp) ?_
     refine AllReadyH.cons rfl (fun K hK => ?_) AllReadyH.nil
     go_simp
     refine Shut.out hK _ _ hHeld (fun hHeld => ?_)
     clear hK K
     refine wpAnyH_done (by kernel_rfl) ?_ _
     go_wp2_with fail
     go_meet
     have hdl := HDL.out
     subst hdl
     refine HO1.out.push (p := (x, y)) (g := gg) (cap := cap) ?_ (grown_alloc hgrow) (hat.imp id (fun e => by omega))
     rw [show cPair (x, y) = [.int .i64 x.kind, .int .u64 (x.num : Nat), S x.text, .int .i64 y.kind, .int .u64 (y.num : Nat), S y.text, .bool false] by
      unfold cPair
      simp only [HE.out]]
     exact hown1
   case rest =>
    have HN := Px.hid hcut
    clear hcut k0 k1 k2 y0 y1 y2 ag ak lg lx HX HW
    go_wp2_with fail
    refine (cbehind_any _ L q r _ (Lies.same H.out HN.out.same) hl HQR.out.2.1).mono ?_
    rintro e w4 ⟨rfl, hs⟩
    have HN := Px.hid (HN.out.sm hs)
    clear hs
    go_wp2
    go_roundg g'
    case measure => omega
    case rel => exact ⟨i + 1, r, done ++ [(x, y)], by omega, by go_num, rfl, by omega, Px.hid ⟨by rw [HS.out.1, HPF.out]; simp, HQR.out.2.2, by simp [HDL.out], HN.out⟩⟩
  ·have hltz : ¬ (i : Int) < (m : Int) := by omega
   have h0 : gk = 0 := by omega
   subst h0
   have HE := Px.hid (show pairsF L m (p + 1) = done by rw [HS.out.1]; exact List.append_nil _)
   go_wp2
   go_ret
   rw [HE.out]
   exact ⟨_, rfl, HS.out.2.2.2⟩
end Go.Proofs.YtddiabaagpmkgaaDoor

/-! The walks over the closure of cose.labels, slices.IndexFunc and slices.ContainsFunc. -/
namespace Go.Proofs.YtddiabaagpmkgaaDoor
open Go.RowKit Go.Px Go.Px.E7 Go.Px.Co
set_option maxRecDepth 100000 in
set_option maxHeartbeats 2000000 in
theorem lab_any (q : Atom × Atom) (x : Atom) (b : Nat) (w : World) (c0 : w.cell? ⟨b, 0, none⟩ = some (.int .i64 x.kind)) (c1 : w.cell? ⟨b, 1, none⟩ = some (.int .u64 (x.num : Nat))) (c2 : w.cell? ⟨b, 2, none⟩ = some (S x.text)) :
  Calls Tryd.prog 75 #[.agg #[.int .i64 q.1.kind, .int .u64 (q.1.num : Nat), S q.1.text, .int .i64 q.2.kind, .int .u64 (q.2.num : Nat), S q.2.text, .bool (okL q.1)], .pointer (some ⟨b, 0, none⟩)] w fun e w' => e = .returned (.bool (q.1 == x)) ∧ Same w w' := by
 obtain ⟨y, z⟩ := q
 have hb := World.block_lt_of_cell? w _ c0
 simp only at hb ⊢
 obtain ⟨r, hr⟩ : ∃ r, r = (y == x) := ⟨_, rfl⟩
 rw [← hr]
 rw [atom_beq] at hr
 have HR := Px.hid hr
 clear hr
 go_enter Tryd.func75, Tryd.ntmps75
 go_wp2
 ·have e1 : y.kind = x.kind := by assumption
  have e2 : (y.num : Int) = (x.num : Int) := by assumption
  have e3 : y.text = x.text := by assumption
  have e4 : y.num = x.num := by omega
  have HE : r = true := by rw [HR.out]; simp [e1, e4, e3]
  subst HE
  go_ret
  exact ⟨rfl, Fr.alloc (Fr.refl _ w) _⟩
 all_goals
  have HE : r = false := by
   rw [HR.out]
   simp
   intros
   first
    | (exfalso; omega)
    | assumption
  subst HE
  go_ret
  exact ⟨rfl, Fr.alloc (Fr.refl _ w) _⟩
theorem any_step (h : Hdr) (i : Nat) (x : Atom) (hi : i < h.length) : (h.drop i).any (fun q => q.1 == x) = ((h[i].1 == x) || (h.drop (i + 1)).any (fun q => q.1 == x)) := by
 rw [List.drop_eq_getElem_cons hi, List.any_cons]
def labF (b : Nat) : Value := .func (.func 75) #[] #[.pointer (some ⟨b, 0, none⟩)]
set_option maxRecDepth 100000 in
set_option maxHeartbeats 4000000 in
theorem idxF_any (v : Value) (h : Hdr) (x : Atom) (b : Nat) (w : World) (hv : Lies w 7 cPair v h) (hl : h.length ≤ 10000) (c0 : w.cell? ⟨b, 0, none⟩ = some (.int .i64 x.kind)) (c1 : w.cell? ⟨b, 1, none⟩ = some (.int .u64 (x.num : Nat))) (c2 : w.cell? ⟨b, 2, none⟩ = some (S x.text)) :
  Calls Tryd.prog 87 #[v, labF b] w fun e w' => (∃ r : Int, e = .returned (.int .i64 r) ∧ decide (0 ≤ r) = h.any (fun q => q.1 == x)) ∧ Same w w' := by
 obtain ⟨va, vc, hve, _, _⟩ := hv.slice
 subst hve
 have hb := World.block_lt_of_cell? w _ c0
 simp only at hb
 have H := Px.hid hv
 have HC := Px.hid (show ∀ W, Same w W → W.cell? ⟨b, 0, none⟩ = some (.int .i64 x.kind) ∧ W.cell? ⟨b, 1, none⟩ = some (.int .u64 (x.num : Nat)) ∧ W.cell? ⟨b, 2, none⟩ = some (S x.text) from fun W hW => ⟨(hW.cell (p := ⟨b, 0, none⟩) hb (fun x => x)).trans c0, (hW.cell (p := ⟨b, 1, none⟩) hb (fun x => x)).trans c1, (hW.cell (p := ⟨b, 2, none⟩) hb (fun x => x)).trans c2⟩)
 clear hv c0 c1 c2
 unfold labF
 go_enter Tryd.func87, Tryd.ntmps87
 go_wp2
 go_loopg [8] (h.length + 1) (fun gk t8 wr => ∃ i : Nat, gk + i = h.length + 1 ∧ i ≤ h.length ∧ t8 = .int .i64 i ∧ Hid (h.any (fun q => q.1 == x) = (h.drop i).any (fun q => q.1 == x) ∧ Same w wr))
 case atStart => exact ⟨0, rfl, Nat.zero_le _, rfl, Px.hid ⟨rfl, Same.refl w⟩⟩
 case round =>
  obtain ⟨i, hgk, hi, rfl, HS⟩ := hrel
  have HGK := Px.hid hgk
  clear hgk
  by_cases hlt : i < h.length
  ·have hltz : (i : Int) < (h.length : Int) := by omega
   obtain ⟨xb, xo, xc, hve, hxb, hcx⟩ := (Lies.same H.out HS.out.2).cell i h[i] (by simp [hlt])
   simp only [Value.slice.injEq, true_and] at hve
   obtain ⟨rfl, rfl⟩ := hve
   have x0 := hcx 0 _ rfl
   have x1 := hcx 1 _ rfl
   have x2 := hcx 2 _ rfl
   have x3 := hcx 3 _ rfl
   have x4 := hcx 4 _ rfl
   have x5 := hcx 5 _ rfl
   have x6 := hcx 6 _ rfl
   rw [← Nat.add_assoc] at x0 x1 x2 x3 x4 x5 x6
   rw [Nat.add_zero] at x0
   have hst := any_step h i x hlt
   obtain ⟨p, hp⟩ : ∃ p, p = h[i] := ⟨_, rfl⟩
   rw [← hp] at x0 x1 x2 x3 x4 x5 x6 hst
   have HST := Px.hid hst
   clear hcx hp hst
   go_wp2_with fail
   refine (lab_any p x b _ (HC.out _ HS.out.2).1 (HC.out _ HS.out.2).2.1 (HC.out _ HS.out.2).2.2).mono ?_
   rintro e w1 ⟨rfl, hs⟩
   have HS1 := Px.hid (HS.out.2.trans hs)
   clear hs
   obtain ⟨r, hr⟩ : ∃ r, r = (p.1 == x) := ⟨_, rfl⟩
   rw [← hr] at HST ⊢
   clear hr
   cases r
   ·have HN := Px.hid (show h.any (fun q => q.1 == x) = (h.drop (i + 1)).any (fun q => q.1 == x) by rw [HS.out.1, HST.out]; rfl)
    go_wp2
    go_roundg (h.length - i)
    case measure => have := HGK.out; omega
    case rel => exact ⟨i + 1, by omega, by omega, by go_num, Px.hid ⟨HN.out, HS1.out⟩⟩
   ·have HN := Px.hid (show h.any (fun q => q.1 == x) = true by rw [HS.out.1, HST.out]; rfl)
    go_wp2
    go_ret
    rw [HN.out]
    exact ⟨⟨_, rfl, by simp⟩, HS1.out⟩
  ·have hltz : ¬ (i : Int) < (h.length : Int) := by omega
   have HN := Px.hid (show h.any (fun q => q.1 == x) = false by rw [HS.out.1, List.drop_of_length_le (by omega)]; rfl)
   go_wp2
   go_ret
   rw [HN.out]
   exact ⟨⟨_, rfl, by decide⟩, HS.out.2⟩
set_option maxRecDepth 100000 in
set_option maxHeartbeats 4000000 in
theorem conF_any (v : Value) (h : Hdr) (x : Atom) (b : Nat) (w : World) (hv : Lies w 7 cPair v h) (hl : h.length ≤ 10000) (c0 : w.cell? ⟨b, 0, none⟩ = some (.int .i64 x.kind)) (c1 : w.cell? ⟨b, 1, none⟩ = some (.int .u64 (x.num : Nat))) (c2 : w.cell? ⟨b, 2, none⟩ = some (S x.text)) :
  Calls Tryd.prog 74 #[v, labF b] w fun e w' => e = .returned (.bool (h.any (fun q => q.1 == x))) ∧ Same w w' := by
 have HI := Px.hid (idxF_any v h x b w hv hl c0 c1 c2)
 clear hv c0 c1 c2
 unfold labF at HI ⊢
 go_enter Tryd.func74, Tryd.ntmps74
 go_wp2_with fail
 refine HI.out.mono ?_
 rintro e w1 ⟨⟨r, rfl, hr⟩, hs⟩
 have HS := Px.hid hs
 have HR := Px.hid hr
 clear hs hr
 go_wp2
 go_ret
 rw [← HR.out]
 exact ⟨by simp, HS.out⟩
end Go.Proofs.YtddiabaagpmkgaaDoor

/-! The walks over slices.Grow (of the nil slice) and slices.Concat, of headers. -/
namespace Go.Proofs.YtddiabaagpmkgaaDoor
open Go.RowKit Go.Px Go.Px.E7 Go.Px.Co
set_option maxRecDepth 100000 in
set_option maxHeartbeats 4000000 in
theorem grow_any (n : Nat) (w : World) (hn : n ≤ 10000) : Calls Tryd.prog 76 #[.slice none 0 0, .int .i64 n] w fun e w' => ∃ vo, e = .returned vo ∧ PrsO w w' vo [] := by
 have hz : ¬ (n : Int) < 0 := by omega
 obtain ⟨i0, hi0, hz0, hz1, hz2⟩ := info_parts Tryd.infoPair
 by_cases h0 : n = 0
 ·subst h0
  go_enter Tryd.func76, Tryd.ntmps76
  go_wp2
  go_ret
  exact ⟨_, rfl, owns_nil _ _ _ _, Same.refl w, nofun⟩
 ·have hp : (0 : Int) < (n : Int) := by omega
  go_enter Tryd.func76, Tryd.ntmps76
  go_wp2_with (at_builtin; go_must (refine wpList_append_zeros rfl _ _ 86 3 rfl 116 i0 _ .i64 .i64 7 72 Tryd.underlying86 Tryd.underlying3 hi0 hz0 hz1 hz2 rfl (by omega) n rfl rfl (by omega) (by unfold maxLen; omega) (by omega) ?_))
  intro cap w' cur hc1 hc2 hc3 hc4 hg
  have H := Px.hid (And.intro (owns_cut (c := cPair) hc1 hc2 hc4) (show Same w w' from Fr.grown (Same.refl w) hg (fun k e => by cases e)))
  unfold maxLen at hc4
  have hncz : (n : Int) ≤ (cap : Int) := by omega
  clear hc1 hc2 hg
  go_wp2
  go_ret
  exact ⟨_, rfl, H.out.1, H.out.2, fun g e => by simp [Value.ownBlock] at e; omega⟩
theorem pair_one (l : Hdr) : ∀ u ∈ l.flatMap cPair, u.oneCell' = true := by
 intro u hu
 simp only [List.mem_flatMap] at hu
 obtain ⟨a, _, hu⟩ := hu
 simp only [cPair, List.mem_cons, List.not_mem_nil, or_false] at hu
 rcases hu with rfl | rfl | rfl | rfl | rfl | rfl | rfl <;> rfl
theorem PrsO.more {w wr w1 : World} {v v' : Value} {h k : Hdr} (x : PrsO w wr v h)
  (hown : w1.ownsRow 0 116 7 v' (h.length + k.length) (h.flatMap cPair ++ k.flatMap cPair)) (hg : wr.grownBy w1 v.ownBlock) (hat : ∀ g, v'.ownBlock = some g → v.ownBlock = some g ∨ g = wr.heap.size) : PrsO w w1 v' (h ++ k) := by
 refine ⟨?_, Fr.grown x.same hg (fun k e => .inr (x.new k e)), fun g hg' => ?_⟩
 ·unfold Owns
  rw [List.length_append, List.flatMap_append]
  exact hown
 ·rcases hat g hg' with e | e
  ·exact x.new _ e
  ·have := x.same.size; omega
set_option maxRecDepth 100000 in
set_option maxHeartbeats 4000000 in
theorem concat_any (b cap : Nat) (va vb : Value) (ha hb : Hdr) (w : World) (c0 : w.cell? ⟨b, 0, none⟩ = some va) (c1 : w.cell? ⟨b, 1, none⟩ = some vb) (h1 : Lies w 7 cPair va ha) (h2 : Lies w 7 cPair vb hb) (hl1 : ha.length ≤ 4096) (hl2 : hb.length ≤ 4096) :
  Calls Tryd.prog 57 #[.slice (some ⟨b, 0, none⟩) 2 cap] w fun e w' => ∃ vo, e = .returned vo ∧ PrsO w w' vo (ha ++ hb) := by
 have hbl := World.block_lt_of_cell? w _ c0
 simp only at hbl
 have hsrc1 : ∀ W, Same w W → Src Tryd.prog 7 86 va ha.length (ha.flatMap cPair) W := fun W hW => (Lies.same h1 hW).src cPair_len (by omega) Tryd.underlying86 (pair_one ha)
 have hsrc2 : ∀ W, Same w W → Src Tryd.prog 7 86 vb hb.length (hb.flatMap cPair) W := fun W hW => (Lies.same h2 hW).src cPair_len (by omega) Tryd.underlying86 (pair_one hb)
 obtain ⟨aa, ac, rfl, _, _⟩ := h1.slice
 obtain ⟨ba, bc, rfl, _, _⟩ := h2.slice
 have HC := Px.hid (show ∀ W, Same w W → W.cell? ⟨b, 0, none⟩ = some _ ∧ W.cell? ⟨b, 1, none⟩ = some _ from fun W hW => ⟨(hW.cell (p := ⟨b, 0, none⟩) hbl (fun x => x)).trans c0, (hW.cell (p := ⟨b, 1, none⟩) hbl (fun x => x)).trans c1⟩)
 have H := Px.hid (And.intro hsrc1 hsrc2)
 clear h1 h2 hsrc1 hsrc2
 obtain ⟨i0, hi0, hz0, hz1, hz2⟩ := info_parts Tryd.infoPair
 go_enter Tryd.func57, Tryd.ntmps57
 go_wp2
 go_loopg [3, 11] 3 (fun gk t3 t11 wr => ((gk = 3 ∧ t11 = .int .i64 0 ∧ t3 = .int .i64 0) ∨ (gk = 2 ∧ t11 = .int .i64 1 ∧ t3 = .int .i64 (ha.length : Nat)) ∨ (gk = 1 ∧ t11 = .int .i64 2 ∧ t3 = .int .i64 (ha.length + hb.length : Nat))) ∧ w = wr)
 case atStart => exact ⟨.inl ⟨rfl, rfl, rfl⟩, rfl⟩
 case round =>
  obtain ⟨hw, rfl⟩ := hrel
  rcases hw with ⟨rfl, rfl, rfl⟩ | ⟨rfl, rfl, rfl⟩ | ⟨rfl, rfl, rfl⟩
  ·go_wp2
   go_roundg 2
   case measure => omega
   case rel => exact ⟨.inr (.inl ⟨rfl, by go_num, by go_num⟩), rfl⟩
  ·go_wp2
   go_roundg 1
   case measure => omega
   case rel => exact ⟨.inr (.inr ⟨rfl, by go_num, by go_num⟩), rfl⟩
  ·clear c0 c1
   go_wp2_with fail
   refine (grow_any (ha.length + hb.length) _ (by omega)).mono ?_
   rintro e w1 ⟨vo, rfl, hp⟩
   have HP := Px.hid hp
   obtain ⟨oa, oc, rfl, _⟩ := hp.own.len
   clear hp
   go_wp2
   go_loopg [6, 27] 3 (fun gk t6 t27 wr => ((gk = 3 ∧ t27 = .int .i64 0 ∧ Hid (PrsO w wr t6 [])) ∨ (gk = 2 ∧ t27 = .int .i64 1 ∧ Hid (PrsO w wr t6 ha)) ∨ (gk = 1 ∧ t27 = .int .i64 2 ∧ Hid (PrsO w wr t6 (ha ++ hb)))))
   case atStart => exact .inl ⟨rfl, rfl, HP⟩
   case round =>
    rcases hrel with ⟨rfl, rfl, HQ⟩ | ⟨rfl, rfl, HQ⟩ | ⟨rfl, rfl, HQ⟩
    ·obtain ⟨c0, c1⟩ := HC.out wr HQ.out.same
     obtain ⟨xa, xc, rfl, _⟩ := HQ.out.own.len
     go_wp2_with (at_builtin; go_must (refine wpList_append_all rfl _ _ 86 86 rfl 116 i0 _ 7 72 Tryd.underlying86 hi0 hz0 hz1 hz2 rfl (.slice xa 0 xc) 0 [] rfl HQ.out.own _ ha.length (ha.flatMap cPair) rfl (H.out.1 _ HQ.out.same) (by unfold maxLen; omega) (by omega) ?_))
     intro gb cap' w2 hown hgrow hat
     have HN : Hid (PrsO w w2 (.slice gb ha.length cap') ha) := Px.hid (HQ.out.more (k := ha) (by rw [List.length_nil, Nat.zero_add]; exact hown) hgrow hat)
     clear hown hgrow hat
     go_wp2
     go_roundg 2
     case measure => omega
     case rel => exact .inr (.inl ⟨rfl, by go_num, HN⟩)
    ·obtain ⟨c0, c1⟩ := HC.out wr HQ.out.same
     obtain ⟨xa, xc, rfl, _⟩ := HQ.out.own.len
     go_wp2_with (at_builtin; go_must (refine wpList_append_all rfl _ _ 86 86 rfl 116 i0 _ 7 72 Tryd.underlying86 hi0 hz0 hz1 hz2 rfl (.slice xa ha.length xc) ha.length (ha.flatMap cPair) rfl HQ.out.own _ hb.length (hb.flatMap cPair) rfl (H.out.2 _ HQ.out.same) (by unfold maxLen; omega) (by omega) ?_))
     intro gb cap' w2 hown hgrow hat
     have HN := Px.hid (HQ.out.more (k := hb) hown hgrow hat)
     clear hown hgrow hat
     go_wp2
     go_roundg 1
     case measure => omega
     case rel => exact .inr (.inr ⟨rfl, by go_num, HN⟩)
    ·go_wp2
     go_ret
     exact ⟨_, rfl, HQ.out⟩
end Go.Proofs.YtddiabaagpmkgaaDoor

/-! The walk over cose.labels. -/
namespace Go.Px.Co
theorem any_drop {α : Type} (f : α → Bool) (h : List α) (i : Nat) (hi : i < h.length) : (h.drop i).any f = (f h[i] || (h.drop (i + 1)).any f) := by
 rw [List.drop_eq_getElem_cons hi, List.any_cons]
theorem any_over {α : Type} (f : α → Bool) (h : List α) (i : Nat) (hi : ¬ i < h.length) : (h.drop i).any f = false := by
 rw [List.drop_of_length_le (by omega)]
 rfl
end Go.Px.Co
namespace Go.Proofs.YtddiabaagpmkgaaDoor
open Go.RowKit Go.Px Go.Px.E7 Go.Px.Co
theorem two_six0 (w : World) : (Instr.index 144 (.agg #[.int .u64 2, .int .u64 6]) (.int .i64 0)).run Tryd.prog w = .ok (.int .u64 2) w := by kernel_rfl
theorem two_six1 (w : World) : (Instr.index 144 (.agg #[.int .u64 2, .int .u64 6]) (.int .i64 1)).run Tryd.prog w = .ok (.int .u64 6) w := by kernel_rfl
set_option maxRecDepth 100000 in
set_option maxHeartbeats 4000000 in
theorem labels_any (va vb : Value) (ha hb : Hdr) (w : World) (h1 : Lies w 7 cPair va ha) (h2 : Lies w 7 cPair vb hb) (hl1 : ha.length ≤ 4096) (hl2 : hb.length ≤ 4096) :
  Calls Tryd.prog 56 #[va, vb] w fun e w' => e = .returned (.int .i64 (Co.labels ha hb)) ∧ Same w w' := by
 obtain ⟨aa, ac, rfl, _, _⟩ := h1.slice
 obtain ⟨ba, bc, rfl, _, _⟩ := h2.slice
 have H := Px.hid (And.intro h1 h2)
 clear h1 h2
 obtain ⟨fa, hfa⟩ : ∃ f, f = (fun p : Atom × Atom => !okL p.1) := ⟨_, rfl⟩
 obtain ⟨fb, hfb⟩ : ∃ f, f = (fun p : Atom × Atom => !okL p.1 || ha.any (fun q => q.1 == p.1)) := ⟨_, rfl⟩
 have HL := Px.hid (show Co.labels ha hb = if ha.any fa then 9 else if hb.any fb then 9 else if (Co.find (ha ++ hb) 2).isSome || (Co.find (ha ++ hb) 6).isSome then 11 else 0 by rw [hfa, hfb]; rfl)
 have HF := Px.hid (And.intro hfa hfb)
 clear hfa hfb
 go_enter Tryd.func56, Tryd.ntmps56
 go_wp2
 go_loopg [16] (ha.length + 1) (fun gk t16 wr => ∃ i : Nat, gk + i = ha.length + 1 ∧ i ≤ ha.length ∧ t16 = .int .i64 i ∧ Hid (ha.any fa = (ha.drop i).any fa ∧ Same w wr))
 case atStart => exact ⟨0, rfl, Nat.zero_le _, rfl, Px.hid ⟨rfl, Same.refl w⟩⟩
 case round =>
  obtain ⟨i, hgk, hi, rfl, HS⟩ := hrel
  have HGK := Px.hid hgk
  clear hgk
  by_cases hlt : i < ha.length
  ·have hltz : (i : Int) < (ha.length : Int) := by omega
   obtain ⟨xb, xo, xc, hve, hxb, hcx⟩ := (Lies.same H.out.1 HS.out.2).cell i ha[i] (by simp [hlt])
   simp only [Value.slice.injEq, true_and] at hve
   obtain ⟨rfl, rfl⟩ := hve
   have x0 := hcx 0 _ rfl
   have x1 := hcx 1 _ rfl
   have x2 := hcx 2 _ rfl
   have x3 := hcx 3 _ rfl
   have x4 := hcx 4 _ rfl
   have x5 := hcx 5 _ rfl
   have x6 := hcx 6 _ rfl
   rw [← Nat.add_assoc] at x0 x1 x2 x3 x4 x5 x6
   rw [Nat.add_zero] at x0
   have hst := any_drop fa ha i hlt
   obtain ⟨p, hp⟩ : ∃ p, p = ha[i] := ⟨_, rfl⟩
   rw [← hp] at x0 x1 x2 x3 x4 x5 x6 hst
   have HST := Px.hid hst
   clear hcx hp hst
   obtain ⟨r, hr⟩ : ∃ r, r = okL p.1 := ⟨_, rfl⟩
   have HR := Px.hid hr
   rw [← hr] at x6
   clear hr
   cases r
   ·have HN := Px.hid (show Co.labels ha hb = 9 by
     have e : fa p = true := by rw [HF.out.1]; show (!okL p.1) = true; rw [← HR.out]; rfl
     rw [HL.out, HS.out.1, HST.out, e]
     rfl)
    go_wp2
    go_ret
    rw [HN.out]
    exact ⟨rfl, Fr.alloc HS.out.2 _⟩
   ·have HN := Px.hid (show ha.any fa = (ha.drop (i + 1)).any fa by
     have e : fa p = false := by rw [HF.out.1]; show (!okL p.1) = false; rw [← HR.out]; rfl
     rw [HS.out.1, HST.out, e]
     rfl)
    go_wp2
    go_roundg (ha.length - i)
    case measure => have := HGK.out; omega
    case rel => exact ⟨i + 1, by omega, by omega, by go_num, Px.hid ⟨HN.out, Fr.alloc HS.out.2 _⟩⟩
  ·have hltz : ¬ (i : Int) < (ha.length : Int) := by omega
   have HA := Px.hid (HS.out.1.trans (any_over fa ha i hlt))
   have HW := Px.hid HS.out.2
   clear HS
   go_wp2
   go_loopg [26] (hb.length + 1) (fun gk t26 wr => ∃ i : Nat, gk + i = hb.length + 1 ∧ i ≤ hb.length ∧ t26 = .int .i64 i ∧ Hid (hb.any fb = (hb.drop i).any fb ∧ Same w wr))
   case atStart => exact ⟨0, rfl, Nat.zero_le _, rfl, Px.hid ⟨rfl, HW.out⟩⟩
   case round =>
    obtain ⟨i, hgk, hi, rfl, HS⟩ := hrel
    have HGK := Px.hid hgk
    clear hgk
    by_cases hlt : i < hb.length
    ·have hltz : (i : Int) < (hb.length : Int) := by omega
     obtain ⟨xb, xo, xc, hve, hxb, hcx⟩ := (Lies.same H.out.2 HS.out.2).cell i hb[i] (by simp [hlt])
     simp only [Value.slice.injEq, true_and] at hve
     obtain ⟨rfl, rfl⟩ := hve
     have x0 := hcx 0 _ rfl
     have x1 := hcx 1 _ rfl
     have x2 := hcx 2 _ rfl
     have x3 := hcx 3 _ rfl
     have x4 := hcx 4 _ rfl
     have x5 := hcx 5 _ rfl
     have x6 := hcx 6 _ rfl
     rw [← Nat.add_assoc] at x0 x1 x2 x3 x4 x5 x6
     rw [Nat.add_zero] at x0
     have hst := any_drop fb hb i hlt
     obtain ⟨p, hp⟩ : ∃ p, p = hb[i] := ⟨_, rfl⟩
     rw [← hp] at x0 x1 x2 x3 x4 x5 x6 hst
     have HST := Px.hid hst
     clear hcx hp hst
     obtain ⟨r, hr⟩ : ∃ r, r = okL p.1 := ⟨_, rfl⟩
     have HR := Px.hid hr
     rw [← hr] at x6
     clear hr
     cases r
     ·have HN := Px.hid (show Co.labels ha hb = 9 by
       have e : fb p = true := by rw [HF.out.2]; show (!okL p.1 || _) = true; rw [← HR.out]; rfl
       rw [HL.out, HA.out, HS.out.1, HST.out, e]
       rfl)
      go_wp2
      go_ret
      rw [HN.out]
      exact ⟨rfl, Fr.alloc HS.out.2 _⟩
     ·obtain ⟨r2, hr2⟩ : ∃ r2, r2 = ha.any (fun q => q.1 == p.1) := ⟨_, rfl⟩
      have HE := Px.hid (show fb p = r2 by rw [HF.out.2, hr2]; show (!okL p.1 || _) = _; rw [← HR.out]; rfl)
      go_wp2_with fail
      refine (conF_any _ ha p.1 wr.heap.size _ (Lies.same H.out.1 (Fr.alloc HS.out.2 _)) (by omega) (cellOf (heap_alloc_new wr _) 0 rfl) (cellOf (heap_alloc_new wr _) 1 rfl) (cellOf (heap_alloc_new wr _) 2 rfl)).mono ?_
      rintro e w1 ⟨rfl, hs⟩
      have HS1 := Px.hid (Same.trans (Fr.alloc HS.out.2 _ : Same w _) hs)
      clear hs
      rw [← hr2]
      clear hr2
      cases r2
      ·have HN := Px.hid (show hb.any fb = (hb.drop (i + 1)).any fb by rw [HS.out.1, HST.out, HE.out]; rfl)
       go_wp2
       go_roundg (hb.length - i)
       case measure => have := HGK.out; omega
       case rel => exact ⟨i + 1, by omega, by omega, by go_num, Px.hid ⟨HN.out, HS1.out⟩⟩
      ·have HN := Px.hid (show Co.labels ha hb = 9 by rw [HL.out, HA.out, HS.out.1, HST.out, HE.out]; rfl)
       go_wp2
       go_ret
       rw [HN.out]
       exact ⟨rfl, HS1.out⟩
    ·have hltz : ¬ (i : Int) < (hb.length : Int) := by omega
     have HB := Px.hid (show Co.labels ha hb = if (Co.find (ha ++ hb) 2).isSome || (Co.find (ha ++ hb) 6).isSome then 11 else 0 by
      rw [HL.out, HA.out, HS.out.1.trans (any_over fb hb i hlt)]
      rfl)
     have HW := Px.hid HS.out.2
     clear HS HA
     go_wp2_with fail
     refine (concat_any _ _ _ _ ha hb _ (cellOf (heap_alloc_new wr _) 0 rfl) (cellOf (heap_alloc_new wr _) 1 rfl) (Lies.same H.out.1 (Fr.alloc HW.out _)) (Lies.same H.out.2 (Fr.alloc HW.out _)) hl1 hl2).mono ?_
     rintro e w1 ⟨vo, rfl, hp⟩
     have HP := Px.hid (And.intro (hp.own.lies cPair_len) (Same.trans (Fr.alloc HW.out _ : Same w _) hp.same))
     obtain ⟨oa, oc, rfl, _⟩ := hp.own.len
     clear hp
     obtain ⟨bb, hbb⟩ : ∃ bb, bb = ha ++ hb := ⟨_, rfl⟩
     have hbl : bb.length ≤ 10000 := by rw [hbb, List.length_append]; omega
     rw [← hbb] at HP HB ⊢
     clear hbb
     have hx0 := two_six0
     have hx1 := two_six1
     go_wp2
     go_loopg [44] 3 (fun gk t44 wr => ((gk = 3 ∧ t44 = .int .i64 0) ∨ (gk = 2 ∧ t44 = .int .i64 1 ∧ Hid ((Co.find bb 2).isSome = false)) ∨ (gk = 1 ∧ t44 = .int .i64 2 ∧ Hid ((Co.find bb 2).isSome = false ∧ (Co.find bb 6).isSome = false))) ∧ Hid (Same w1 wr))
     case atStart => exact ⟨.inl ⟨rfl, rfl⟩, Px.hid (Same.refl _)⟩
     case round =>
      obtain ⟨hw, HS⟩ := hrel
      have hgo : ∀ (n : Nat) (W : World), Same w1 W → Calls Tryd.prog 58 #[.slice oa bb.length oc, .int .u64 (n : Nat)] W fun e w' => e = .returned (fndV (Co.find bb n)) ∧ Same W w' := fun n W hW => get_any _ bb n W (Lies.same HP.out.1 hW) hbl
      have HG := Px.hid hgo
      clear hgo
      rcases hw with ⟨rfl, rfl⟩ | ⟨rfl, rfl, H2⟩ | ⟨rfl, rfl, H26⟩
      ·go_wp2_with fail
       refine (HG.out 2 _ HS.out).mono ?_
       rintro e w2 ⟨rfl, hs⟩
       have HS2 := Px.hid (HS.out.trans hs)
       clear hs
       obtain ⟨o, ho⟩ : ∃ o, o = Co.find bb 2 := ⟨_, rfl⟩
       rw [← ho] at HB ⊢
       have HO := Px.hid ho
       clear ho
       cases o with
       | none =>
        rw [show fndV none = .tuple #[.agg #[.int .i64 0, .int .u64 0, S []], .bool false] from rfl]
        go_wp2
        go_roundg 2
        case measure => omega
        case rel => exact ⟨.inr (.inl ⟨rfl, by go_num, Px.hid (by rw [← HO.out]; rfl)⟩), Px.hid (Fr.alloc HS2.out _)⟩
       | some a =>
        rw [show fndV (some a) = .tuple #[.agg #[.int .i64 a.kind, .int .u64 (a.num : Nat), S a.text], .bool true] from rfl]
        go_wp2
        go_ret
        rw [HB.out]
        exact ⟨rfl, Fr.alloc (HP.out.2.trans HS2.out) _⟩
      ·go_wp2_with fail
       refine (HG.out 6 _ HS.out).mono ?_
       rintro e w2 ⟨rfl, hs⟩
       have HS2 := Px.hid (HS.out.trans hs)
       clear hs
       obtain ⟨o, ho⟩ : ∃ o, o = Co.find bb 6 := ⟨_, rfl⟩
       rw [← ho] at HB ⊢
       have HO := Px.hid ho
       clear ho
       cases o with
       | none =>
        rw [show fndV none = .tuple #[.agg #[.int .i64 0, .int .u64 0, S []], .bool false] from rfl]
        go_wp2
        go_roundg 1
        case measure => omega
        case rel => exact ⟨.inr (.inr ⟨rfl, by go_num, Px.hid ⟨H2.out, by rw [← HO.out]; rfl⟩⟩), Px.hid (Fr.alloc HS2.out _)⟩
       | some a =>
        rw [show fndV (some a) = .tuple #[.agg #[.int .i64 a.kind, .int .u64 (a.num : Nat), S a.text], .bool true] from rfl]
        go_wp2
        go_ret
        rw [HB.out, H2.out]
        exact ⟨rfl, Fr.alloc (HP.out.2.trans HS2.out) _⟩
      ·go_wp2
       go_ret
       rw [HB.out, H26.out.1, H26.out.2]
       exact ⟨rfl, HP.out.2.trans HS.out⟩
end Go.Proofs.YtddiabaagpmkgaaDoor
