/-
 Several texts in one: The walk over the reference's read (layer 25; printed by gen_cqj.py). The walk over the reference's Read (layer 25).
-/
import Derived.Test.YtddiabaagpmkgaaDoorCO
import Derived.Test.YtddiabaagpmkgaaDoorCO
import Derived.Test.YtddiabaagpmkgaaDoorCO
/-! The walk over the reference's read (layer 25; printed by gen_cqj.py). -/
namespace Go.Px.Co
open E7 (nx)
theorem readB_true (L : List Atom) (a : Hdr) : readB true L a = if (L.getD 3 za).kind ≠ 5 then (zero, 9)
  else if (L.getD (nx L 3) za).kind = 7 ∧ (L.getD (nx L 3) za).num = 22 then (zero, 11)
  else if (L.getD (nx L 3) za).kind ≠ 2 then (zero, 9)
  else if (L.getD (nx L 3 + 1) za).kind ≠ 2 then (zero, 9)
  else if labels a (pairsF L (L.getD 3 za).num 4) ≠ 0 then (zero, labels a (pairsF L (L.getD 3 za).num 4))
  else last true (L.getD 2 za).text (part L 3) (L.getD (nx L 3) za).text (L.getD (nx L 3 + 1) za).text (a ++ pairsF L (L.getD 3 za).num 4) := by
 unfold readB
 simp only [true_and, if_true]
theorem readB_false (L : List Atom) (a : Hdr) : readB false L a = if (L.getD 3 za).kind ≠ 5 then (zero, 9)
  else if (L.getD (nx L 3) za).kind = 7 ∧ (L.getD (nx L 3) za).num = 22 then (zero, 11)
  else if (L.getD (nx L 3) za).kind ≠ 2 then (zero, 9)
  else if labels a (pairsF L (L.getD 3 za).num 4) ≠ 0 then (zero, labels a (pairsF L (L.getD 3 za).num 4))
  else last false (L.getD 2 za).text (part L 3) (L.getD (nx L 3) za).text [] (a ++ pairsF L (L.getD 3 za).num 4) := by
 unfold readB
 simp only [Bool.false_eq_true, false_and, if_false]
end Go.Px.Co
namespace Go.Proofs.YtddiabaagpmkgaaDoor
open Go.RowKit Go.Px Go.Px.E7 Go.Px.Co
/-- The call's blocks. -/
structure RdS (w wx : World) (X : Array Value) (lim : Lim) : Prop where
 same : Same w wx
 l : Blk wx w.heap.size #[.int .i64 lim.d, .int .i64 lim.i, .int .i64 lim.b, .int .i64 lim.r] 23
 r : Blk wx (w.heap.size + 1) envZ 27
 x : Blk wx (w.heap.size + 2) X 27
section
variable {w wx wy : World} {X : Array Value} {lim : Lim}
theorem RdS.sm (h : RdS w wx X lim) (hs : Same wx wy) : RdS w wy X lim := ⟨h.same.trans hs, h.l.fr hs (fun x => x), h.r.fr hs (fun x => x), h.x.fr hs (fun x => x)⟩
theorem RdS.alloc (h : RdS w wx X lim) (o : Obj) : RdS w (wx.alloc o) X lim := h.sm (Fr.alloc (Fr.refl _ wx) o)
theorem RdS.put (h : RdS w wx X lim) (i : Nat) (u : Value) : RdS w (wx.setCell ⟨w.heap.size + 2, i, none⟩ u) (X.setIfInBounds i u) lim :=
 ⟨h.same.setCell (.inr (by show _ ≤ w.heap.size + 2; omega)) _, h.l.other _ (by show ¬ w.heap.size = w.heap.size + 2; omega), h.r.other _ (by show ¬ w.heap.size + 1 = w.heap.size + 2; omega), h.x.set i u⟩
theorem RdS.far (h : RdS w wx X lim) {b i : Nat} (hb : w.heap.size + 3 ≤ b) (u : Value) : RdS w (wx.setCell ⟨b, i, none⟩ u) X lim :=
 ⟨h.same.setCell (.inr (by show _ ≤ b; omega)) _, h.l.other _ (by show ¬ w.heap.size = b; omega), h.r.other _ (by show ¬ w.heap.size + 1 = b; omega), h.x.other _ (by show ¬ w.heap.size + 2 = b; omega)⟩
theorem RdS.res (h : RdS w wx X lim) : Blk wx (w.heap.size + 1) #[.int .i64 0, .int .i64 0, .slice none 0 0, .string ByteArray.empty, .string ByteArray.empty, .string ByteArray.empty, .string ByteArray.empty, .string ByteArray.empty, .string ByteArray.empty] 27 := h.r
theorem RdS.lts (h : RdS w wx X lim) : w.heap.size < wx.heap.size ∧ w.heap.size + 1 < wx.heap.size ∧ w.heap.size + 2 < wx.heap.size := ⟨h.l.lt, h.r.lt, h.x.lt⟩
theorem RdS.lims (h : RdS w wx X lim) : wx.cell? ⟨w.heap.size, 0, none⟩ = some (.int .i64 lim.d) ∧ wx.cell? ⟨w.heap.size, 1, none⟩ = some (.int .i64 lim.i) ∧ wx.cell? ⟨w.heap.size, 2, none⟩ = some (.int .i64 lim.b) ∧ wx.cell? ⟨w.heap.size, 3, none⟩ = some (.int .i64 lim.r) := ⟨h.l.cell 0 rfl, h.l.cell 1 rfl, h.l.cell 2 rfl, h.l.cell 3 rfl⟩
end
/-- A header whose lists lie behind a place. -/
structure RHf (n : Nat) (w : World) (vl vv : Value) (h : Hdr) : Prop where
 hdr : RHdr w vl vv h
 nl : ∀ g, vl.ownBlock = some g → n ≤ g
 nv : ∀ g, vv.ownBlock = some g → n ≤ g
theorem RHf.sm {n : Nat} {w w' : World} {vl vv : Value} {h : Hdr} (x : RHf n w vl vv h) (hs : Same w w') : RHf n w' vl vv h := ⟨x.hdr.same hs, x.nl, x.nv⟩
theorem RHf.put {n : Nat} {w : World} {vl vv : Value} {h : Hdr} (x : RHf n w vl vv h) {p : Addr} (hp : p.block < n) (u : Value) : RHf n (w.setCell p u) vl vv h :=
 ⟨⟨Lies.fr (F := fun j => j = p.block) x.hdr.labels (Fr.setCell (F := fun j => j = p.block) (p := p) (Fr.refl _ w) (.inl rfl) _) (fun k e y => by have := x.nl k e; omega), Lies.fr (F := fun j => j = p.block) x.hdr.values (Fr.setCell (F := fun j => j = p.block) (p := p) (Fr.refl _ w) (.inl rfl) _) (fun k e y => by have := x.nv k e; omega)⟩, x.nl, x.nv⟩
/-- An item's cells, in any later world. -/
def AtomC (w : World) (b o i : Nat) (a : Atom) : Prop := ∀ W, Same w W → W.cell? ⟨b, o + i * 3, none⟩ = some (.int .i64 a.kind) ∧ W.cell? ⟨b, o + i * 3 + 1, none⟩ = some (.int .u64 (a.num : Nat)) ∧ W.cell? ⟨b, o + i * 3 + 2, none⟩ = some (S a.text)
theorem atomC {w : World} {xb xo xc : Nat} {L : List Atom} (h : Lies w 3 cAtom (.slice (some ⟨xb, xo, none⟩) L.length xc) L) {i : Nat} (hi : i < L.length) : AtomC w xb xo i (L.getD i za) := fun W hW => by
 rw [getD_eq hi]
 exact lies_atom (Lies.same h hW) i hi
set_option maxRecDepth 100000 in
set_option maxHeartbeats 40000000 in
theorem rread_any (v : Value) (L : List Atom) (lim : Lim) (w : World) (hv : Lies w 3 cAtom v L) (hD : Dec L) :
  Calls Tryd.prog 25 #[v, limV lim] w (GivesR w (readL L lim)) := by
 have hpos := hD.pos
 obtain ⟨xb, xo, xc, hve, hxb, _⟩ := hv.cell 0 L[0] (by rw [List.getElem?_eq_getElem (by omega)])
 subst hve
 obtain ⟨_, _, hcap1, hcap2, hcap3⟩ := hv.slice
 simp only [Value.slice.injEq, true_and] at hcap1
 obtain ⟨rfl, rfl⟩ := hcap1
 have HV := Px.hid hv
 have HD := Px.hid hD
 have hxw : xb < w.heap.size := hxb
 obtain ⟨R, hR⟩ : ∃ R, R = readL L lim := ⟨_, rfl⟩
 obtain ⟨a0, ha0⟩ : ∃ a, a = L.getD 0 za := ⟨_, rfl⟩
 obtain ⟨a1, ha1⟩ : ∃ a, a = L.getD 1 za := ⟨_, rfl⟩
 obtain ⟨a2, ha2⟩ : ∃ a, a = L.getD 2 za := ⟨_, rfl⟩
 have HR := Px.hid (show R = if a0.kind ≠ 6 then (zero, 9) else if a0.num ≠ 16 ∧ a0.num ≠ 17 then (zero, 11) else
   if a1.kind ≠ 4 ∨ a1.num ≠ (if a0.num == 17 then 4 else 3) then (zero, 9)
   else if a2.kind ≠ 2 then (zero, 9) else if (protect a2.text lim).2 ≠ 0 then (zero, (protect a2.text lim).2) else readB (a0.num == 17) L (protect a2.text lim).1 by rw [hR, ha0, ha1, ha2]; rfl)
 rw [← hR]
 have H0 : Hid (AtomC w xb xo 0 a0) := Px.hid (by rw [ha0]; exact atomC hv hpos)
 have HA := Px.hid (And.intro ha0 (And.intro ha1 ha2))
 have hn0 : a0.num < 18446744073709551616 := by rw [ha0, getD_eq hpos]; exact hD.num hpos
 have hposz : (0 : Int) < (L.length : Int) := by omega
 clear hv hD hxb hcap3 hR ha0 ha1 ha2
 unfold limV
 have h0 : RdS w (((w.alloc (.cells #[.int .i64 lim.d, .int .i64 lim.i, .int .i64 lim.b, .int .i64 lim.r] 23)).alloc (.cells envZ 27)).alloc (.cells envZ 27)) envZ lim := by
  refine ⟨Fr.alloc (Fr.alloc (Fr.alloc (Fr.refl _ w) _) _) _, Blk.alloc (Blk.alloc (blk_new w _ _) _) _, Blk.alloc ?_ _, ?_⟩
  all_goals
   refine (show ∀ (W : World) (k : Nat) (cs : Array Value) (T : TypeId), W.heap.size = k → Blk (W.alloc (.cells cs T (0, 0))) k cs T from fun W k cs T h => by subst h; exact blk_new W cs T) _ _ _ _ ?_
   simp
 go_enter Tryd.func25, Tryd.ntmps25
 go_upto_region 2 with fail
 change RdS w (((w.alloc (.cells #[.int .i64 lim.d, .int .i64 lim.i, .int .i64 lim.b, .int .i64 lim.r] 23)).alloc (.cells #[.int .i64 0, .int .i64 0, .slice none 0 0, S [], S [], S [], S [], S [], S []] 27)).alloc (.cells #[.int .i64 0, .int .i64 0, .slice none 0 0, S [], S [], S [], S [], S [], S []] 27)) #[.int .i64 0, .int .i64 0, .slice none 0 0, S [], S [], S [], S [], S [], S []] lim at h0
 generalize (((w.alloc (.cells #[.int .i64 lim.d, .int .i64 lim.i, .int .i64 lim.b, .int .i64 lim.r] 23)).alloc (.cells #[.int .i64 0, .int .i64 0, .slice none 0 0, S [], S [], S [], S [], S [], S []] 27)).alloc (.cells #[.int .i64 0, .int .i64 0, .slice none 0 0, S [], S [], S [], S [], S [], S []] 27)) = wb at h0 ⊢
 have HS := Px.hid h0
 clear h0
 obtain ⟨c0, c1, c2, c3, c4, c5, c6, c7, c8, d0, d1, d2, d3, d4, d5, d6, d7, d8⟩ := blk9 (show Blk wb (w.heap.size + 2) #[.int .i64 0, .int .i64 0, .slice none 0 0, S [], S [], S [], S [], S [], S []] 27 from HS.out.x)
 obtain ⟨e0, e1, e2, e3, e4, e5, e6, e7, e8, f0, f1, f2, f3, f4, f5, f6, f7, f8⟩ := blk9 HS.out.res
 obtain ⟨p0, p1, p2, p3⟩ := HS.out.lims
 obtain ⟨n0, n1, n2⟩ := HS.out.lts
 obtain ⟨x0, x1, x2⟩ := H0.out _ HS.out.same
 rw [Nat.zero_mul, Nat.add_zero] at x0 x1 x2
 by_cases hk : a0.kind = 6
 ·rw [hk] at x0
  obtain ⟨q1, hq1⟩ := second HD.out.at0 (by rw [← HA.out.1]; exact hk)
  have hp1L : 1 < L.length := by have := hq1.lt; omega
  have hp1z : (1 : Int) < (L.length : Int) := by omega
  have H1 : Hid (AtomC w xb xo 1 a1) := Px.hid (by rw [HA.out.2.1]; exact atomC HV.out hp1L)
  have hn1 : a1.num < 18446744073709551616 := by rw [HA.out.2.1, getD_eq hp1L]; exact HD.out.num hp1L
  have HQ1 := Px.hid hq1
  clear hq1
  by_cases hnm : a0.num = 17
  ·replace HR : Hid (R = if a1.kind ≠ 4 ∨ a1.num ≠ 4 then (zero, 9) else if a2.kind ≠ 2 then (zero, 9) else if (protect a2.text lim).2 ≠ 0 then (zero, (protect a2.text lim).2) else readB true L (protect a2.text lim).1) := Px.hid (by
    rw [HR.out, if_neg (fun e => e hk), if_neg (by omega), hnm]
    rfl)
   rw [hnm] at x1
   clear hnm hk hn0
   go_upto_region 12 with fail
   obtain ⟨wp, hwp⟩ : ∃ wp : World, wp = wb.setCell ⟨w.heap.size + 2, 0, none⟩ (.int .i64 6) := ⟨_, rfl⟩
   have HN := Px.hid (show RdS w wp #[.int .i64 6, .int .i64 0, .slice none 0 0, S [], S [], S [], S [], S [], S []] lim from by rw [hwp]; simpa using HS.out.put 0 (.int .i64 6))
   rw [← hwp]
   clear hwp HS x0 x1 x2 c0 c1 c2 c3 c4 c5 c6 c7 c8 d0 d1 d2 d3 d4 d5 d6 d7 d8 e0 e1 e2 e3 e4 e5 e6 e7 e8 f0 f1 f2 f3 f4 f5 f6 f7 f8 p0 p1 p2 p3 n0 n1 n2
   obtain ⟨c0, c1, c2, c3, c4, c5, c6, c7, c8, d0, d1, d2, d3, d4, d5, d6, d7, d8⟩ := blk9 (show Blk wp (w.heap.size + 2) #[.int .i64 6, .int .i64 0, .slice none 0 0, S [], S [], S [], S [], S [], S []] 27 from HN.out.x)
   obtain ⟨e0, e1, e2, e3, e4, e5, e6, e7, e8, f0, f1, f2, f3, f4, f5, f6, f7, f8⟩ := blk9 HN.out.res
   obtain ⟨p0, p1, p2, p3⟩ := HN.out.lims
   obtain ⟨n0, n1, n2⟩ := HN.out.lts
   obtain ⟨x0, x1, x2⟩ := H1.out _ HN.out.same
   rw [Nat.one_mul] at x0 x1 x2
   by_cases h14 : a1.kind = 4
   ·by_cases h1n : a1.num = 4
    ·rw [h14] at x0
     rw [h1n] at x1
     have hrw := third (n := 4) HQ1.out (by rw [← HA.out.2.1]; exact h14) (by rw [← HA.out.2.1]; exact h1n)
     have hp2L : 2 < L.length := by
      obtain ⟨q2, h2, _⟩ := hrw
      have := h2.lt
      omega
     have HRW := Px.hid (show Rw L (if true then 4 else 3) 2 from hrw)
     clear hrw
     have hp2z : (2 : Int) < (L.length : Int) := by omega
     have H2 : Hid (AtomC w xb xo 2 a2) := Px.hid (by rw [HA.out.2.2]; exact atomC HV.out hp2L)
     obtain ⟨y0, y1, y2⟩ := H2.out _ HN.out.same
     rw [show xo + 2 * 3 = xo + 6 from rfl] at y0 y1 y2
     replace HR : Hid (R = if a2.kind ≠ 2 then (zero, 9) else if (protect a2.text lim).2 ≠ 0 then (zero, (protect a2.text lim).2) else readB true L (protect a2.text lim).1) := Px.hid (by
      rw [HR.out, if_neg (by rintro (e | e); exact e h14; exact e h1n)])
     clear h14 h1n
     by_cases h22 : a2.kind = 2
     ·rw [h22] at y0
      have htx : a2.text.length ≤ 262144 := by rw [HA.out.2.2, getD_eq hp2L]; exact HD.out.text _ (List.getElem_mem hp2L)
      obtain ⟨htwo, hq, hr, h3q, hqr, hrs0⟩ := places (mac := true) HRW.out (by rw [← HA.out.2.2]; exact h22)
      have hrs : ∃ s, At L hr s := hrs0 rfl
      have HPL := Px.hid (And.intro h3q (And.intro hqr hrs))
      replace HR : Hid (R = if (protect a2.text lim).2 ≠ 0 then (zero, (protect a2.text lim).2) else readB true L (protect a2.text lim).1) := Px.hid (by
       rw [HR.out, if_neg (fun e => e h22)])
      have hl3 : 3 < L.length := by have := h3q.lt; have := hqr.lt; omega
      have hlq : hq < L.length := by have := hqr.lt; omega
      have hqc : hq ≤ 4096 := by have := HD.out.len; omega
      clear h22 htwo h3q hqr hrs hrs0
      have hna := protect_num a2.text lim
      have html : (L.getD hq za).text.length ≤ 9223372036854775807 := by rw [getD_eq hlq]; have := HD.out.text _ (List.getElem_mem hlq); omega
      obtain ⟨P, hP⟩ : ∃ P, P = protect a2.text lim := ⟨_, rfl⟩
      have hpl := protect_len a2.text lim
      rw [← hP] at HR hpl hna
      have HP := Px.hid hP
      clear hP
      go_upto_region 16 with fail
      obtain ⟨wq, hwq⟩ : ∃ wq : World, wq = (wp.setCell ⟨w.heap.size + 2, 3, none⟩ (S a2.text)).alloc (.cells #[.slice none 0 0, .slice none 0 0] 96) := ⟨_, rfl⟩
      have HQ := Px.hid (show RdS w wq #[.int .i64 6, .int .i64 0, .slice none 0 0, S a2.text, S [], S [], S [], S [], S []] lim ∧ Blk wq wp.heap.size #[.slice none 0 0, .slice none 0 0] 96 from by
       rw [hwq]
       refine ⟨by simpa using (HN.out.put 3 (S a2.text)).alloc _, ?_⟩
       exact (show ∀ (W : World) (k : Nat) (cs : Array Value) (T : TypeId), W.heap.size = k → Blk (W.alloc (.cells cs T (0, 0))) k cs T from fun W k cs T h => by subst h; exact blk_new W cs T) _ _ _ _ (by simp [World.setCell]))
      have hbA : w.heap.size + 3 ≤ wp.heap.size := by have := n2; omega
      obtain ⟨bA, hA⟩ : ∃ bA, bA = wp.heap.size := ⟨_, rfl⟩
      try rw [← hwq]
      rw [← hA] at HQ hbA ⊢
      clear hwq hA HN x0 x1 x2 y0 y1 y2 c0 c1 c2 c3 c4 c5 c6 c7 c8 d0 d1 d2 d3 d4 d5 d6 d7 d8 e0 e1 e2 e3 e4 e5 e6 e7 e8 f0 f1 f2 f3 f4 f5 f6 f7 f8 p0 p1 p2 p3 n0 n1 n2
      obtain ⟨c0, c1, c2, c3, c4, c5, c6, c7, c8, d0, d1, d2, d3, d4, d5, d6, d7, d8⟩ := blk9 (show Blk wq (w.heap.size + 2) #[.int .i64 6, .int .i64 0, .slice none 0 0, S a2.text, S [], S [], S [], S [], S []] 27 from HQ.out.1.x)
      obtain ⟨e0, e1, e2, e3, e4, e5, e6, e7, e8, f0, f1, f2, f3, f4, f5, f6, f7, f8⟩ := blk9 HQ.out.1.res
      obtain ⟨p0, p1, p2, p3⟩ := HQ.out.1.lims
      obtain ⟨n0, n1, n2⟩ := HQ.out.1.lts
      have hq0 : wq.frozen? ⟨bA, 0, none⟩ = false := HQ.out.2.free 0
      have hq1 : wq.frozen? ⟨bA, 1, none⟩ = false := HQ.out.2.free 1
      have hq2 : wq.cell? ⟨bA, 0, none⟩ = some (.slice none 0 0) := HQ.out.2.cell 0 rfl
      have hq3 : wq.cell? ⟨bA, 1, none⟩ = some (.slice none 0 0) := HQ.out.2.cell 1 rfl
      have hbl := HQ.out.2.lt
      go_upto_if 62 with fail
      go_cut [] (fun wx => ∃ (sa sc : Option Addr) (ca cc : Nat), RdS w wx #[.int .i64 6, .int .i64 0, .slice none 0 0, S a2.text, S [], S [], S [], S [], S []] lim ∧ Blk wx bA #[.slice sa P.1.length ca, .slice sc P.1.length cc] 96 ∧ RHf (bA + 1) wx (.slice sa P.1.length ca) (.slice sc P.1.length cc) P.1 ∧ P.2 = 0)
      case first =>
       by_cases hem : a2.text = []
       ·have hz : ¬ (0 : Int) < (a2.text.length : Int) := by rw [hem]; decide
        have hP0 : P = ([], 0) := by rw [HP.out, hem]; rfl
        have HP0 := Px.hid hP0
        clear hem hP0
        go_wp2_with fail
        go_meet
        rw [HP0.out]
        exact ⟨none, none, 0, 0, HQ.out.1, HQ.out.2, ⟨⟨(owns_nil _ 62 _ _).lies cAtom_len, (owns_nil _ 62 _ _).lies cAtom_len⟩, nofun, nofun⟩, rfl⟩
       ·have hz : (0 : Int) < (a2.text.length : Int) := by
         have : a2.text.length ≠ 0 := fun e => hem (List.length_eq_zero_iff.1 e)
         omega
        have HP1 := Px.hid (show P = (if (R7.decode a2.text lim).2.2 ≠ 0 then ([], (R7.decode a2.text lim).2.2)
         else if ((R7.decode a2.text lim).1.getD 0 za).kind ≠ 5 ∨ ((R7.decode a2.text lim).1.getD 0 za).num = 0 then ([], 9)
         else (pairsF (R7.decode a2.text lim).1 ((R7.decode a2.text lim).1.getD 0 za).num 1, 0)) by rw [HP.out]; unfold protect; rw [if_neg hem])
        have HDR := Px.hid (show ∀ W, Calls Tryd.prog 24 #[S a2.text, limV lim] W (Gives W (R7.decode a2.text lim)) from fun W => refdecode_any a2.text lim (by omega) W)
        have HDD := Px.hid (fun h : (R7.decode a2.text lim).2.2 = 0 => (dec_of h).1)
        unfold limV at HDR
        clear hem
        go_wp2_with fail
        refine (HDR.out _).mono ?_
        intro e w3 hg
        obtain ⟨ma, mc, rfl, ho, hs⟩ := hg.len
        have HQ3 := Px.hid (show RdS w w3 #[.int .i64 6, .int .i64 0, .slice none 0 0, S a2.text, S [], S [], S [], S [], S []] lim ∧ Blk w3 bA #[.slice none 0 0, .slice none 0 0] 96 from ⟨HQ.out.1.sm hs, HQ.out.2.fr hs (fun x => x)⟩)
        obtain ⟨d, hd⟩ : ∃ d, d = R7.decode a2.text lim := ⟨_, rfl⟩
        rw [← hd] at HP1 HDD ho ⊢
        have HO := Px.hid ho
        clear hd ho hs hg HDR c0 c1 c2 c3 c4 c5 c6 c7 c8 d0 d1 d2 d3 d4 d5 d6 d7 d8 e0 e1 e2 e3 e4 e5 e6 e7 e8 f0 f1 f2 f3 f4 f5 f6 f7 f8 p0 p1 p2 p3 n0 n1 n2 hq0 hq1 hq2 hq3
        obtain ⟨M, pl, er⟩ := d
        simp only at HP1 HDD HO ⊢
        obtain ⟨c0, c1, c2, c3, c4, c5, c6, c7, c8, d0, d1, d2, d3, d4, d5, d6, d7, d8⟩ := blk9 (show Blk w3 (w.heap.size + 2) #[.int .i64 6, .int .i64 0, .slice none 0 0, S a2.text, S [], S [], S [], S [], S []] 27 from HQ3.out.1.x)
        obtain ⟨e0, e1, e2, e3, e4, e5, e6, e7, e8, f0, f1, f2, f3, f4, f5, f6, f7, f8⟩ := blk9 HQ3.out.1.res
        obtain ⟨p0, p1, p2, p3⟩ := HQ3.out.1.lims
        obtain ⟨n0, n1, n2⟩ := HQ3.out.1.lts
        have hq0 : w3.frozen? ⟨bA, 0, none⟩ = false := HQ3.out.2.free 0
        have hq1 : w3.frozen? ⟨bA, 1, none⟩ = false := HQ3.out.2.free 1
        have hbl := HQ3.out.2.lt
        by_cases he : er = 0
        ·subst he
         have HM := Px.hid (HDD.out rfl)
         have hpm := HM.out.pos
         obtain ⟨mb, mo, mc', hve, _, _⟩ := (HO.out.lies cAtom_len).cell 0 M[0] (by rw [List.getElem?_eq_getElem (by omega)])
         simp only [Value.slice.injEq, true_and] at hve
         obtain ⟨rfl, rfl⟩ := hve
         obtain ⟨x0, x1, _⟩ := lies_atom (HO.out.lies cAtom_len) 0 hpm
         rw [Nat.zero_mul, Nat.add_zero] at x0 x1
         have hg0 : M.getD 0 za = M[0] := getD_eq hpm
         have hnm := HM.out.num hpm
         obtain ⟨m0, hm0⟩ : ∃ m, m = M[0] := ⟨_, rfl⟩
         rw [← hm0] at x0 x1 hg0 hnm
         have hpmz : (0 : Int) < (M.length : Int) := by omega
         have HP2 := Px.hid (show P = if m0.kind ≠ 5 ∨ m0.num = 0 then ([], 9) else (pairsF M m0.num 1, 0) by rw [HP1.out, if_neg (fun e => e rfl), hg0])
         have HG0 := Px.hid hg0
         clear hm0 hg0 HDD HP1
         by_cases hk5 : m0.kind = 5
         ·by_cases hn0 : m0.num = 0
          ·have HE : Hid (R = (zero, 9)) := Px.hid (by
            have hp : P = ([], 9) := by rw [HP2.out, if_pos (.inr hn0)]
            rw [HR.out, hp]
            exact if_pos (show (9 : Int) ≠ 0 by decide))
           rw [hk5] at x0
           rw [hn0] at x1
           clear hk5 hn0
           go_wp2_with fail
           try go_quiet (fail)
           go_wp2
           refine bodyPost_ret (v := .tuple #[.agg #[.int .i64 6, .int .i64 0, .slice none 0 0, S a2.text, S [], S [], S [], S [], S []], .int .i64 9]) (by simp [results, Tryd.results25, go_sem, *]) rfl (givesR_err ⟨6, 0, [], a2.text, [], [], [], [], []⟩ HE.out (by decide) ?_)
           repeat' first
            | refine Fr.setCell ?_ (.inr (by dsimp only; omega)) _
            | refine Fr.alloc ?_ _
            | refine Fr.drewN ?_ _
            | exact HQ3.out.1.same
          ·have hnz : ((m0.num : Int) == 0) = false := by simp; omega
           have hnz2 : ¬ (m0.num : Int) = 0 := by omega
           have HP3 := Px.hid (show P = (pairsF M m0.num 1, 0) by rw [HP2.out, if_neg (by rintro (e | e); exact e hk5; exact hn0 e)])
           obtain ⟨hprs, hml⟩ := map_prs HM.out.at0 (by rw [HG0.out]; exact hk5)
           rw [HG0.out] at hprs hml
           have HPP := Px.hid (show ∀ W, Same w3 W → Calls Tryd.prog 43 #[.slice (some ⟨mb, mo, none⟩) M.length mc, .int .i64 0] W fun e w' => ∃ vl vv, e = .returned (.agg #[vl, vv]) ∧ RHdr w' vl vv (pairsF M m0.num (0 + 1)) ∧ Same W w' ∧ (∀ g, vl.ownBlock = some g → W.heap.size ≤ g) ∧ (∀ g, vv.ownBlock = some g → W.heap.size ≤ g) from fun W hW => rpairs_any _ M 0 m0.num W (Lies.same (HO.out.lies cAtom_len) hW) HM.out.len hpm (by rw [HG0.out]) (by have := HM.out.len; omega) hprs)
           rw [hk5] at x0
           clear hk5 hn0 hprs hml
           go_wp2_with fail
           try go_quiet (fail)
           try go_wp2_with fail
           refine (HPP.out _ (by first | exact Fr.refl _ _ | exact Fr.drewN (Fr.refl _ _) _)).mono ?_
           rintro e w4 ⟨vl, vv, rfl, hrh, hs, hl1, hv1⟩
           have hpl2 : (pairsF M m0.num (0 + 1)).length = P.1.length := by rw [HP3.out]
           obtain ⟨la, lc, va, vc, rfl, rfl⟩ := hrh.lit
           rw [hpl2]
           rw [hpl2] at hrh hl1 hv1
           have HQ4 := Px.hid (show RdS w w4 #[.int .i64 6, .int .i64 0, .slice none 0 0, S a2.text, S [], S [], S [], S [], S []] lim ∧ Blk w4 bA #[.slice none 0 0, .slice none 0 0] 96 ∧ RHf (bA + 1) w4 (.slice la P.1.length lc) (.slice va P.1.length vc) P.1 from ⟨HQ3.out.1.sm hs, HQ3.out.2.fr hs (fun x => x), by
            refine ⟨by rw [HP3.out]; rw [HP3.out] at hrh; exact hrh, fun g e => ?_, fun g e => ?_⟩
            ·have := hl1 g e; first | omega | (simp at this; omega)
            ·have := hv1 g e; first | omega | (simp at this; omega)⟩)
           clear hrh hs hl1 hv1 c0 c1 c2 c3 c4 c5 c6 c7 c8 d0 d1 d2 d3 d4 d5 d6 d7 d8 e0 e1 e2 e3 e4 e5 e6 e7 e8 f0 f1 f2 f3 f4 f5 f6 f7 f8 p0 p1 p2 p3 n0 n1 n2 hq0 hq1 x0 x1
           obtain ⟨c0, c1, c2, c3, c4, c5, c6, c7, c8, d0, d1, d2, d3, d4, d5, d6, d7, d8⟩ := blk9 (show Blk w4 (w.heap.size + 2) #[.int .i64 6, .int .i64 0, .slice none 0 0, S a2.text, S [], S [], S [], S [], S []] 27 from HQ4.out.1.x)
           obtain ⟨e0, e1, e2, e3, e4, e5, e6, e7, e8, f0, f1, f2, f3, f4, f5, f6, f7, f8⟩ := blk9 HQ4.out.1.res
           obtain ⟨p0, p1, p2, p3⟩ := HQ4.out.1.lims
           obtain ⟨n0, n1, n2⟩ := HQ4.out.1.lts
           have hq0 : w4.frozen? ⟨bA, 0, none⟩ = false := HQ4.out.2.1.free 0
           have hq1 : w4.frozen? ⟨bA, 1, none⟩ = false := HQ4.out.2.1.free 1
           have hq2 : w4.cell? ⟨bA, 0, none⟩ = some (.slice none 0 0) := HQ4.out.2.1.cell 0 rfl
           have hq3 : w4.cell? ⟨bA, 1, none⟩ = some (.slice none 0 0) := HQ4.out.2.1.cell 1 rfl
           have hbl := HQ4.out.2.1.lt
           go_wp2_with fail
           go_meet
           have z := ((HQ4.out.2.1.set 0 (.slice la P.1.length lc)).set 1 (.slice va P.1.length vc))
           refine ⟨la, va, lc, vc, (HQ4.out.1.far hbA _).far hbA _, by simpa using z, (HQ4.out.2.2.put (p := ⟨bA, 0, none⟩) (Nat.lt_succ_self _) _).put (p := ⟨bA, 1, none⟩) (Nat.lt_succ_self _) _, by rw [HP3.out]⟩
         ·have HE : Hid (R = (zero, 9)) := Px.hid (by
           have hp : P = ([], 9) := by rw [HP2.out, if_pos (.inl hk5)]
           rw [HR.out, hp]
           exact if_pos (show (9 : Int) ≠ 0 by decide))
          have hkz : (m0.kind != 5) = true := by simpa using hk5
          have hkz2 : ¬ m0.kind = 5 := hk5
          clear hk5
          go_wp2_with fail
          try go_quiet (fail)
          go_wp2
          refine bodyPost_ret (v := .tuple #[.agg #[.int .i64 6, .int .i64 0, .slice none 0 0, S a2.text, S [], S [], S [], S [], S []], .int .i64 9]) (by simp [results, Tryd.results25, go_sem, *]) rfl (givesR_err ⟨6, 0, [], a2.text, [], [], [], [], []⟩ HE.out (by decide) ?_)
          repeat' first
           | refine Fr.setCell ?_ (.inr (by dsimp only; omega)) _
           | refine Fr.alloc ?_ _
           | refine Fr.drewN ?_ _
           | exact HQ3.out.1.same
        ·have hez : ¬ er = 0 := he
         have hez2 : (er != 0) = true := by simpa using he
         have HE : Hid (R = (zero, er)) := Px.hid (by rw [HR.out, HP1.out, if_pos he]; exact if_pos he)
         have HEZ := Px.hid he
         clear he HP1 HDD
         go_wp2_with fail
         try go_quiet (fail)
         go_wp2
         refine bodyPost_ret (v := .tuple #[.agg #[.int .i64 6, .int .i64 0, .slice none 0 0, S a2.text, S [], S [], S [], S [], S []], .int .i64 er]) (by simp [results, Tryd.results25, go_sem, *]) rfl (givesR_err ⟨6, 0, [], a2.text, [], [], [], [], []⟩ HE.out HEZ.out ?_)
         repeat' first
          | refine Fr.setCell ?_ (.inr (by dsimp only; omega)) _
          | refine Fr.alloc ?_ _
          | refine Fr.drewN ?_ _
          | exact HQ3.out.1.same
      case rest =>
       obtain ⟨sa, sc, ca, cc, hRd, hB, hRH, hP0⟩ := hcut
       have HQ := Px.hid (And.intro hRd (And.intro hB hRH))
       replace HR : Hid (R = readB true L P.1) := Px.hid (by rw [HR.out, if_neg (fun e => e hP0)])
       clear hRd hB hRH hP0 c0 c1 c2 c3 c4 c5 c6 c7 c8 d0 d1 d2 d3 d4 d5 d6 d7 d8 e0 e1 e2 e3 e4 e5 e6 e7 e8 f0 f1 f2 f3 f4 f5 f6 f7 f8 p0 p1 p2 p3 n0 n1 n2 hq0 hq1 hq2 hq3 hbl HP
       obtain ⟨ha, pe⟩ := P
       simp only at HQ HR hpl hna
       have HNA := Px.hid hna
       clear hna
       obtain ⟨c0, c1, c2, c3, c4, c5, c6, c7, c8, d0, d1, d2, d3, d4, d5, d6, d7, d8⟩ := blk9 (show Blk wc (w.heap.size + 2) #[.int .i64 6, .int .i64 0, .slice none 0 0, S a2.text, S [], S [], S [], S [], S []] 27 from HQ.out.1.x)
       obtain ⟨e0, e1, e2, e3, e4, e5, e6, e7, e8, f0, f1, f2, f3, f4, f5, f6, f7, f8⟩ := blk9 HQ.out.1.res
       obtain ⟨p0, p1, p2, p3⟩ := HQ.out.1.lims
       obtain ⟨n0, n1, n2⟩ := HQ.out.1.lts
       have hbl := HQ.out.2.1.lt
       obtain ⟨a3, ha3⟩ : ∃ a, a = L.getD 3 za := ⟨_, rfl⟩
       have H3 : Hid (AtomC w xb xo 3 a3) := Px.hid (by rw [ha3]; exact atomC HV.out hl3)
       obtain ⟨x0, x1, x2⟩ := H3.out _ HQ.out.1.same
       rw [show xo + 3 * 3 = xo + 9 from rfl] at x0 x1 x2
       have hl3z : (3 : Int) < (L.length : Int) := by omega
       have HNX := Px.hid (HPL.out.1.nx HD.out.len)
       obtain ⟨tm, htm⟩ : ∃ a, a = L.getD hq za := ⟨_, rfl⟩
       obtain ⟨tn, htn⟩ : ∃ a, a = L.getD (hq + 1) za := ⟨_, rfl⟩
       obtain ⟨lo, hlo⟩ : ∃ lo, lo = Co.part L 3 := ⟨_, rfl⟩
       replace HR : Hid (R = if a3.kind ≠ 5 then (zero, 9) else if tm.kind = 7 ∧ tm.num = 22 then (zero, 11) else if tm.kind ≠ 2 then (zero, 9)
         else if tn.kind ≠ 2 then (zero, 9) else if Co.labels ha (pairsF L a3.num 4) ≠ 0 then (zero, Co.labels ha (pairsF L a3.num 4))
         else last true a2.text lo tm.text tn.text (ha ++ pairsF L a3.num 4)) := Px.hid (by
        rw [HR.out, ha3, htm, htn, hlo, HA.out.2.2, readB_true, HNX.out])
       have HB := Px.hid (And.intro ha3 (And.intro htm (And.intro htn hlo)))
       rw [← htm] at html
       clear ha3 htm htn hlo
       by_cases hk5 : a3.kind = 5
       ·obtain ⟨hprs, hml⟩ := map_prs HPL.out.1 (by rw [← HB.out.1]; exact hk5)
        rw [← HB.out.1] at hprs hml
        have HPP := Px.hid (show ∀ W, Same w W → Calls Tryd.prog 43 #[.slice (some ⟨xb, xo, none⟩) L.length xc, .int .i64 3] W fun e w' => ∃ vl vv, e = .returned (.agg #[vl, vv]) ∧ RHdr w' vl vv (pairsF L a3.num 4) ∧ Same W w' ∧ (∀ g, vl.ownBlock = some g → W.heap.size ≤ g) ∧ (∀ g, vv.ownBlock = some g → W.heap.size ≤ g) from fun W hW => rpairs_any _ L 3 a3.num W (Lies.same HV.out hW) HD.out.len hl3 (by rw [HB.out.1]) (by have := HD.out.len; omega) hprs)
        have HIT := Px.hid (show ∀ W, Same w W → Calls Tryd.prog 44 #[.slice (some ⟨xb, xo, none⟩) L.length xc, .int .i64 3] W fun e w' => e = .returned (.tuple #[S lo, .int .i64 hq]) ∧ Same W w' from fun W hW => by
         rw [HB.out.2.2.2]
         exact ritem_any _ L 3 hq W (Lies.same HV.out hW) HD.out.len HD.out.wf HD.out.bytes (fun a ha => ⟨(HD.out.wf a ha).1, by have := HD.out.text a ha; omega⟩) HPL.out.1)
        have hlb : (pairsF L a3.num 4).length ≤ 4096 := by rw [pairsF_len]; have := HD.out.len; omega
        have hnB := pairsF_num (fun a h => (HD.out.wf a h).1) a3.num 4
        replace HR : Hid (R = if tm.kind = 7 ∧ tm.num = 22 then (zero, 11) else if tm.kind ≠ 2 then (zero, 9)
         else if tn.kind ≠ 2 then (zero, 9) else if Co.labels ha (pairsF L a3.num 4) ≠ 0 then (zero, Co.labels ha (pairsF L a3.num 4))
         else last true a2.text lo tm.text tn.text (ha ++ pairsF L a3.num 4)) := Px.hid (by rw [HR.out, if_neg (fun e => e hk5)])
        obtain ⟨hb, hhb⟩ : ∃ hb, hb = pairsF L a3.num 4 := ⟨_, rfl⟩
        rw [← hhb] at HPP HR hlb hnB
        have HNB := Px.hid hnB
        rw [hk5] at x0
        clear hk5 hprs hml hhb hnB
        go_upto_region 25 with fail
        go_wp2_with fail
        refine (HPP.out _ HQ.out.1.same).mono ?_
        rintro e w4 ⟨vl, vv, rfl, hrh, hs, hl1, hv1⟩
        obtain ⟨sb, cb, sd, cd, rfl, rfl⟩ := hrh.lit
        have HQ4 := Px.hid (And.intro (HQ.out.1.sm hs) (And.intro (HQ.out.2.1.fr hs (fun x => x)) (And.intro (HQ.out.2.2.sm hs) (show RHf (bA + 1) w4 (.slice sb hb.length cb) (.slice sd hb.length cd) hb from ⟨hrh, fun g e => by have := hl1 g e; omega, fun g e => by have := hv1 g e; omega⟩))))
        have hbl4 := HQ4.out.2.1.lt
        clear hrh hs hl1 hv1 x0 x1 x2 c0 c1 c2 c3 c4 c5 c6 c7 c8 d0 d1 d2 d3 d4 d5 d6 d7 d8 e0 e1 e2 e3 e4 e5 e6 e7 e8 f0 f1 f2 f3 f4 f5 f6 f7 f8 p0 p1 p2 p3 n0 n1 n2
        go_wp2_with fail
        refine (HIT.out _ (Fr.alloc HQ4.out.1.same _)).mono ?_
        rintro e w5 ⟨rfl, hs⟩
        have hsz : w4.heap.size < w5.heap.size := by have := hs.size; simp at this; omega
        have HQ5 := Px.hid (And.intro ((HQ4.out.1.alloc _).sm hs) (And.intro (Blk.fr (HQ4.out.2.1.alloc _) hs (fun x => x)) (And.intro ((HQ4.out.2.2.1.sm (Fr.alloc (Fr.refl _ w4) _)).sm hs) (And.intro (Blk.fr (blk_new w4 _ _) hs (fun x => x)) ((HQ4.out.2.2.2.sm (Fr.alloc (Fr.refl _ w4) _)).sm hs)))))
        clear hs
        obtain ⟨c0, c1, c2, c3, c4, c5, c6, c7, c8, d0, d1, d2, d3, d4, d5, d6, d7, d8⟩ := blk9 (show Blk w5 (w.heap.size + 2) #[.int .i64 6, .int .i64 0, .slice none 0 0, S a2.text, S [], S [], S [], S [], S []] 27 from HQ5.out.1.x)
        obtain ⟨e0, e1, e2, e3, e4, e5, e6, e7, e8, f0, f1, f2, f3, f4, f5, f6, f7, f8⟩ := blk9 HQ5.out.1.res
        obtain ⟨p0, p1, p2, p3⟩ := HQ5.out.1.lims
        obtain ⟨n0, n1, n2⟩ := HQ5.out.1.lts
        go_upto_region 28 with fail
        obtain ⟨bB, hbB⟩ : ∃ bB, bB = w4.heap.size := ⟨_, rfl⟩
        obtain ⟨wc, hwc⟩ : ∃ wc : World, wc = w5.setCell ⟨w.heap.size + 2, 4, none⟩ (S lo) := ⟨_, rfl⟩
        have hne : ¬ bA = w.heap.size + 2 := by omega
        have hne2 : ¬ bB = w.heap.size + 2 := by omega
        have hAB : bA < bB := by omega
        have HS := Px.hid (show RdS w wc #[.int .i64 6, .int .i64 0, .slice none 0 0, S a2.text, S lo, S [], S [], S [], S []] lim ∧ Blk wc bA #[.slice sa ha.length ca, .slice sc ha.length cc] 96 ∧ RHf (bA + 1) wc (.slice sa ha.length ca) (.slice sc ha.length cc) ha ∧ Blk wc bB #[.slice sb hb.length cb, .slice sd hb.length cd] 96 ∧ RHf (bA + 1) wc (.slice sb hb.length cb) (.slice sd hb.length cd) hb from by
         rw [hwc]
         rw [hbB] at hne2 ⊢
         obtain ⟨q1, q2, q3, q4, q5⟩ := HQ5.out
         exact ⟨by simpa using q1.put 4 (S lo), q2.other _ hne, q3.put (p := ⟨w.heap.size + 2, 4, none⟩) (by show w.heap.size + 2 < bA + 1; omega) _, q4.other _ hne2, q5.put (p := ⟨w.heap.size + 2, 4, none⟩) (by show w.heap.size + 2 < bA + 1; omega) _⟩)
        try rw [← hwc]
        try rw [← hbB]
        clear hwc hbB HQ4 HQ5 c0 c1 c2 c3 c4 c5 c6 c7 c8 d0 d1 d2 d3 d4 d5 d6 d7 d8 e0 e1 e2 e3 e4 e5 e6 e7 e8 f0 f1 f2 f3 f4 f5 f6 f7 f8 p0 p1 p2 p3 n0 n1 n2 hbl hsz hbl4
        obtain ⟨c0, c1, c2, c3, c4, c5, c6, c7, c8, d0, d1, d2, d3, d4, d5, d6, d7, d8⟩ := blk9 (show Blk wc (w.heap.size + 2) #[.int .i64 6, .int .i64 0, .slice none 0 0, S a2.text, S lo, S [], S [], S [], S []] 27 from HS.out.1.x)
        obtain ⟨e0, e1, e2, e3, e4, e5, e6, e7, e8, f0, f1, f2, f3, f4, f5, f6, f7, f8⟩ := blk9 HS.out.1.res
        obtain ⟨p0, p1, p2, p3⟩ := HS.out.1.lims
        obtain ⟨n0, n1, n2⟩ := HS.out.1.lts
        have HT := Px.hid (show AtomC w xb xo hq tm from by rw [HB.out.2.1]; exact atomC HV.out hlq)
        obtain ⟨x0, x1, x2⟩ := HT.out _ HS.out.1.same
        have hlqz : (hq : Int) < (L.length : Int) := by omega
        by_cases h7 : tm.kind = 7
        ·by_cases h22 : tm.num = 22
         ·have HE : Hid (R = (zero, 11)) := Px.hid (by rw [HR.out, if_pos ⟨h7, h22⟩])
          rw [h7] at x0
          rw [h22] at x1
          clear h7 h22
          go_wp2_with fail
          try go_quiet (fail)
          go_wp2
          refine bodyPost_ret (v := .tuple #[.agg #[.int .i64 6, .int .i64 0, .slice none 0 0, S a2.text, S lo, S [], S [], S [], S []], .int .i64 11]) (by simp [results, Tryd.results25, go_sem, *]) rfl (givesR_err ⟨6, 0, [], a2.text, lo, [], [], [], []⟩ HE.out (by decide) ?_)
          repeat' first
           | refine Fr.setCell ?_ (.inr (by dsimp only; omega)) _
           | refine Fr.alloc ?_ _
           | refine Fr.drewN ?_ _
           | exact HS.out.1.same
         ·have HE : Hid (R = (zero, 9)) := Px.hid (by rw [HR.out, if_neg (fun e => h22 e.2), if_pos (by rw [h7]; decide)])
          have h22z : ((tm.num : Int) == 22) = false := by simp; omega
          have h22z2 : ¬ (tm.num : Int) = 22 := by omega
          rw [h7] at x0
          clear h7 h22
          go_wp2_with fail
          try go_quiet (fail)
          go_wp2
          refine bodyPost_ret (v := .tuple #[.agg #[.int .i64 6, .int .i64 0, .slice none 0 0, S a2.text, S lo, S [], S [], S [], S []], .int .i64 9]) (by simp [results, Tryd.results25, go_sem, *]) rfl (givesR_err ⟨6, 0, [], a2.text, lo, [], [], [], []⟩ HE.out (by decide) ?_)
          repeat' first
           | refine Fr.setCell ?_ (.inr (by dsimp only; omega)) _
           | refine Fr.alloc ?_ _
           | refine Fr.drewN ?_ _
           | exact HS.out.1.same
        ·have h7z : (tm.kind == 7) = false := by simpa using h7
         have h7z2 : ¬ tm.kind = 7 := h7
         replace HR : Hid (R = if tm.kind ≠ 2 then (zero, 9)
          else if tn.kind ≠ 2 then (zero, 9) else if Co.labels ha hb ≠ 0 then (zero, Co.labels ha hb)
          else last true a2.text lo tm.text tn.text (ha ++ hb)) := Px.hid (by rw [HR.out, if_neg (fun e => h7 e.1)])
         clear h7
         by_cases hk2 : tm.kind = 2
         ·rw [hk2] at x0
          have hhr : hr = hq + 1 := by
           rcases At.ways HPL.out.2.1 with ⟨_, e⟩ | ⟨e, _⟩
           ·exact e
           ·rw [← HB.out.2.1, leaf2 hk2] at e; cases e
          have hlq1 : hq + 1 < L.length := by
           obtain ⟨s, hs⟩ := HPL.out.2.2
           have := hs.lt
           omega
          have hlq1z : (hq : Int) + 1 < (L.length : Int) := by omega
          have HT2 := Px.hid (show AtomC w xb xo (hq + 1) tn from by rw [HB.out.2.2.1]; exact atomC HV.out hlq1)
          obtain ⟨y0, y1, y2⟩ := HT2.out _ HS.out.1.same
          replace HR : Hid (R = if tn.kind ≠ 2 then (zero, 9) else if Co.labels ha hb ≠ 0 then (zero, Co.labels ha hb)
           else last true a2.text lo tm.text tn.text (ha ++ hb)) := Px.hid (by rw [HR.out, if_neg (fun e => e hk2)])
          clear hk2 hhr hlq1
          by_cases hk3 : tn.kind = 2
          ·rw [hk3] at y0
           replace HR : Hid (R = if Co.labels ha hb ≠ 0 then (zero, Co.labels ha hb) else last true a2.text lo tm.text tn.text (ha ++ hb)) := Px.hid (by rw [HR.out, if_neg (fun e => e hk3)])
           clear hk3
           go_upto_region 35 with fail
           obtain ⟨tg, htg⟩ : ∃ tg, tg = tn.text := ⟨_, rfl⟩
           rw [← htg] at HR
           obtain ⟨wl, hwl⟩ : ∃ wl : World, wl = (wc.setCell ⟨w.heap.size + 2, 7, none⟩ (S tm.text)).setCell ⟨w.heap.size + 2, 8, none⟩ (S tn.text) := ⟨_, rfl⟩
           have hne : ¬ bA = w.heap.size + 2 := by omega
           have hne2 : ¬ bB = w.heap.size + 2 := by omega
           have hlt2 : w.heap.size + 2 < bA + 1 := by omega
           have HW := Px.hid (show RdS w wl #[.int .i64 6, .int .i64 0, .slice none 0 0, S a2.text, S lo, S [], S [], S tm.text, S tg] lim ∧ Blk wl bA #[.slice sa ha.length ca, .slice sc ha.length cc] 96 ∧ RHf (bA + 1) wl (.slice sa ha.length ca) (.slice sc ha.length cc) ha ∧ Blk wl bB #[.slice sb hb.length cb, .slice sd hb.length cd] 96 ∧ RHf (bA + 1) wl (.slice sb hb.length cb) (.slice sd hb.length cd) hb from by
            rw [hwl, htg]
            obtain ⟨q1, q2, q3, q4, q5⟩ := HS.out
            exact ⟨by simpa using (q1.put 7 (S tm.text)).put 8 (S tn.text), (q2.other _ hne).other _ hne, (q3.put (p := ⟨w.heap.size + 2, 7, none⟩) hlt2 _).put (p := ⟨w.heap.size + 2, 8, none⟩) hlt2 _, (q4.other _ hne2).other _ hne2, (q5.put (p := ⟨w.heap.size + 2, 7, none⟩) hlt2 _).put (p := ⟨w.heap.size + 2, 8, none⟩) hlt2 _⟩)
           have HLB := Px.hid (rlabels_any _ _ _ _ ha hb wl HW.out.2.2.1.hdr HW.out.2.2.2.2.hdr hpl hlb)
           try rw [← hwl]
           clear hwl htg x0 x1 x2 c0 c1 c2 c3 c4 c5 c6 c7 c8 d0 d1 d2 d3 d4 d5 d6 d7 d8 e0 e1 e2 e3 e4 e5 e6 e7 e8 f0 f1 f2 f3 f4 f5 f6 f7 f8 p0 p1 p2 p3 n0 n1 n2 HS
           obtain ⟨c0, c1, c2, c3, c4, c5, c6, c7, c8, d0, d1, d2, d3, d4, d5, d6, d7, d8⟩ := blk9 (show Blk wl (w.heap.size + 2) #[.int .i64 6, .int .i64 0, .slice none 0 0, S a2.text, S lo, S [], S [], S tm.text, S tg] 27 from HW.out.1.x)
           obtain ⟨e0, e1, e2, e3, e4, e5, e6, e7, e8, f0, f1, f2, f3, f4, f5, f6, f7, f8⟩ := blk9 HW.out.1.res
           obtain ⟨p0, p1, p2, p3⟩ := HW.out.1.lims
           obtain ⟨n0, n1, n2⟩ := HW.out.1.lts
           have q0 : wl.cell? ⟨bA, 0, none⟩ = some (.slice sa ha.length ca) := HW.out.2.1.cell 0 rfl
           have q1 : wl.cell? ⟨bA, 1, none⟩ = some (.slice sc ha.length cc) := HW.out.2.1.cell 1 rfl
           have q2 : wl.cell? ⟨bB, 0, none⟩ = some (.slice sb hb.length cb) := HW.out.2.2.2.1.cell 0 rfl
           have q3 : wl.cell? ⟨bB, 1, none⟩ = some (.slice sd hb.length cd) := HW.out.2.2.2.1.cell 1 rfl
           go_wp2_with fail
           refine HLB.out.mono ?_
           rintro e w6 ⟨rfl, hs⟩
           have HW6 := Px.hid (show RdS w w6 #[.int .i64 6, .int .i64 0, .slice none 0 0, S a2.text, S lo, S [], S [], S tm.text, S tg] lim ∧ Blk w6 bA #[.slice sa ha.length ca, .slice sc ha.length cc] 96 ∧ RHf (bA + 1) w6 (.slice sa ha.length ca) (.slice sc ha.length cc) ha ∧ Blk w6 bB #[.slice sb hb.length cb, .slice sd hb.length cd] 96 ∧ RHf (bA + 1) w6 (.slice sb hb.length cb) (.slice sd hb.length cd) hb from ⟨HW.out.1.sm hs, HW.out.2.1.fr hs (fun x => x), HW.out.2.2.1.sm hs, HW.out.2.2.2.1.fr hs (fun x => x), HW.out.2.2.2.2.sm hs⟩)
           clear hs c0 c1 c2 c3 c4 c5 c6 c7 c8 d0 d1 d2 d3 d4 d5 d6 d7 d8 e0 e1 e2 e3 e4 e5 e6 e7 e8 f0 f1 f2 f3 f4 f5 f6 f7 f8 p0 p1 p2 p3 n0 n1 n2 q0 q1 q2 q3 HLB HW
           obtain ⟨c0, c1, c2, c3, c4, c5, c6, c7, c8, d0, d1, d2, d3, d4, d5, d6, d7, d8⟩ := blk9 (show Blk w6 (w.heap.size + 2) #[.int .i64 6, .int .i64 0, .slice none 0 0, S a2.text, S lo, S [], S [], S tm.text, S tg] 27 from HW6.out.1.x)
           obtain ⟨e0, e1, e2, e3, e4, e5, e6, e7, e8, f0, f1, f2, f3, f4, f5, f6, f7, f8⟩ := blk9 HW6.out.1.res
           obtain ⟨p0, p1, p2, p3⟩ := HW6.out.1.lims
           obtain ⟨n0, n1, n2⟩ := HW6.out.1.lts
           have q0 : w6.cell? ⟨bA, 0, none⟩ = some (.slice sa ha.length ca) := HW6.out.2.1.cell 0 rfl
           have q1 : w6.cell? ⟨bA, 1, none⟩ = some (.slice sc ha.length cc) := HW6.out.2.1.cell 1 rfl
           have q2 : w6.cell? ⟨bB, 0, none⟩ = some (.slice sb hb.length cb) := HW6.out.2.2.2.1.cell 0 rfl
           have q3 : w6.cell? ⟨bB, 1, none⟩ = some (.slice sd hb.length cd) := HW6.out.2.2.2.1.cell 1 rfl
           obtain ⟨el, hel⟩ : ∃ el, el = Co.labels ha hb := ⟨_, rfl⟩
           rw [← hel] at HR ⊢
           clear hel
           by_cases he : el = 0
           ·subst he
            replace HR : Hid (R = last true a2.text lo tm.text tg (ha ++ hb)) := Px.hid (by rw [HR.out, if_neg (fun e => e rfl)])
            have HLS := Px.hid (rlast_mac a2.text lo tm.text tg _ _ _ _ ha hb w6 HW6.out.2.2.1.hdr HW6.out.2.2.2.2.hdr (by omega) (by omega) (fun p hp => by
             rcases List.mem_append.1 hp with h | h
             ·exact HNA.out p h
             ·exact HNB.out p h) html)
            rw [← HR.out] at HLS
            go_wp2_with fail
            refine HLS.out.mono ?_
            rintro e w7 ⟨y, va, vn, vc, rfl, hs, hok⟩
            unfold envC
            have HS7 := Px.hid (And.intro hs hok)
            have HR7 := Px.hid (HW6.out.1.sm hs)
            clear hs hok c0 c1 c2 c3 c4 c5 c6 c7 c8 d0 d1 d2 d3 d4 d5 d6 d7 d8 e0 e1 e2 e3 e4 e5 e6 e7 e8 f0 f1 f2 f3 f4 f5 f6 f7 f8 p0 p1 p2 p3 n0 n1 n2 q0 q1 q2 q3 HLS
            obtain ⟨c0, c1, c2, c3, c4, c5, c6, c7, c8, d0, d1, d2, d3, d4, d5, d6, d7, d8⟩ := blk9 (show Blk w7 (w.heap.size + 2) #[.int .i64 6, .int .i64 0, .slice none 0 0, S a2.text, S lo, S [], S [], S tm.text, S tg] 27 from HR7.out.x)
            obtain ⟨e0, e1, e2, e3, e4, e5, e6, e7, e8, f0, f1, f2, f3, f4, f5, f6, f7, f8⟩ := blk9 HR7.out.res
            obtain ⟨p0, p1, p2, p3⟩ := HR7.out.lims
            obtain ⟨n0, n1, n2⟩ := HR7.out.lts
            go_wp2
            refine bodyPost_ret (v := .tuple #[.agg (envC y (.slice va vn vc)), .int .i64 R.2]) (by unfold envC; simp [results, Tryd.results25, go_sem, *]) rfl ?_
            have hsr := HR7.out.same
            have hle := HW6.out.1.same.size
            refine ⟨y, va, vn, vc, rfl, ?_, fun h0 => ?_⟩
            ·repeat' first
              | refine Fr.setCell ?_ (.inr (by dsimp only; omega)) _
              | exact hsr
            ·obtain ⟨h1, h2, h3, h4⟩ := HS7.out.2 h0
             refine ⟨h1, ?_, fun g e => Nat.le_trans hle (h3 g e), h4⟩
             have hne : (Value.slice va vn vc).ownBlock ≠ some (w.heap.size + 1) := fun e => by have := h3 _ e; have := HW6.out.1.lts.2.1; omega
             exact ((((((((h2.setCell (p := ⟨w.heap.size + 1, 0, none⟩) hne _).setCell (p := ⟨w.heap.size + 1, 1, none⟩) hne _).setCell (p := ⟨w.heap.size + 1, 2, none⟩) hne _).setCell (p := ⟨w.heap.size + 1, 3, none⟩) hne _).setCell (p := ⟨w.heap.size + 1, 4, none⟩) hne _).setCell (p := ⟨w.heap.size + 1, 5, none⟩) hne _).setCell (p := ⟨w.heap.size + 1, 6, none⟩) hne _).setCell (p := ⟨w.heap.size + 1, 7, none⟩) hne _).setCell (p := ⟨w.heap.size + 1, 8, none⟩) hne _
           ·have hez : ¬ el = 0 := he
            have hez2 : (el != 0) = true := by simpa using he
            have HE : Hid (R = (zero, el)) := Px.hid (by rw [HR.out, if_pos he])
            have HEZ := Px.hid he
            clear he
            go_wp2_with fail
            try go_quiet (fail)
            go_wp2
            refine bodyPost_ret (v := .tuple #[.agg #[.int .i64 6, .int .i64 0, .slice none 0 0, S a2.text, S lo, S [], S [], S tm.text, S tg], .int .i64 el]) (by simp [results, Tryd.results25, go_sem, *]) rfl (givesR_err ⟨6, 0, [], a2.text, lo, [], [], tm.text, tg⟩ HE.out HEZ.out ?_)
            repeat' first
             | refine Fr.setCell ?_ (.inr (by dsimp only; omega)) _
             | refine Fr.alloc ?_ _
             | refine Fr.drewN ?_ _
             | exact HW6.out.1.same
          ·have HE : Hid (R = (zero, 9)) := Px.hid (by rw [HR.out, if_pos hk3])
           have hkz : (tn.kind != 2) = true := by simpa using hk3
           have hkz2 : ¬ tn.kind = 2 := hk3
           clear hk3
           go_wp2_with fail
           try go_quiet (fail)
           go_wp2
           refine bodyPost_ret (v := .tuple #[.agg #[.int .i64 6, .int .i64 0, .slice none 0 0, S a2.text, S lo, S [], S [], S [], S []], .int .i64 9]) (by simp [results, Tryd.results25, go_sem, *]) rfl (givesR_err ⟨6, 0, [], a2.text, lo, [], [], [], []⟩ HE.out (by decide) ?_)
           repeat' first
            | refine Fr.setCell ?_ (.inr (by dsimp only; omega)) _
            | refine Fr.alloc ?_ _
            | refine Fr.drewN ?_ _
            | exact HS.out.1.same
         ·have HE : Hid (R = (zero, 9)) := Px.hid (by rw [HR.out, if_pos hk2])
          have hkz : (tm.kind != 2) = true := by simpa using hk2
          have hkz2 : ¬ tm.kind = 2 := hk2
          clear hk2
          go_wp2_with fail
          try go_quiet (fail)
          go_wp2
          refine bodyPost_ret (v := .tuple #[.agg #[.int .i64 6, .int .i64 0, .slice none 0 0, S a2.text, S lo, S [], S [], S [], S []], .int .i64 9]) (by simp [results, Tryd.results25, go_sem, *]) rfl (givesR_err ⟨6, 0, [], a2.text, lo, [], [], [], []⟩ HE.out (by decide) ?_)
          repeat' first
           | refine Fr.setCell ?_ (.inr (by dsimp only; omega)) _
           | refine Fr.alloc ?_ _
           | refine Fr.drewN ?_ _
           | exact HS.out.1.same
       ·have HE : Hid (R = (zero, 9)) := Px.hid (by rw [HR.out, if_pos hk5])
        have hkz : (a3.kind != 5) = true := by simpa using hk5
        have hkz2 : ¬ a3.kind = 5 := hk5
        clear hk5 HR
        go_wp2_with fail
        try go_quiet (fail)
        go_wp2
        refine bodyPost_ret (v := .tuple #[.agg #[.int .i64 6, .int .i64 0, .slice none 0 0, S a2.text, S [], S [], S [], S [], S []], .int .i64 9]) (by simp [results, Tryd.results25, go_sem, *]) rfl (givesR_err ⟨6, 0, [], a2.text, [], [], [], [], []⟩ HE.out (by decide) ?_)
        repeat' first
         | refine Fr.setCell ?_ (.inr (by dsimp only; omega)) _
         | refine Fr.alloc ?_ _
         | refine Fr.drewN ?_ _
         | exact HQ.out.1.same
     ·have HE : Hid (R = (zero, 9)) := Px.hid (by rw [HR.out, if_pos h22])
      have hz : (a2.kind != 2) = true := by simpa using h22
      have hz2 : ¬ a2.kind = 2 := h22
      clear h22 HR
      go_wp2_with fail
      try go_quiet (fail)
      go_wp2
      refine bodyPost_ret (v := .tuple #[.agg #[.int .i64 6, .int .i64 0, .slice none 0 0, S [], S [], S [], S [], S [], S []], .int .i64 9]) (by simp [results, Tryd.results25, go_sem, *]) rfl (givesR_err ⟨6, 0, [], [], [], [], [], [], []⟩ HE.out (by decide) ?_)
      repeat' first
       | refine Fr.setCell ?_ (.inr (by dsimp only; omega)) _
       | refine Fr.alloc ?_ _
       | refine Fr.drewN ?_ _
       | exact HN.out.same
    ·have HE : Hid (R = (zero, 9)) := Px.hid (by rw [HR.out, if_pos (.inr h1n)])
     have hz : ((a1.num : Int) != 4) = true := by simp; omega
     have hz2 : ¬ (a1.num : Int) = 4 := by omega
     rw [h14] at x0
     clear h14 h1n HR
     go_wp2_with fail
     try go_quiet (fail)
     go_wp2
     refine bodyPost_ret (v := .tuple #[.agg #[.int .i64 6, .int .i64 0, .slice none 0 0, S [], S [], S [], S [], S [], S []], .int .i64 9]) (by simp [results, Tryd.results25, go_sem, *]) rfl (givesR_err ⟨6, 0, [], [], [], [], [], [], []⟩ HE.out (by decide) ?_)
     repeat' first
      | refine Fr.setCell ?_ (.inr (by dsimp only; omega)) _
      | refine Fr.alloc ?_ _
      | refine Fr.drewN ?_ _
      | exact HN.out.same
   ·have HE : Hid (R = (zero, 9)) := Px.hid (by rw [HR.out, if_pos (.inl h14)])
    have hz : (a1.kind != 4) = true := by simpa using h14
    have hz2 : ¬ a1.kind = 4 := h14
    clear h14 HR
    go_wp2_with fail
    try go_quiet (fail)
    go_wp2
    refine bodyPost_ret (v := .tuple #[.agg #[.int .i64 6, .int .i64 0, .slice none 0 0, S [], S [], S [], S [], S [], S []], .int .i64 9]) (by simp [results, Tryd.results25, go_sem, *]) rfl (givesR_err ⟨6, 0, [], [], [], [], [], [], []⟩ HE.out (by decide) ?_)
    repeat' first
     | refine Fr.setCell ?_ (.inr (by dsimp only; omega)) _
     | refine Fr.alloc ?_ _
     | refine Fr.drewN ?_ _
     | exact HN.out.same
  ·by_cases hnm2 : a0.num = 16
   ·replace HR : Hid (R = if a1.kind ≠ 4 ∨ a1.num ≠ 3 then (zero, 9) else if a2.kind ≠ 2 then (zero, 9) else if (protect a2.text lim).2 ≠ 0 then (zero, (protect a2.text lim).2) else readB false L (protect a2.text lim).1) := Px.hid (by
     rw [HR.out, if_neg (fun e => e hk), if_neg (by omega), hnm2]
     rfl)
    rw [hnm2] at x1
    clear hnm hnm2 hk hn0
    go_upto_region 12 with fail
    obtain ⟨wp, hwp⟩ : ∃ wp : World, wp = wb.setCell ⟨w.heap.size + 2, 0, none⟩ (.int .i64 5) := ⟨_, rfl⟩
    have HN := Px.hid (show RdS w wp #[.int .i64 5, .int .i64 0, .slice none 0 0, S [], S [], S [], S [], S [], S []] lim from by rw [hwp]; simpa using HS.out.put 0 (.int .i64 5))
    rw [← hwp]
    clear hwp HS x0 x1 x2 c0 c1 c2 c3 c4 c5 c6 c7 c8 d0 d1 d2 d3 d4 d5 d6 d7 d8 e0 e1 e2 e3 e4 e5 e6 e7 e8 f0 f1 f2 f3 f4 f5 f6 f7 f8 p0 p1 p2 p3 n0 n1 n2
    obtain ⟨c0, c1, c2, c3, c4, c5, c6, c7, c8, d0, d1, d2, d3, d4, d5, d6, d7, d8⟩ := blk9 (show Blk wp (w.heap.size + 2) #[.int .i64 5, .int .i64 0, .slice none 0 0, S [], S [], S [], S [], S [], S []] 27 from HN.out.x)
    obtain ⟨e0, e1, e2, e3, e4, e5, e6, e7, e8, f0, f1, f2, f3, f4, f5, f6, f7, f8⟩ := blk9 HN.out.res
    obtain ⟨p0, p1, p2, p3⟩ := HN.out.lims
    obtain ⟨n0, n1, n2⟩ := HN.out.lts
    obtain ⟨x0, x1, x2⟩ := H1.out _ HN.out.same
    rw [Nat.one_mul] at x0 x1 x2
    by_cases h14 : a1.kind = 4
    ·by_cases h1n : a1.num = 3
     ·rw [h14] at x0
      rw [h1n] at x1
      have hrw := third (n := 3) HQ1.out (by rw [← HA.out.2.1]; exact h14) (by rw [← HA.out.2.1]; exact h1n)
      have hp2L : 2 < L.length := by
       obtain ⟨q2, h2, _⟩ := hrw
       have := h2.lt
       omega
      have HRW := Px.hid (show Rw L (if false then 4 else 3) 2 from hrw)
      clear hrw
      have hp2z : (2 : Int) < (L.length : Int) := by omega
      have H2 : Hid (AtomC w xb xo 2 a2) := Px.hid (by rw [HA.out.2.2]; exact atomC HV.out hp2L)
      obtain ⟨y0, y1, y2⟩ := H2.out _ HN.out.same
      rw [show xo + 2 * 3 = xo + 6 from rfl] at y0 y1 y2
      replace HR : Hid (R = if a2.kind ≠ 2 then (zero, 9) else if (protect a2.text lim).2 ≠ 0 then (zero, (protect a2.text lim).2) else readB false L (protect a2.text lim).1) := Px.hid (by
       rw [HR.out, if_neg (by rintro (e | e); exact e h14; exact e h1n)])
      clear h14 h1n
      by_cases h22 : a2.kind = 2
      ·rw [h22] at y0
       have htx : a2.text.length ≤ 262144 := by rw [HA.out.2.2, getD_eq hp2L]; exact HD.out.text _ (List.getElem_mem hp2L)
       obtain ⟨htwo, hq, hr, h3q, hqr, hrs0⟩ := places (mac := false) HRW.out (by rw [← HA.out.2.2]; exact h22)
       have hrs : True := trivial
       have HPL := Px.hid (And.intro h3q (And.intro hqr hrs))
       replace HR : Hid (R = if (protect a2.text lim).2 ≠ 0 then (zero, (protect a2.text lim).2) else readB false L (protect a2.text lim).1) := Px.hid (by
        rw [HR.out, if_neg (fun e => e h22)])
       have hl3 : 3 < L.length := by have := h3q.lt; have := hqr.lt; omega
       have hlq : hq < L.length := by have := hqr.lt; omega
       have hqc : hq ≤ 4096 := by have := HD.out.len; omega
       clear h22 htwo h3q hqr hrs hrs0
       have hna := protect_num a2.text lim
       have html : (L.getD hq za).text.length ≤ 9223372036854775807 := by rw [getD_eq hlq]; have := HD.out.text _ (List.getElem_mem hlq); omega
       obtain ⟨P, hP⟩ : ∃ P, P = protect a2.text lim := ⟨_, rfl⟩
       have hpl := protect_len a2.text lim
       rw [← hP] at HR hpl hna
       have HP := Px.hid hP
       clear hP
       go_upto_region 16 with fail
       obtain ⟨wq, hwq⟩ : ∃ wq : World, wq = (wp.setCell ⟨w.heap.size + 2, 3, none⟩ (S a2.text)).alloc (.cells #[.slice none 0 0, .slice none 0 0] 96) := ⟨_, rfl⟩
       have HQ := Px.hid (show RdS w wq #[.int .i64 5, .int .i64 0, .slice none 0 0, S a2.text, S [], S [], S [], S [], S []] lim ∧ Blk wq wp.heap.size #[.slice none 0 0, .slice none 0 0] 96 from by
        rw [hwq]
        refine ⟨by simpa using (HN.out.put 3 (S a2.text)).alloc _, ?_⟩
        exact (show ∀ (W : World) (k : Nat) (cs : Array Value) (T : TypeId), W.heap.size = k → Blk (W.alloc (.cells cs T (0, 0))) k cs T from fun W k cs T h => by subst h; exact blk_new W cs T) _ _ _ _ (by simp [World.setCell]))
       have hbA : w.heap.size + 3 ≤ wp.heap.size := by have := n2; omega
       obtain ⟨bA, hA⟩ : ∃ bA, bA = wp.heap.size := ⟨_, rfl⟩
       try rw [← hwq]
       rw [← hA] at HQ hbA ⊢
       clear hwq hA HN x0 x1 x2 y0 y1 y2 c0 c1 c2 c3 c4 c5 c6 c7 c8 d0 d1 d2 d3 d4 d5 d6 d7 d8 e0 e1 e2 e3 e4 e5 e6 e7 e8 f0 f1 f2 f3 f4 f5 f6 f7 f8 p0 p1 p2 p3 n0 n1 n2
       obtain ⟨c0, c1, c2, c3, c4, c5, c6, c7, c8, d0, d1, d2, d3, d4, d5, d6, d7, d8⟩ := blk9 (show Blk wq (w.heap.size + 2) #[.int .i64 5, .int .i64 0, .slice none 0 0, S a2.text, S [], S [], S [], S [], S []] 27 from HQ.out.1.x)
       obtain ⟨e0, e1, e2, e3, e4, e5, e6, e7, e8, f0, f1, f2, f3, f4, f5, f6, f7, f8⟩ := blk9 HQ.out.1.res
       obtain ⟨p0, p1, p2, p3⟩ := HQ.out.1.lims
       obtain ⟨n0, n1, n2⟩ := HQ.out.1.lts
       have hq0 : wq.frozen? ⟨bA, 0, none⟩ = false := HQ.out.2.free 0
       have hq1 : wq.frozen? ⟨bA, 1, none⟩ = false := HQ.out.2.free 1
       have hq2 : wq.cell? ⟨bA, 0, none⟩ = some (.slice none 0 0) := HQ.out.2.cell 0 rfl
       have hq3 : wq.cell? ⟨bA, 1, none⟩ = some (.slice none 0 0) := HQ.out.2.cell 1 rfl
       have hbl := HQ.out.2.lt
       go_upto_if 62 with fail
       go_cut [] (fun wx => ∃ (sa sc : Option Addr) (ca cc : Nat), RdS w wx #[.int .i64 5, .int .i64 0, .slice none 0 0, S a2.text, S [], S [], S [], S [], S []] lim ∧ Blk wx bA #[.slice sa P.1.length ca, .slice sc P.1.length cc] 96 ∧ RHf (bA + 1) wx (.slice sa P.1.length ca) (.slice sc P.1.length cc) P.1 ∧ P.2 = 0)
       case first =>
        by_cases hem : a2.text = []
        ·have hz : ¬ (0 : Int) < (a2.text.length : Int) := by rw [hem]; decide
         have hP0 : P = ([], 0) := by rw [HP.out, hem]; rfl
         have HP0 := Px.hid hP0
         clear hem hP0
         go_wp2_with fail
         go_meet
         rw [HP0.out]
         exact ⟨none, none, 0, 0, HQ.out.1, HQ.out.2, ⟨⟨(owns_nil _ 62 _ _).lies cAtom_len, (owns_nil _ 62 _ _).lies cAtom_len⟩, nofun, nofun⟩, rfl⟩
        ·have hz : (0 : Int) < (a2.text.length : Int) := by
          have : a2.text.length ≠ 0 := fun e => hem (List.length_eq_zero_iff.1 e)
          omega
         have HP1 := Px.hid (show P = (if (R7.decode a2.text lim).2.2 ≠ 0 then ([], (R7.decode a2.text lim).2.2)
          else if ((R7.decode a2.text lim).1.getD 0 za).kind ≠ 5 ∨ ((R7.decode a2.text lim).1.getD 0 za).num = 0 then ([], 9)
          else (pairsF (R7.decode a2.text lim).1 ((R7.decode a2.text lim).1.getD 0 za).num 1, 0)) by rw [HP.out]; unfold protect; rw [if_neg hem])
         have HDR := Px.hid (show ∀ W, Calls Tryd.prog 24 #[S a2.text, limV lim] W (Gives W (R7.decode a2.text lim)) from fun W => refdecode_any a2.text lim (by omega) W)
         have HDD := Px.hid (fun h : (R7.decode a2.text lim).2.2 = 0 => (dec_of h).1)
         unfold limV at HDR
         clear hem
         go_wp2_with fail
         refine (HDR.out _).mono ?_
         intro e w3 hg
         obtain ⟨ma, mc, rfl, ho, hs⟩ := hg.len
         have HQ3 := Px.hid (show RdS w w3 #[.int .i64 5, .int .i64 0, .slice none 0 0, S a2.text, S [], S [], S [], S [], S []] lim ∧ Blk w3 bA #[.slice none 0 0, .slice none 0 0] 96 from ⟨HQ.out.1.sm hs, HQ.out.2.fr hs (fun x => x)⟩)
         obtain ⟨d, hd⟩ : ∃ d, d = R7.decode a2.text lim := ⟨_, rfl⟩
         rw [← hd] at HP1 HDD ho ⊢
         have HO := Px.hid ho
         clear hd ho hs hg HDR c0 c1 c2 c3 c4 c5 c6 c7 c8 d0 d1 d2 d3 d4 d5 d6 d7 d8 e0 e1 e2 e3 e4 e5 e6 e7 e8 f0 f1 f2 f3 f4 f5 f6 f7 f8 p0 p1 p2 p3 n0 n1 n2 hq0 hq1 hq2 hq3
         obtain ⟨M, pl, er⟩ := d
         simp only at HP1 HDD HO ⊢
         obtain ⟨c0, c1, c2, c3, c4, c5, c6, c7, c8, d0, d1, d2, d3, d4, d5, d6, d7, d8⟩ := blk9 (show Blk w3 (w.heap.size + 2) #[.int .i64 5, .int .i64 0, .slice none 0 0, S a2.text, S [], S [], S [], S [], S []] 27 from HQ3.out.1.x)
         obtain ⟨e0, e1, e2, e3, e4, e5, e6, e7, e8, f0, f1, f2, f3, f4, f5, f6, f7, f8⟩ := blk9 HQ3.out.1.res
         obtain ⟨p0, p1, p2, p3⟩ := HQ3.out.1.lims
         obtain ⟨n0, n1, n2⟩ := HQ3.out.1.lts
         have hq0 : w3.frozen? ⟨bA, 0, none⟩ = false := HQ3.out.2.free 0
         have hq1 : w3.frozen? ⟨bA, 1, none⟩ = false := HQ3.out.2.free 1
         have hbl := HQ3.out.2.lt
         by_cases he : er = 0
         ·subst he
          have HM := Px.hid (HDD.out rfl)
          have hpm := HM.out.pos
          obtain ⟨mb, mo, mc', hve, _, _⟩ := (HO.out.lies cAtom_len).cell 0 M[0] (by rw [List.getElem?_eq_getElem (by omega)])
          simp only [Value.slice.injEq, true_and] at hve
          obtain ⟨rfl, rfl⟩ := hve
          obtain ⟨x0, x1, _⟩ := lies_atom (HO.out.lies cAtom_len) 0 hpm
          rw [Nat.zero_mul, Nat.add_zero] at x0 x1
          have hg0 : M.getD 0 za = M[0] := getD_eq hpm
          have hnm := HM.out.num hpm
          obtain ⟨m0, hm0⟩ : ∃ m, m = M[0] := ⟨_, rfl⟩
          rw [← hm0] at x0 x1 hg0 hnm
          have hpmz : (0 : Int) < (M.length : Int) := by omega
          have HP2 := Px.hid (show P = if m0.kind ≠ 5 ∨ m0.num = 0 then ([], 9) else (pairsF M m0.num 1, 0) by rw [HP1.out, if_neg (fun e => e rfl), hg0])
          have HG0 := Px.hid hg0
          clear hm0 hg0 HDD HP1
          by_cases hk5 : m0.kind = 5
          ·by_cases hn0 : m0.num = 0
           ·have HE : Hid (R = (zero, 9)) := Px.hid (by
             have hp : P = ([], 9) := by rw [HP2.out, if_pos (.inr hn0)]
             rw [HR.out, hp]
             exact if_pos (show (9 : Int) ≠ 0 by decide))
            rw [hk5] at x0
            rw [hn0] at x1
            clear hk5 hn0
            go_wp2_with fail
            try go_quiet (fail)
            go_wp2
            refine bodyPost_ret (v := .tuple #[.agg #[.int .i64 5, .int .i64 0, .slice none 0 0, S a2.text, S [], S [], S [], S [], S []], .int .i64 9]) (by simp [results, Tryd.results25, go_sem, *]) rfl (givesR_err ⟨5, 0, [], a2.text, [], [], [], [], []⟩ HE.out (by decide) ?_)
            repeat' first
             | refine Fr.setCell ?_ (.inr (by dsimp only; omega)) _
             | refine Fr.alloc ?_ _
             | refine Fr.drewN ?_ _
             | exact HQ3.out.1.same
           ·have hnz : ((m0.num : Int) == 0) = false := by simp; omega
            have hnz2 : ¬ (m0.num : Int) = 0 := by omega
            have HP3 := Px.hid (show P = (pairsF M m0.num 1, 0) by rw [HP2.out, if_neg (by rintro (e | e); exact e hk5; exact hn0 e)])
            obtain ⟨hprs, hml⟩ := map_prs HM.out.at0 (by rw [HG0.out]; exact hk5)
            rw [HG0.out] at hprs hml
            have HPP := Px.hid (show ∀ W, Same w3 W → Calls Tryd.prog 43 #[.slice (some ⟨mb, mo, none⟩) M.length mc, .int .i64 0] W fun e w' => ∃ vl vv, e = .returned (.agg #[vl, vv]) ∧ RHdr w' vl vv (pairsF M m0.num (0 + 1)) ∧ Same W w' ∧ (∀ g, vl.ownBlock = some g → W.heap.size ≤ g) ∧ (∀ g, vv.ownBlock = some g → W.heap.size ≤ g) from fun W hW => rpairs_any _ M 0 m0.num W (Lies.same (HO.out.lies cAtom_len) hW) HM.out.len hpm (by rw [HG0.out]) (by have := HM.out.len; omega) hprs)
            rw [hk5] at x0
            clear hk5 hn0 hprs hml
            go_wp2_with fail
            try go_quiet (fail)
            try go_wp2_with fail
            refine (HPP.out _ (by first | exact Fr.refl _ _ | exact Fr.drewN (Fr.refl _ _) _)).mono ?_
            rintro e w4 ⟨vl, vv, rfl, hrh, hs, hl1, hv1⟩
            have hpl2 : (pairsF M m0.num (0 + 1)).length = P.1.length := by rw [HP3.out]
            obtain ⟨la, lc, va, vc, rfl, rfl⟩ := hrh.lit
            rw [hpl2]
            rw [hpl2] at hrh hl1 hv1
            have HQ4 := Px.hid (show RdS w w4 #[.int .i64 5, .int .i64 0, .slice none 0 0, S a2.text, S [], S [], S [], S [], S []] lim ∧ Blk w4 bA #[.slice none 0 0, .slice none 0 0] 96 ∧ RHf (bA + 1) w4 (.slice la P.1.length lc) (.slice va P.1.length vc) P.1 from ⟨HQ3.out.1.sm hs, HQ3.out.2.fr hs (fun x => x), by
             refine ⟨by rw [HP3.out]; rw [HP3.out] at hrh; exact hrh, fun g e => ?_, fun g e => ?_⟩
             ·have := hl1 g e; first | omega | (simp at this; omega)
             ·have := hv1 g e; first | omega | (simp at this; omega)⟩)
            clear hrh hs hl1 hv1 c0 c1 c2 c3 c4 c5 c6 c7 c8 d0 d1 d2 d3 d4 d5 d6 d7 d8 e0 e1 e2 e3 e4 e5 e6 e7 e8 f0 f1 f2 f3 f4 f5 f6 f7 f8 p0 p1 p2 p3 n0 n1 n2 hq0 hq1 x0 x1
            obtain ⟨c0, c1, c2, c3, c4, c5, c6, c7, c8, d0, d1, d2, d3, d4, d5, d6, d7, d8⟩ := blk9 (show Blk w4 (w.heap.size + 2) #[.int .i64 5, .int .i64 0, .slice none 0 0, S a2.text, S [], S [], S [], S [], S []] 27 from HQ4.out.1.x)
            obtain ⟨e0, e1, e2, e3, e4, e5, e6, e7, e8, f0, f1, f2, f3, f4, f5, f6, f7, f8⟩ := blk9 HQ4.out.1.res
            obtain ⟨p0, p1, p2, p3⟩ := HQ4.out.1.lims
            obtain ⟨n0, n1, n2⟩ := HQ4.out.1.lts
            have hq0 : w4.frozen? ⟨bA, 0, none⟩ = false := HQ4.out.2.1.free 0
            have hq1 : w4.frozen? ⟨bA, 1, none⟩ = false := HQ4.out.2.1.free 1
            have hq2 : w4.cell? ⟨bA, 0, none⟩ = some (.slice none 0 0) := HQ4.out.2.1.cell 0 rfl
            have hq3 : w4.cell? ⟨bA, 1, none⟩ = some (.slice none 0 0) := HQ4.out.2.1.cell 1 rfl
            have hbl := HQ4.out.2.1.lt
            go_wp2_with fail
            go_meet
            have z := ((HQ4.out.2.1.set 0 (.slice la P.1.length lc)).set 1 (.slice va P.1.length vc))
            refine ⟨la, va, lc, vc, (HQ4.out.1.far hbA _).far hbA _, by simpa using z, (HQ4.out.2.2.put (p := ⟨bA, 0, none⟩) (Nat.lt_succ_self _) _).put (p := ⟨bA, 1, none⟩) (Nat.lt_succ_self _) _, by rw [HP3.out]⟩
          ·have HE : Hid (R = (zero, 9)) := Px.hid (by
            have hp : P = ([], 9) := by rw [HP2.out, if_pos (.inl hk5)]
            rw [HR.out, hp]
            exact if_pos (show (9 : Int) ≠ 0 by decide))
           have hkz : (m0.kind != 5) = true := by simpa using hk5
           have hkz2 : ¬ m0.kind = 5 := hk5
           clear hk5
           go_wp2_with fail
           try go_quiet (fail)
           go_wp2
           refine bodyPost_ret (v := .tuple #[.agg #[.int .i64 5, .int .i64 0, .slice none 0 0, S a2.text, S [], S [], S [], S [], S []], .int .i64 9]) (by simp [results, Tryd.results25, go_sem, *]) rfl (givesR_err ⟨5, 0, [], a2.text, [], [], [], [], []⟩ HE.out (by decide) ?_)
           repeat' first
            | refine Fr.setCell ?_ (.inr (by dsimp only; omega)) _
            | refine Fr.alloc ?_ _
            | refine Fr.drewN ?_ _
            | exact HQ3.out.1.same
         ·have hez : ¬ er = 0 := he
          have hez2 : (er != 0) = true := by simpa using he
          have HE : Hid (R = (zero, er)) := Px.hid (by rw [HR.out, HP1.out, if_pos he]; exact if_pos he)
          have HEZ := Px.hid he
          clear he HP1 HDD
          go_wp2_with fail
          try go_quiet (fail)
          go_wp2
          refine bodyPost_ret (v := .tuple #[.agg #[.int .i64 5, .int .i64 0, .slice none 0 0, S a2.text, S [], S [], S [], S [], S []], .int .i64 er]) (by simp [results, Tryd.results25, go_sem, *]) rfl (givesR_err ⟨5, 0, [], a2.text, [], [], [], [], []⟩ HE.out HEZ.out ?_)
          repeat' first
           | refine Fr.setCell ?_ (.inr (by dsimp only; omega)) _
           | refine Fr.alloc ?_ _
           | refine Fr.drewN ?_ _
           | exact HQ3.out.1.same
       case rest =>
        obtain ⟨sa, sc, ca, cc, hRd, hB, hRH, hP0⟩ := hcut
        have HQ := Px.hid (And.intro hRd (And.intro hB hRH))
        replace HR : Hid (R = readB false L P.1) := Px.hid (by rw [HR.out, if_neg (fun e => e hP0)])
        clear hRd hB hRH hP0 c0 c1 c2 c3 c4 c5 c6 c7 c8 d0 d1 d2 d3 d4 d5 d6 d7 d8 e0 e1 e2 e3 e4 e5 e6 e7 e8 f0 f1 f2 f3 f4 f5 f6 f7 f8 p0 p1 p2 p3 n0 n1 n2 hq0 hq1 hq2 hq3 hbl HP
        obtain ⟨ha, pe⟩ := P
        simp only at HQ HR hpl hna
        have HNA := Px.hid hna
        clear hna
        obtain ⟨c0, c1, c2, c3, c4, c5, c6, c7, c8, d0, d1, d2, d3, d4, d5, d6, d7, d8⟩ := blk9 (show Blk wc (w.heap.size + 2) #[.int .i64 5, .int .i64 0, .slice none 0 0, S a2.text, S [], S [], S [], S [], S []] 27 from HQ.out.1.x)
        obtain ⟨e0, e1, e2, e3, e4, e5, e6, e7, e8, f0, f1, f2, f3, f4, f5, f6, f7, f8⟩ := blk9 HQ.out.1.res
        obtain ⟨p0, p1, p2, p3⟩ := HQ.out.1.lims
        obtain ⟨n0, n1, n2⟩ := HQ.out.1.lts
        have hbl := HQ.out.2.1.lt
        obtain ⟨a3, ha3⟩ : ∃ a, a = L.getD 3 za := ⟨_, rfl⟩
        have H3 : Hid (AtomC w xb xo 3 a3) := Px.hid (by rw [ha3]; exact atomC HV.out hl3)
        obtain ⟨x0, x1, x2⟩ := H3.out _ HQ.out.1.same
        rw [show xo + 3 * 3 = xo + 9 from rfl] at x0 x1 x2
        have hl3z : (3 : Int) < (L.length : Int) := by omega
        have HNX := Px.hid (HPL.out.1.nx HD.out.len)
        obtain ⟨tm, htm⟩ : ∃ a, a = L.getD hq za := ⟨_, rfl⟩
        obtain ⟨tn, htn⟩ : ∃ a, a = L.getD (hq + 1) za := ⟨_, rfl⟩
        obtain ⟨lo, hlo⟩ : ∃ lo, lo = Co.part L 3 := ⟨_, rfl⟩
        replace HR : Hid (R = if a3.kind ≠ 5 then (zero, 9) else if tm.kind = 7 ∧ tm.num = 22 then (zero, 11) else if tm.kind ≠ 2 then (zero, 9)
          else if Co.labels ha (pairsF L a3.num 4) ≠ 0 then (zero, Co.labels ha (pairsF L a3.num 4))
          else last false a2.text lo tm.text [] (ha ++ pairsF L a3.num 4)) := Px.hid (by
         rw [HR.out, ha3, htm, hlo, HA.out.2.2, readB_false, HNX.out])
        have HB := Px.hid (And.intro ha3 (And.intro htm (And.intro htn hlo)))
        rw [← htm] at html
        clear ha3 htm htn hlo
        by_cases hk5 : a3.kind = 5
        ·obtain ⟨hprs, hml⟩ := map_prs HPL.out.1 (by rw [← HB.out.1]; exact hk5)
         rw [← HB.out.1] at hprs hml
         have HPP := Px.hid (show ∀ W, Same w W → Calls Tryd.prog 43 #[.slice (some ⟨xb, xo, none⟩) L.length xc, .int .i64 3] W fun e w' => ∃ vl vv, e = .returned (.agg #[vl, vv]) ∧ RHdr w' vl vv (pairsF L a3.num 4) ∧ Same W w' ∧ (∀ g, vl.ownBlock = some g → W.heap.size ≤ g) ∧ (∀ g, vv.ownBlock = some g → W.heap.size ≤ g) from fun W hW => rpairs_any _ L 3 a3.num W (Lies.same HV.out hW) HD.out.len hl3 (by rw [HB.out.1]) (by have := HD.out.len; omega) hprs)
         have HIT := Px.hid (show ∀ W, Same w W → Calls Tryd.prog 44 #[.slice (some ⟨xb, xo, none⟩) L.length xc, .int .i64 3] W fun e w' => e = .returned (.tuple #[S lo, .int .i64 hq]) ∧ Same W w' from fun W hW => by
          rw [HB.out.2.2.2]
          exact ritem_any _ L 3 hq W (Lies.same HV.out hW) HD.out.len HD.out.wf HD.out.bytes (fun a ha => ⟨(HD.out.wf a ha).1, by have := HD.out.text a ha; omega⟩) HPL.out.1)
         have hlb : (pairsF L a3.num 4).length ≤ 4096 := by rw [pairsF_len]; have := HD.out.len; omega
         have hnB := pairsF_num (fun a h => (HD.out.wf a h).1) a3.num 4
         replace HR : Hid (R = if tm.kind = 7 ∧ tm.num = 22 then (zero, 11) else if tm.kind ≠ 2 then (zero, 9)
          else if Co.labels ha (pairsF L a3.num 4) ≠ 0 then (zero, Co.labels ha (pairsF L a3.num 4))
          else last false a2.text lo tm.text [] (ha ++ pairsF L a3.num 4)) := Px.hid (by rw [HR.out, if_neg (fun e => e hk5)])
         obtain ⟨hb, hhb⟩ : ∃ hb, hb = pairsF L a3.num 4 := ⟨_, rfl⟩
         rw [← hhb] at HPP HR hlb hnB
         have HNB := Px.hid hnB
         rw [hk5] at x0
         clear hk5 hprs hml hhb hnB
         go_upto_region 25 with fail
         go_wp2_with fail
         refine (HPP.out _ HQ.out.1.same).mono ?_
         rintro e w4 ⟨vl, vv, rfl, hrh, hs, hl1, hv1⟩
         obtain ⟨sb, cb, sd, cd, rfl, rfl⟩ := hrh.lit
         have HQ4 := Px.hid (And.intro (HQ.out.1.sm hs) (And.intro (HQ.out.2.1.fr hs (fun x => x)) (And.intro (HQ.out.2.2.sm hs) (show RHf (bA + 1) w4 (.slice sb hb.length cb) (.slice sd hb.length cd) hb from ⟨hrh, fun g e => by have := hl1 g e; omega, fun g e => by have := hv1 g e; omega⟩))))
         have hbl4 := HQ4.out.2.1.lt
         clear hrh hs hl1 hv1 x0 x1 x2 c0 c1 c2 c3 c4 c5 c6 c7 c8 d0 d1 d2 d3 d4 d5 d6 d7 d8 e0 e1 e2 e3 e4 e5 e6 e7 e8 f0 f1 f2 f3 f4 f5 f6 f7 f8 p0 p1 p2 p3 n0 n1 n2
         go_wp2_with fail
         refine (HIT.out _ (Fr.alloc HQ4.out.1.same _)).mono ?_
         rintro e w5 ⟨rfl, hs⟩
         have hsz : w4.heap.size < w5.heap.size := by have := hs.size; simp at this; omega
         have HQ5 := Px.hid (And.intro ((HQ4.out.1.alloc _).sm hs) (And.intro (Blk.fr (HQ4.out.2.1.alloc _) hs (fun x => x)) (And.intro ((HQ4.out.2.2.1.sm (Fr.alloc (Fr.refl _ w4) _)).sm hs) (And.intro (Blk.fr (blk_new w4 _ _) hs (fun x => x)) ((HQ4.out.2.2.2.sm (Fr.alloc (Fr.refl _ w4) _)).sm hs)))))
         clear hs
         obtain ⟨c0, c1, c2, c3, c4, c5, c6, c7, c8, d0, d1, d2, d3, d4, d5, d6, d7, d8⟩ := blk9 (show Blk w5 (w.heap.size + 2) #[.int .i64 5, .int .i64 0, .slice none 0 0, S a2.text, S [], S [], S [], S [], S []] 27 from HQ5.out.1.x)
         obtain ⟨e0, e1, e2, e3, e4, e5, e6, e7, e8, f0, f1, f2, f3, f4, f5, f6, f7, f8⟩ := blk9 HQ5.out.1.res
         obtain ⟨p0, p1, p2, p3⟩ := HQ5.out.1.lims
         obtain ⟨n0, n1, n2⟩ := HQ5.out.1.lts
         go_upto_region 28 with fail
         obtain ⟨bB, hbB⟩ : ∃ bB, bB = w4.heap.size := ⟨_, rfl⟩
         obtain ⟨wc, hwc⟩ : ∃ wc : World, wc = w5.setCell ⟨w.heap.size + 2, 4, none⟩ (S lo) := ⟨_, rfl⟩
         have hne : ¬ bA = w.heap.size + 2 := by omega
         have hne2 : ¬ bB = w.heap.size + 2 := by omega
         have hAB : bA < bB := by omega
         have HS := Px.hid (show RdS w wc #[.int .i64 5, .int .i64 0, .slice none 0 0, S a2.text, S lo, S [], S [], S [], S []] lim ∧ Blk wc bA #[.slice sa ha.length ca, .slice sc ha.length cc] 96 ∧ RHf (bA + 1) wc (.slice sa ha.length ca) (.slice sc ha.length cc) ha ∧ Blk wc bB #[.slice sb hb.length cb, .slice sd hb.length cd] 96 ∧ RHf (bA + 1) wc (.slice sb hb.length cb) (.slice sd hb.length cd) hb from by
          rw [hwc]
          rw [hbB] at hne2 ⊢
          obtain ⟨q1, q2, q3, q4, q5⟩ := HQ5.out
          exact ⟨by simpa using q1.put 4 (S lo), q2.other _ hne, q3.put (p := ⟨w.heap.size + 2, 4, none⟩) (by show w.heap.size + 2 < bA + 1; omega) _, q4.other _ hne2, q5.put (p := ⟨w.heap.size + 2, 4, none⟩) (by show w.heap.size + 2 < bA + 1; omega) _⟩)
         try rw [← hwc]
         try rw [← hbB]
         clear hwc hbB HQ4 HQ5 c0 c1 c2 c3 c4 c5 c6 c7 c8 d0 d1 d2 d3 d4 d5 d6 d7 d8 e0 e1 e2 e3 e4 e5 e6 e7 e8 f0 f1 f2 f3 f4 f5 f6 f7 f8 p0 p1 p2 p3 n0 n1 n2 hbl hsz hbl4
         obtain ⟨c0, c1, c2, c3, c4, c5, c6, c7, c8, d0, d1, d2, d3, d4, d5, d6, d7, d8⟩ := blk9 (show Blk wc (w.heap.size + 2) #[.int .i64 5, .int .i64 0, .slice none 0 0, S a2.text, S lo, S [], S [], S [], S []] 27 from HS.out.1.x)
         obtain ⟨e0, e1, e2, e3, e4, e5, e6, e7, e8, f0, f1, f2, f3, f4, f5, f6, f7, f8⟩ := blk9 HS.out.1.res
         obtain ⟨p0, p1, p2, p3⟩ := HS.out.1.lims
         obtain ⟨n0, n1, n2⟩ := HS.out.1.lts
         have HT := Px.hid (show AtomC w xb xo hq tm from by rw [HB.out.2.1]; exact atomC HV.out hlq)
         obtain ⟨x0, x1, x2⟩ := HT.out _ HS.out.1.same
         have hlqz : (hq : Int) < (L.length : Int) := by omega
         by_cases h7 : tm.kind = 7
         ·by_cases h22 : tm.num = 22
          ·have HE : Hid (R = (zero, 11)) := Px.hid (by rw [HR.out, if_pos ⟨h7, h22⟩])
           rw [h7] at x0
           rw [h22] at x1
           clear h7 h22
           go_wp2_with fail
           try go_quiet (fail)
           go_wp2
           refine bodyPost_ret (v := .tuple #[.agg #[.int .i64 5, .int .i64 0, .slice none 0 0, S a2.text, S lo, S [], S [], S [], S []], .int .i64 11]) (by simp [results, Tryd.results25, go_sem, *]) rfl (givesR_err ⟨5, 0, [], a2.text, lo, [], [], [], []⟩ HE.out (by decide) ?_)
           repeat' first
            | refine Fr.setCell ?_ (.inr (by dsimp only; omega)) _
            | refine Fr.alloc ?_ _
            | refine Fr.drewN ?_ _
            | exact HS.out.1.same
          ·have HE : Hid (R = (zero, 9)) := Px.hid (by rw [HR.out, if_neg (fun e => h22 e.2), if_pos (by rw [h7]; decide)])
           have h22z : ((tm.num : Int) == 22) = false := by simp; omega
           have h22z2 : ¬ (tm.num : Int) = 22 := by omega
           rw [h7] at x0
           clear h7 h22
           go_wp2_with fail
           try go_quiet (fail)
           go_wp2
           refine bodyPost_ret (v := .tuple #[.agg #[.int .i64 5, .int .i64 0, .slice none 0 0, S a2.text, S lo, S [], S [], S [], S []], .int .i64 9]) (by simp [results, Tryd.results25, go_sem, *]) rfl (givesR_err ⟨5, 0, [], a2.text, lo, [], [], [], []⟩ HE.out (by decide) ?_)
           repeat' first
            | refine Fr.setCell ?_ (.inr (by dsimp only; omega)) _
            | refine Fr.alloc ?_ _
            | refine Fr.drewN ?_ _
            | exact HS.out.1.same
         ·have h7z : (tm.kind == 7) = false := by simpa using h7
          have h7z2 : ¬ tm.kind = 7 := h7
          replace HR : Hid (R = if tm.kind ≠ 2 then (zero, 9)
           else if Co.labels ha hb ≠ 0 then (zero, Co.labels ha hb)
           else last false a2.text lo tm.text [] (ha ++ hb)) := Px.hid (by rw [HR.out, if_neg (fun e => h7 e.1)])
          clear h7
          by_cases hk2 : tm.kind = 2
          ·rw [hk2] at x0
           replace HR : Hid (R = if Co.labels ha hb ≠ 0 then (zero, Co.labels ha hb) else last false a2.text lo tm.text [] (ha ++ hb)) := Px.hid (by
             rw [HR.out, if_neg (fun e => e hk2)])
           clear hk2
           go_upto_region 35 with fail
           obtain ⟨wl, hwl⟩ : ∃ wl : World, wl = wc.setCell ⟨w.heap.size + 2, 7, none⟩ (S tm.text) := ⟨_, rfl⟩
           have hne : ¬ bA = w.heap.size + 2 := by omega
           have hne2 : ¬ bB = w.heap.size + 2 := by omega
           have hlt2 : w.heap.size + 2 < bA + 1 := by omega
           have HW := Px.hid (show RdS w wl #[.int .i64 5, .int .i64 0, .slice none 0 0, S a2.text, S lo, S [], S [], S tm.text, S []] lim ∧ Blk wl bA #[.slice sa ha.length ca, .slice sc ha.length cc] 96 ∧ RHf (bA + 1) wl (.slice sa ha.length ca) (.slice sc ha.length cc) ha ∧ Blk wl bB #[.slice sb hb.length cb, .slice sd hb.length cd] 96 ∧ RHf (bA + 1) wl (.slice sb hb.length cb) (.slice sd hb.length cd) hb from by
            rw [hwl]
            obtain ⟨q1, q2, q3, q4, q5⟩ := HS.out
            exact ⟨by simpa using q1.put 7 (S tm.text), q2.other _ hne, q3.put (p := ⟨w.heap.size + 2, 7, none⟩) hlt2 _, q4.other _ hne2, q5.put (p := ⟨w.heap.size + 2, 7, none⟩) hlt2 _⟩)
           have HLB := Px.hid (rlabels_any _ _ _ _ ha hb wl HW.out.2.2.1.hdr HW.out.2.2.2.2.hdr hpl hlb)
           try rw [← hwl]
           clear hwl x0 x1 x2 c0 c1 c2 c3 c4 c5 c6 c7 c8 d0 d1 d2 d3 d4 d5 d6 d7 d8 e0 e1 e2 e3 e4 e5 e6 e7 e8 f0 f1 f2 f3 f4 f5 f6 f7 f8 p0 p1 p2 p3 n0 n1 n2 HS
           obtain ⟨c0, c1, c2, c3, c4, c5, c6, c7, c8, d0, d1, d2, d3, d4, d5, d6, d7, d8⟩ := blk9 (show Blk wl (w.heap.size + 2) #[.int .i64 5, .int .i64 0, .slice none 0 0, S a2.text, S lo, S [], S [], S tm.text, S []] 27 from HW.out.1.x)
           obtain ⟨e0, e1, e2, e3, e4, e5, e6, e7, e8, f0, f1, f2, f3, f4, f5, f6, f7, f8⟩ := blk9 HW.out.1.res
           obtain ⟨p0, p1, p2, p3⟩ := HW.out.1.lims
           obtain ⟨n0, n1, n2⟩ := HW.out.1.lts
           have q0 : wl.cell? ⟨bA, 0, none⟩ = some (.slice sa ha.length ca) := HW.out.2.1.cell 0 rfl
           have q1 : wl.cell? ⟨bA, 1, none⟩ = some (.slice sc ha.length cc) := HW.out.2.1.cell 1 rfl
           have q2 : wl.cell? ⟨bB, 0, none⟩ = some (.slice sb hb.length cb) := HW.out.2.2.2.1.cell 0 rfl
           have q3 : wl.cell? ⟨bB, 1, none⟩ = some (.slice sd hb.length cd) := HW.out.2.2.2.1.cell 1 rfl
           go_wp2_with fail
           refine HLB.out.mono ?_
           rintro e w6 ⟨rfl, hs⟩
           have HW6 := Px.hid (show RdS w w6 #[.int .i64 5, .int .i64 0, .slice none 0 0, S a2.text, S lo, S [], S [], S tm.text, S []] lim ∧ Blk w6 bA #[.slice sa ha.length ca, .slice sc ha.length cc] 96 ∧ RHf (bA + 1) w6 (.slice sa ha.length ca) (.slice sc ha.length cc) ha ∧ Blk w6 bB #[.slice sb hb.length cb, .slice sd hb.length cd] 96 ∧ RHf (bA + 1) w6 (.slice sb hb.length cb) (.slice sd hb.length cd) hb from ⟨HW.out.1.sm hs, HW.out.2.1.fr hs (fun x => x), HW.out.2.2.1.sm hs, HW.out.2.2.2.1.fr hs (fun x => x), HW.out.2.2.2.2.sm hs⟩)
           clear hs c0 c1 c2 c3 c4 c5 c6 c7 c8 d0 d1 d2 d3 d4 d5 d6 d7 d8 e0 e1 e2 e3 e4 e5 e6 e7 e8 f0 f1 f2 f3 f4 f5 f6 f7 f8 p0 p1 p2 p3 n0 n1 n2 q0 q1 q2 q3 HLB HW
           obtain ⟨c0, c1, c2, c3, c4, c5, c6, c7, c8, d0, d1, d2, d3, d4, d5, d6, d7, d8⟩ := blk9 (show Blk w6 (w.heap.size + 2) #[.int .i64 5, .int .i64 0, .slice none 0 0, S a2.text, S lo, S [], S [], S tm.text, S []] 27 from HW6.out.1.x)
           obtain ⟨e0, e1, e2, e3, e4, e5, e6, e7, e8, f0, f1, f2, f3, f4, f5, f6, f7, f8⟩ := blk9 HW6.out.1.res
           obtain ⟨p0, p1, p2, p3⟩ := HW6.out.1.lims
           obtain ⟨n0, n1, n2⟩ := HW6.out.1.lts
           have q0 : w6.cell? ⟨bA, 0, none⟩ = some (.slice sa ha.length ca) := HW6.out.2.1.cell 0 rfl
           have q1 : w6.cell? ⟨bA, 1, none⟩ = some (.slice sc ha.length cc) := HW6.out.2.1.cell 1 rfl
           have q2 : w6.cell? ⟨bB, 0, none⟩ = some (.slice sb hb.length cb) := HW6.out.2.2.2.1.cell 0 rfl
           have q3 : w6.cell? ⟨bB, 1, none⟩ = some (.slice sd hb.length cd) := HW6.out.2.2.2.1.cell 1 rfl
           obtain ⟨el, hel⟩ : ∃ el, el = Co.labels ha hb := ⟨_, rfl⟩
           rw [← hel] at HR ⊢
           clear hel
           by_cases he : el = 0
           ·subst he
            replace HR : Hid (R = last false a2.text lo tm.text [] (ha ++ hb)) := Px.hid (by rw [HR.out, if_neg (fun e => e rfl)])
            have HLS := Px.hid (rlast_enc a2.text lo tm.text [] _ _ _ _ ha hb w6 HW6.out.2.2.1.hdr HW6.out.2.2.2.2.hdr (by omega) (by omega) (fun p hp => by
             rcases List.mem_append.1 hp with h | h
             ·exact HNA.out p h
             ·exact HNB.out p h) html)
            rw [← HR.out] at HLS
            go_wp2_with fail
            refine HLS.out.mono ?_
            rintro e w7 ⟨y, va, vn, vc, rfl, hs, hok⟩
            unfold envC
            have HS7 := Px.hid (And.intro hs hok)
            have HR7 := Px.hid (HW6.out.1.sm hs)
            clear hs hok c0 c1 c2 c3 c4 c5 c6 c7 c8 d0 d1 d2 d3 d4 d5 d6 d7 d8 e0 e1 e2 e3 e4 e5 e6 e7 e8 f0 f1 f2 f3 f4 f5 f6 f7 f8 p0 p1 p2 p3 n0 n1 n2 q0 q1 q2 q3 HLS
            obtain ⟨c0, c1, c2, c3, c4, c5, c6, c7, c8, d0, d1, d2, d3, d4, d5, d6, d7, d8⟩ := blk9 (show Blk w7 (w.heap.size + 2) #[.int .i64 5, .int .i64 0, .slice none 0 0, S a2.text, S lo, S [], S [], S tm.text, S []] 27 from HR7.out.x)
            obtain ⟨e0, e1, e2, e3, e4, e5, e6, e7, e8, f0, f1, f2, f3, f4, f5, f6, f7, f8⟩ := blk9 HR7.out.res
            obtain ⟨p0, p1, p2, p3⟩ := HR7.out.lims
            obtain ⟨n0, n1, n2⟩ := HR7.out.lts
            go_wp2
            refine bodyPost_ret (v := .tuple #[.agg (envC y (.slice va vn vc)), .int .i64 R.2]) (by unfold envC; simp [results, Tryd.results25, go_sem, *]) rfl ?_
            have hsr := HR7.out.same
            have hle := HW6.out.1.same.size
            refine ⟨y, va, vn, vc, rfl, ?_, fun h0 => ?_⟩
            ·repeat' first
              | refine Fr.setCell ?_ (.inr (by dsimp only; omega)) _
              | exact hsr
            ·obtain ⟨h1, h2, h3, h4⟩ := HS7.out.2 h0
             refine ⟨h1, ?_, fun g e => Nat.le_trans hle (h3 g e), h4⟩
             have hne : (Value.slice va vn vc).ownBlock ≠ some (w.heap.size + 1) := fun e => by have := h3 _ e; have := HW6.out.1.lts.2.1; omega
             exact ((((((((h2.setCell (p := ⟨w.heap.size + 1, 0, none⟩) hne _).setCell (p := ⟨w.heap.size + 1, 1, none⟩) hne _).setCell (p := ⟨w.heap.size + 1, 2, none⟩) hne _).setCell (p := ⟨w.heap.size + 1, 3, none⟩) hne _).setCell (p := ⟨w.heap.size + 1, 4, none⟩) hne _).setCell (p := ⟨w.heap.size + 1, 5, none⟩) hne _).setCell (p := ⟨w.heap.size + 1, 6, none⟩) hne _).setCell (p := ⟨w.heap.size + 1, 7, none⟩) hne _).setCell (p := ⟨w.heap.size + 1, 8, none⟩) hne _
           ·have hez : ¬ el = 0 := he
            have hez2 : (el != 0) = true := by simpa using he
            have HE : Hid (R = (zero, el)) := Px.hid (by rw [HR.out, if_pos he])
            have HEZ := Px.hid he
            clear he
            go_wp2_with fail
            try go_quiet (fail)
            go_wp2
            refine bodyPost_ret (v := .tuple #[.agg #[.int .i64 5, .int .i64 0, .slice none 0 0, S a2.text, S lo, S [], S [], S tm.text, S []], .int .i64 el]) (by simp [results, Tryd.results25, go_sem, *]) rfl (givesR_err ⟨5, 0, [], a2.text, lo, [], [], tm.text, []⟩ HE.out HEZ.out ?_)
            repeat' first
             | refine Fr.setCell ?_ (.inr (by dsimp only; omega)) _
             | refine Fr.alloc ?_ _
             | refine Fr.drewN ?_ _
             | exact HW6.out.1.same
          ·have HE : Hid (R = (zero, 9)) := Px.hid (by rw [HR.out, if_pos hk2])
           have hkz : (tm.kind != 2) = true := by simpa using hk2
           have hkz2 : ¬ tm.kind = 2 := hk2
           clear hk2
           go_wp2_with fail
           try go_quiet (fail)
           go_wp2
           refine bodyPost_ret (v := .tuple #[.agg #[.int .i64 5, .int .i64 0, .slice none 0 0, S a2.text, S lo, S [], S [], S [], S []], .int .i64 9]) (by simp [results, Tryd.results25, go_sem, *]) rfl (givesR_err ⟨5, 0, [], a2.text, lo, [], [], [], []⟩ HE.out (by decide) ?_)
           repeat' first
            | refine Fr.setCell ?_ (.inr (by dsimp only; omega)) _
            | refine Fr.alloc ?_ _
            | refine Fr.drewN ?_ _
            | exact HS.out.1.same
        ·have HE : Hid (R = (zero, 9)) := Px.hid (by rw [HR.out, if_pos hk5])
         have hkz : (a3.kind != 5) = true := by simpa using hk5
         have hkz2 : ¬ a3.kind = 5 := hk5
         clear hk5 HR
         go_wp2_with fail
         try go_quiet (fail)
         go_wp2
         refine bodyPost_ret (v := .tuple #[.agg #[.int .i64 5, .int .i64 0, .slice none 0 0, S a2.text, S [], S [], S [], S [], S []], .int .i64 9]) (by simp [results, Tryd.results25, go_sem, *]) rfl (givesR_err ⟨5, 0, [], a2.text, [], [], [], [], []⟩ HE.out (by decide) ?_)
         repeat' first
          | refine Fr.setCell ?_ (.inr (by dsimp only; omega)) _
          | refine Fr.alloc ?_ _
          | refine Fr.drewN ?_ _
          | exact HQ.out.1.same
      ·have HE : Hid (R = (zero, 9)) := Px.hid (by rw [HR.out, if_pos h22])
       have hz : (a2.kind != 2) = true := by simpa using h22
       have hz2 : ¬ a2.kind = 2 := h22
       clear h22 HR
       go_wp2_with fail
       try go_quiet (fail)
       go_wp2
       refine bodyPost_ret (v := .tuple #[.agg #[.int .i64 5, .int .i64 0, .slice none 0 0, S [], S [], S [], S [], S [], S []], .int .i64 9]) (by simp [results, Tryd.results25, go_sem, *]) rfl (givesR_err ⟨5, 0, [], [], [], [], [], [], []⟩ HE.out (by decide) ?_)
       repeat' first
        | refine Fr.setCell ?_ (.inr (by dsimp only; omega)) _
        | refine Fr.alloc ?_ _
        | refine Fr.drewN ?_ _
        | exact HN.out.same
     ·have HE : Hid (R = (zero, 9)) := Px.hid (by rw [HR.out, if_pos (.inr h1n)])
      have hz : ((a1.num : Int) != 3) = true := by simp; omega
      have hz2 : ¬ (a1.num : Int) = 3 := by omega
      rw [h14] at x0
      clear h14 h1n HR
      go_wp2_with fail
      try go_quiet (fail)
      go_wp2
      refine bodyPost_ret (v := .tuple #[.agg #[.int .i64 5, .int .i64 0, .slice none 0 0, S [], S [], S [], S [], S [], S []], .int .i64 9]) (by simp [results, Tryd.results25, go_sem, *]) rfl (givesR_err ⟨5, 0, [], [], [], [], [], [], []⟩ HE.out (by decide) ?_)
      repeat' first
       | refine Fr.setCell ?_ (.inr (by dsimp only; omega)) _
       | refine Fr.alloc ?_ _
       | refine Fr.drewN ?_ _
       | exact HN.out.same
    ·have HE : Hid (R = (zero, 9)) := Px.hid (by rw [HR.out, if_pos (.inl h14)])
     have hz : (a1.kind != 4) = true := by simpa using h14
     have hz2 : ¬ a1.kind = 4 := h14
     clear h14 HR
     go_wp2_with fail
     try go_quiet (fail)
     go_wp2
     refine bodyPost_ret (v := .tuple #[.agg #[.int .i64 5, .int .i64 0, .slice none 0 0, S [], S [], S [], S [], S [], S []], .int .i64 9]) (by simp [results, Tryd.results25, go_sem, *]) rfl (givesR_err ⟨5, 0, [], [], [], [], [], [], []⟩ HE.out (by decide) ?_)
     repeat' first
      | refine Fr.setCell ?_ (.inr (by dsimp only; omega)) _
      | refine Fr.alloc ?_ _
      | refine Fr.drewN ?_ _
      | exact HN.out.same
   ·have HE : Hid (R = (zero, 11)) := Px.hid (by rw [HR.out, if_neg (fun e => e hk), if_pos ⟨hnm2, hnm⟩])
    have b16 : ((a0.num : Int) == 16) = false := by simp; omega
    have b17 : ((a0.num : Int) == 17) = false := by simp; omega
    have h16 : ¬ (a0.num : Int) = 16 := by omega
    have h17 : ¬ (a0.num : Int) = 17 := by omega
    clear hnm hnm2 HR
    go_wp2_with fail
    try go_quiet (fail)
    go_wp2
    refine bodyPost_ret (v := .tuple #[.agg #[.int .i64 0, .int .i64 0, .slice none 0 0, S [], S [], S [], S [], S [], S []], .int .i64 11]) (by simp [results, Tryd.results25, go_sem, *]) rfl (givesR_err ⟨0, 0, [], [], [], [], [], [], []⟩ HE.out (by decide) ?_)
    repeat' first
     | refine Fr.setCell ?_ (.inr (by dsimp only; omega)) _
     | refine Fr.alloc ?_ _
     | refine Fr.drewN ?_ _
     | exact HS.out.same
 ·have HE : Hid (R = (zero, 9)) := Px.hid (by rw [HR.out, if_pos hk])
  have hkz : (a0.kind != 6) = true := by simpa using hk
  have hkz2 : ¬ a0.kind = 6 := hk
  clear hk HR
  go_wp2_with fail
  try go_quiet (fail)
  go_wp2
  refine bodyPost_ret (v := .tuple #[.agg #[.int .i64 0, .int .i64 0, .slice none 0 0, S [], S [], S [], S [], S [], S []], .int .i64 9]) (by simp [results, Tryd.results25, go_sem, *]) rfl (givesR_err ⟨0, 0, [], [], [], [], [], [], []⟩ HE.out (by decide) ?_)
  repeat' first
   | refine Fr.setCell ?_ (.inr (by dsimp only; omega)) _
   | refine Fr.alloc ?_ _
   | refine Fr.drewN ?_ _
   | exact HS.out.same
end Go.Proofs.YtddiabaagpmkgaaDoor

/-! The walk over the reference's Read (layer 25). -/
namespace Go.Proofs.YtddiabaagpmkgaaDoor
open Go.RowKit Go.Px Go.Px.E7 Go.Px.Co
set_option maxRecDepth 100000 in
set_option maxHeartbeats 20000000 in
theorem rreadAll_any (s : Bytes) (lim : Lim) (w : World) (hs : s.length ≤ 140737488355327) :
  Calls Tryd.prog 11 #[S s, limV lim] w (GivesE w (Co.read s lim)) := by
 have HDc := Px.hid (show ∀ W, Calls Tryd.prog 24 #[S s, limV lim] W (Gives W (R7.decode s lim)) from fun W => refdecode_any s lim hs W)
 clear hs
 have HR := Px.hid (show Co.read s lim = if (R7.decode s lim).2.2 ≠ 0 then (zero, (R7.decode s lim).2.2) else readL (R7.decode s lim).1 lim from rfl)
 have HDD := Px.hid (fun h : (R7.decode s lim).2.2 = 0 => (dec_of h).1)
 unfold limV at HDc ⊢
 go_enter Tryd.func11, Tryd.ntmps11
 go_wp2_with fail
 refine (HDc.out _).mono ?_
 intro e w1 hg
 obtain ⟨va, vc, rfl, ho, hs⟩ := hg.len
 have b3 : Blk w1 w.heap.size #[.int .i64 lim.d, .int .i64 lim.i, .int .i64 lim.b, .int .i64 lim.r] 23 := Blk.fr (Blk.alloc (blk_new w _ _) _) hs (fun x => x)
 have b4 : Blk w1 (w.heap.size + 1) #[.int .i64 0, .int .i64 0, .slice none 0 0, S [], S [], S [], S [], S [], S []] 27 := by
  have z := blk_new (w.alloc (.cells #[.int .i64 lim.d, .int .i64 lim.i, .int .i64 lim.b, .int .i64 lim.r] 23)) #[.int .i64 0, .int .i64 0, .slice none 0 0, S [], S [], S [], S [], S [], S []] 27
  have e : (w.alloc (.cells #[.int .i64 lim.d, .int .i64 lim.i, .int .i64 lim.b, .int .i64 lim.r] 23)).heap.size = w.heap.size + 1 := by simp
  rw [e] at z
  exact Blk.fr z hs (fun x => x)
 have HS := Px.hid (show Same w w1 from Fr.trans (Fr.alloc (Fr.alloc (Fr.refl _ w) _) _) hs (fun _ _ x => x))
 obtain ⟨d, hd⟩ : ∃ d, d = R7.decode s lim := ⟨_, rfl⟩
 rw [← hd] at HR HDD ho ⊢
 have HO := Px.hid ho
 have HB := Px.hid (And.intro b3 b4)
 have h4l := b4.lt
 have h3l := b3.lt
 obtain ⟨c0, c1, c2, c3, c4, c5, c6, c7, c8, d0, d1, d2, d3, d4, d5, d6, d7, d8⟩ := blk9 b4
 have l0 : w1.cell? ⟨w.heap.size, 0, none⟩ = some (.int .i64 lim.d) := b3.cell 0 rfl
 have l1 : w1.cell? ⟨w.heap.size, 1, none⟩ = some (.int .i64 lim.i) := b3.cell 1 rfl
 have l2 : w1.cell? ⟨w.heap.size, 2, none⟩ = some (.int .i64 lim.b) := b3.cell 2 rfl
 have l3 : w1.cell? ⟨w.heap.size, 3, none⟩ = some (.int .i64 lim.r) := b3.cell 3 rfl
 clear hd hs ho b3 b4 hg HDc
 obtain ⟨L, pl, er⟩ := d
 simp only at HR HDD HO ⊢
 by_cases he : er = 0
 ·subst he
  have HR2 : Hid (Co.read s lim = readL L lim) := Px.hid (by rw [HR.out, if_neg (fun e => e rfl)])
  have hD := HDD.out rfl
  have HC := Px.hid (rread_any (.slice va L.length vc) L lim w1 (HO.out.lies cAtom_len) hD)
  unfold limV at HC
  clear hD HDD HR
  go_wp2_with fail
  refine HC.out.mono ?_
  rintro e w2 ⟨y, ta, tn, tc, rfl, hs2, hok⟩
  obtain ⟨q, hq⟩ : ∃ q, q = readL L lim := ⟨_, rfl⟩
  rw [← hq] at hok HR2 ⊢
  clear hq HC
  have HS2 := Px.hid (HS.out.trans hs2)
  have HB2 := Px.hid (And.intro (HB.out.1.fr hs2 (fun x => x)) (HB.out.2.fr hs2 (fun x => x)))
  have HOK := Px.hid hok
  have hw12 := hs2.size
  clear hok hs2 c0 c1 c2 c3 c4 c5 c6 c7 c8 d0 d1 d2 d3 d4 d5 d6 d7 d8 l0 l1 l2 l3
  obtain ⟨c0, c1, c2, c3, c4, c5, c6, c7, c8, d0, d1, d2, d3, d4, d5, d6, d7, d8⟩ := blk9 HB2.out.2
  have h4l2 := HB2.out.2.lt
  obtain ⟨x, er⟩ := q
  simp only at HOK HR2 ⊢
  rw [show envC y (.slice ta tn tc) = #[.int .i64 y.fmt, .int .i64 y.alg, .slice ta tn tc, S y.header, S y.loose, S y.aad, S y.iv, S y.cipher, S y.tag] from rfl]
  by_cases he : er = 0
  ·subst he
   obtain ⟨hy, hown, hnew, hlen⟩ := HOK.out rfl
   subst hy
   have HX := Px.hid (And.intro hown (And.intro hnew hlen))
   have hwn : w.heap.size + 1 < w1.heap.size := by omega
   clear hown hnew hlen HOK
   go_wp2
   refine bodyPost_ret (v := .tuple #[.agg #[.int .i64 y.fmt, .int .i64 y.alg, .slice ta tn tc, S y.header, S y.loose, S y.aad, S y.iv, S y.cipher, S y.tag], .int .i64 0]) (by simp [results, Tryd.results11, go_sem, *]) rfl ?_
   rw [HR2.out]
   refine ⟨.slice ta tn tc, rfl, ?_, ?_, fun k e => ?_, ta, tc, by rw [HX.out.2.2]⟩
   ·have hne : (Value.slice ta tn tc).ownBlock ≠ some (w.heap.size + 1) := fun e => by have := HX.out.2.1 _ e; omega
    exact Owns.alloc (((((((((HX.out.1.setCell (p := ⟨w.heap.size + 1, 0, none⟩) hne _).setCell (p := ⟨w.heap.size + 1, 1, none⟩) hne _).setCell (p := ⟨w.heap.size + 1, 2, none⟩) hne _).setCell (p := ⟨w.heap.size + 1, 3, none⟩) hne _).setCell (p := ⟨w.heap.size + 1, 4, none⟩) hne _).setCell (p := ⟨w.heap.size + 1, 5, none⟩) hne _).setCell (p := ⟨w.heap.size + 1, 6, none⟩) hne _).setCell (p := ⟨w.heap.size + 1, 7, none⟩) hne _).setCell (p := ⟨w.heap.size + 1, 8, none⟩) hne _) _
   ·refine Fr.alloc ?_ _
    repeat' first
     | refine Fr.setCell ?_ (.inr (by dsimp only; omega)) _
     | exact HS2.out
   ·have := HX.out.2.1 k e
    have := HS.out.size
    omega
  ·have hez : ¬ er = 0 := he
   have HZ : Hid (Co.read s lim = (zero, er)) := Px.hid (by
    have z := read_err s lim (by rw [HR2.out]; exact he)
    rw [HR2.out] at z ⊢
    exact z)
   clear HOK he
   go_wp2
   refine bodyPost_ret (v := .tuple #[.agg #[.int .i64 0, .int .i64 0, .slice none 0 0, S [], S [], S [], S [], S [], S []], .int .i64 er]) (by simp [results, Tryd.results11, go_sem, *]) rfl (gives_zero HZ.out ?_)
   refine Fr.alloc ?_ _
   repeat' first
    | refine Fr.setCell ?_ (.inr (by dsimp only; omega)) _
    | exact HS2.out
 ·have hez : ¬ er = 0 := he
  have HR2 : Hid (Co.read s lim = (zero, er)) := Px.hid (by rw [HR.out, if_pos he])
  clear HR HDD
  go_wp2
  refine bodyPost_ret (v := .tuple #[.agg #[.int .i64 0, .int .i64 0, .slice none 0 0, S [], S [], S [], S [], S [], S []], .int .i64 er]) (by simp [results, Tryd.results11, go_sem, *]) rfl (gives_zero HR2.out ?_)
  repeat' first
   | refine Fr.setCell ?_ (.inr (by dsimp only; omega)) _
   | exact HS.out
end Go.Proofs.YtddiabaagpmkgaaDoor
