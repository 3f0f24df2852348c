/-
 Several texts in one: The walk over the reference's right (layer 17). The walk over the reference's Behind (layer 17). The walk over the reference's told (layer 17). The walk over the reference's Encode (layer 17). The walks over the statements' copied and the reference's Same, of lists that lie anywhere (layer 17).
-/
import Derived.Test.YtddiabaagpmkgaaDoorCX
import Derived.Deep.DeepCutAuto
import Derived.Test.YtddiabaagpmkgaaDoorGcB
import Derived.Deep.RegionWith
import Derived.Deep.CutBlock
import Derived.Test.YtddiabaagpmkgaaDoorAq
/-! The walk over the reference's right (layer 17). -/
namespace Go.Proofs.YtddiabaagpmkgaaDoor
open Go.RowKit Go.Px Go.Px.R7

set_option maxRecDepth 100000 in
set_option maxHeartbeats 2000000 in
theorem rright_any (a : Atom) (w : World) (hl : a.text.length ≤ maxLen) :
  Calls Tryd.prog 83 #[atomV a] w fun e w' => e = .returned (.bool (E7.right a)) ∧ Same w w' := by
 obtain ⟨k, n, t⟩ := a
 unfold atomV
 have HT := Px.hid hl
 clear hl
 by_cases h2 : k = 2
 ·subst h2
  rw [← right_of 2 n t (n == 0) rfl w]
  by_cases h0 : n = 0
  ·subst h0
   go_enter Tryd.func83, Tryd.ntmps83
   go_wp2
   go_ret
   exact ⟨rfl, (Fr.refl _ w).alloc _⟩
  ·have hb : ((n : Int) == 0) = false := by simpa using h0
   have hb2 : (n == 0) = false := by simpa using h0
   have H := Px.hid hb2
   clear h0 hb2
   go_enter Tryd.func83, Tryd.ntmps83
   go_wp2
   go_ret
   rw [H.out]
   exact ⟨rfl, (Fr.refl _ w).alloc _⟩
 ·by_cases h3 : k = 3
  ·subst h3
   rw [← right_of 3 n t (n == 0 && Lib.validD t) rfl w]
   by_cases h0 : n = 0
   ·subst h0
    go_enter Tryd.func83, Tryd.ntmps83
    go_wp2_with fail
    refine (text_any t _ HT.out).mono ?_
    rintro e w1 ⟨rfl, hb⟩
    have HB := Px.hid (show Same w w1 from Same.trans ((Fr.refl _ w).alloc _) hb)
    clear hb
    go_wp2
    go_ret
    exact ⟨rfl, HB.out⟩
   ·have hb : ((n : Int) == 0) = false := by simpa using h0
    have hb2 : (n == 0) = false := by simpa using h0
    have H := Px.hid hb2
    clear h0 hb2
    go_enter Tryd.func83, Tryd.ntmps83
    go_wp2
    go_ret
    rw [H.out]
    exact ⟨rfl, (Fr.refl _ w).alloc _⟩
  ·by_cases h7 : k = 7
   ·subst h7
    rw [← right_of 7 n t (t.isEmpty && (decide (20 ≤ n) && decide (n ≤ 23))) rfl w]
    rcases strEmpty t with ⟨he, rfl⟩ | ⟨he, hne⟩
    ·have hc : n < 20 ∨ (20 ≤ n ∧ n ≤ 23) ∨ 23 < n := by omega
     rcases hc with hc | hc | hc
     ·rw [show (([] : Bytes).isEmpty && (decide (20 ≤ n) && decide (n ≤ 23))) = false by simp; omega]
      go_enter Tryd.func83, Tryd.ntmps83
      go_wp2
      go_ret
      exact ⟨rfl, (Fr.refl _ w).alloc _⟩
     ·rw [show (([] : Bytes).isEmpty && (decide (20 ≤ n) && decide (n ≤ 23))) = true by simp; omega]
      obtain ⟨c1, c2⟩ := hc
      have hd : decide ((n : Int) ≤ 23) = true := decide_eq_true (by omega)
      go_enter Tryd.func83, Tryd.ntmps83
      go_wp2
      go_ret
      exact ⟨rfl, (Fr.refl _ w).alloc _⟩
     ·rw [show (([] : Bytes).isEmpty && (decide (20 ≤ n) && decide (n ≤ 23))) = false by simp; omega]
      have hd : decide ((n : Int) ≤ 23) = false := decide_eq_false (by omega)
      go_enter Tryd.func83, Tryd.ntmps83
      go_wp2
      go_ret
      exact ⟨rfl, (Fr.refl _ w).alloc _⟩
    ·have H := Px.hid he
     clear he
     go_enter Tryd.func83, Tryd.ntmps83
     go_wp2
     go_ret
     rw [H.out]
     exact ⟨rfl, (Fr.refl _ w).alloc _⟩
   ·by_cases h5 : k = 0 ∨ k = 1 ∨ k = 4 ∨ k = 5 ∨ k = 6
    ·rw [← right_of k n t t.isEmpty (by rcases h5 with rfl | rfl | rfl | rfl | rfl <;> rfl) w]
     rcases strEmpty t with ⟨he, rfl⟩ | ⟨he, hne⟩
     ·rcases h5 with rfl | rfl | rfl | rfl | rfl
      all_goals
       go_enter Tryd.func83, Tryd.ntmps83
       go_wp2
       go_ret
       exact ⟨rfl, (Fr.refl _ w).alloc _⟩
     ·rcases h5 with rfl | rfl | rfl | rfl | rfl
      all_goals
       go_enter Tryd.func83, Tryd.ntmps83
       go_wp2
       go_ret
       exact ⟨rfl, (Fr.refl _ w).alloc _⟩
    ·have hr : E7.right ⟨k, n, t⟩ = false := by
      unfold E7.right
      simp only [not_or] at h5
      have e : ∀ m : Int, ¬ k = m → (k == m) = false := fun m h => by simpa using h
      simp only [e 2 h2, e 3 h3, e 7 h7, e 0 h5.1, e 1 h5.2.1, e 4 h5.2.2.1, e 5 h5.2.2.2.1, e 6 h5.2.2.2.2]
      rfl
     rw [← right_of k n t false hr w]
     simp only [not_or] at h5
     have e : ∀ m : Int, ¬ k = m → (k == m) = false := fun m h => by simpa using h
     have b2 := e 2 h2
     have b3 := e 3 h3
     have b7 := e 7 h7
     have b0 := e 0 h5.1
     have b1 := e 1 h5.2.1
     have b4 := e 4 h5.2.2.1
     have b5 := e 5 h5.2.2.2.1
     have b6 := e 6 h5.2.2.2.2
     clear e h2 h3 h7 h5 hr
     go_enter Tryd.func83, Tryd.ntmps83
     go_wp2
     go_ret
     exact ⟨rfl, (Fr.refl _ w).alloc _⟩
end Go.Proofs.YtddiabaagpmkgaaDoor

/-! The walk over the reference's Behind (layer 17). -/
namespace Go.Proofs.YtddiabaagpmkgaaDoor
open Go.RowKit Go.Px Go.Px.R7

def cInt (n : Nat) : List Value := [.int .i64 (n : Nat)]
theorem cInt_len (n : Nat) : (cInt n).length = 1 := rfl
theorem Tryd.infoInt : (Tryd.prog.info? 3).map (fun i => (i.zero, i.size, i.bytes)) = some (some (.int .i64 0), 1, 8) := by kernel_rfl
/-- A list of numbers of the call's own, the last one first. -/
structure NumsI (w wr : World) (v : Value) (left : List Nat) : Prop where
 own : Owns wr 3 1 cInt v left.reverse
 same : Same w wr
 new : ∀ g, v.ownBlock = some g → w.heap.size ≤ g
theorem NumsI.sm {w wr w2 : World} {v : Value} {left : List Nat} (h : NumsI w wr v left) (hs : Same wr w2) : NumsI w w2 v left := ⟨Owns.same h.own hs, h.same.trans hs, h.new⟩
theorem NumsI.top {w wr : World} {v : Value} {c : Nat} {rest : List Nat} (h : NumsI w wr v (c :: rest)) : ∃ g cap, v = .slice (some ⟨g, 0, none⟩) (rest.length + 1) cap ∧ rest.length + 1 ≤ cap ∧ cap ≤ maxLen ∧ wr.cell? ⟨g, rest.length, none⟩ = some (.int .i64 (c : Nat)) ∧ wr.frozen? ⟨g, rest.length, none⟩ = false ∧ g < wr.heap.size := by
 have h' := h.own
 rw [List.reverse_cons] at h'
 obtain ⟨g, cap, h1, h2, h3, h4, h5⟩ := h'.last cInt_len
 rw [List.length_reverse] at h1 h2 h4
 have := h4 0 _ rfl
 rw [Nat.add_zero, Nat.mul_one] at this
 exact ⟨g, cap, h1, h2, h3, this, h5 _, h'.lt (by rw [h1]; rfl)⟩
theorem NumsI.set {w wr : World} {c : Nat} {rest : List Nat} {g cap : Nat} (h : NumsI w wr (.slice (some ⟨g, 0, none⟩) (rest.length + 1) cap) (c :: rest)) (n : Nat) :
  NumsI w (wr.setCell ⟨g, rest.length, none⟩ (.int .i64 (n : Nat))) (.slice (some ⟨g, 0, none⟩) (rest.length + 1) cap) (n :: rest) := by
 have h' := h.own
 rw [List.reverse_cons, ← @List.length_reverse _ rest] at h'
 have k := h'.setLast (b := n) cInt_len 0 (.int .i64 (n : Nat)) rfl
 rw [List.length_reverse, Nat.mul_one, Nat.add_zero] at k
 refine ⟨by rw [List.reverse_cons]; exact k, h.same.setCell (p := ⟨g, rest.length, none⟩) (.inr (h.new g rfl)) _, h.new⟩

theorem NumsI.pop {w wr : World} {c : Nat} {rest : List Nat} {g cap : Nat} (h : NumsI w wr (.slice (some ⟨g, 0, none⟩) (rest.length + 1) cap) (c :: rest)) : NumsI w wr (.slice (some ⟨g, 0, none⟩) rest.length cap) rest := by
 have h' := h.own
 rw [List.reverse_cons, ← @List.length_reverse _ rest] at h'
 have k := h'.pop cInt_len
 rw [List.length_reverse] at k
 exact ⟨k, h.same, h.new⟩
theorem NumsI.len {w wr : World} {v : Value} {left : List Nat} (h : NumsI w wr v left) : ∃ a cap, v = .slice a left.length cap := by
 obtain ⟨a, cap, h1, _⟩ := h.own.len
 rw [List.length_reverse] at h1
 exact ⟨a, cap, h1⟩
theorem NumsI.push {w wr w1 : World} {v : Value} {left : List Nat} {n g cap : Nat} (h : NumsI w wr v left)
  (hown : w1.ownsRow 0 3 1 (.slice (some ⟨g, 0, none⟩) (left.length + 1) cap) (left.length + 1) (left.reverse.flatMap cInt ++ cInt n)) (hg : wr.grownBy w1 v.ownBlock) (hat : v.ownBlock = some g ∨ wr.heap.size ≤ g) :
  NumsI w w1 (.slice (some ⟨g, 0, none⟩) (left.length + 1) cap) (n :: left) := by
 have hrl : left.reverse.length = left.length := List.length_reverse
 have k := owns_append (l := left.reverse) (c := cInt) (a := n) (w := w1) (T := 3) (sz := 1) (g := g) (cap := cap) (by rw [hrl]; exact hown)
 rw [hrl] at k
 refine ⟨by rw [List.reverse_cons]; exact k, Fr.grown h.same hg (fun k e => .inr (h.new k e)), fun g' hg' => ?_⟩
 simp only [Value.ownBlock, Option.some.injEq] at hg'
 subst hg'
 rcases hat with e | e
 ·exact h.new _ e
 ·exact Nat.le_trans h.same.size e

/-- What Behind tells. -/
def behV (r : Option Nat × Nat) : Value := .tuple #[.int .i64 (match r.1 with | none => -1 | some e => (e : Int)), .int .i64 (r.2 : Nat)]
/-- What holds at the head of Behind's loop. -/
structure Beh (w wr : World) (v : Value) (l : List Atom) (p k most : Nat) (left : List Nat) : Prop where
 nums : NumsI w wr v left
 eq : E7.behind (l.drop p) [] 0 p = E7.behind (l.drop k) left most k
 len : left.length ≤ k
 mlen : left.length ≤ most
 most : most ≤ k
 small : ∀ c ∈ left, c ≤ 10000
 top : left = [] ∨ ∃ n r, left = (n + 1) :: r
theorem leaf_or (a : Atom) : (E7.leaf a = true ∧ (a.kind < 4 ∨ 6 < a.kind)) ∨ (E7.leaf a = false ∧ (a.kind = 4 ∨ a.kind = 5 ∨ a.kind = 6)) := by
 by_cases h : a.kind = 4 ∨ a.kind = 5 ∨ a.kind = 6
 ·exact .inr ⟨by unfold E7.leaf; rcases h with e | e | e <;> (rw [e]; rfl), h⟩
 ·refine .inl ⟨?_, by omega⟩
  simp only [not_or] at h
  unfold E7.leaf
  have e : ∀ m : Int, ¬ a.kind = m → (a.kind == m) = false := fun m h => by simpa using h
  rw [e 4 h.1, e 5 h.2.1, e 6 h.2.2]
  rfl
/-- Behind an item: the numbers. -/
def left2 (a : Atom) (left : List Nat) : List Nat := if E7.leaf a then E7.dec left else E7.count a :: E7.dec left
theorem behind_big {l : List Atom} {k most : Nat} {left : List Nat} (hk : k < l.length) (h4 : l[k].kind = 4 ∨ l[k].kind = 5) (hb : 5000 < l[k].num) : E7.behind (l.drop k) left most k = (none, most) := by
 rw [List.drop_eq_getElem_cons hk, E7.behind, if_pos]
 rcases h4 with e | e <;> simp [e, hb]
theorem behind_step {l : List Atom} {k most : Nat} {left : List Nat} (hk : k < l.length) (hs : ¬ ((l[k].kind = 4 ∨ l[k].kind = 5) ∧ 5000 < l[k].num)) : E7.behind (l.drop k) left most k =
  if (E7.pops (left2 l[k] left)).isEmpty then (some (k + 1), max most (left2 l[k] left).length) else E7.behind (l.drop (k + 1)) (E7.pops (left2 l[k] left)) (max most (left2 l[k] left).length) (k + 1) := by
 rw [List.drop_eq_getElem_cons hk, E7.behind, if_neg ?_]
 ·rfl
 ·simp only [Bool.and_eq_true, Bool.or_eq_true, beq_iff_eq, decide_eq_true_eq]
  exact hs
set_option maxRecDepth 100000 in
set_option maxHeartbeats 8000000 in
theorem behind_at (v : Value) (l : List Atom) (p : Nat) (w : World) (h : Lies w 3 cAtom v l) (hl : l.length ≤ 4096) (hp : p ≤ l.length) :
  Calls Tryd.prog 63 #[v, .int .i64 (p : Nat)] w fun e w' => e = .returned (behV (E7.behind (l.drop p) [] 0 p)) ∧ Same w w' := by
 obtain ⟨va, vc, hv, hv1, hv2⟩ := h.slice
 subst hv
 have H := Px.hid h
 clear h hv2
 obtain ⟨i0, hi0, hz0, hz1, hz2⟩ := info_parts Tryd.infoInt
 go_enter Tryd.func63, Tryd.ntmps63
 go_wp2
 go_loopg [6, 7, 8] (l.length + 1 - p) (fun gk v6 t7 i wr => ∃ (k most : Nat) (left : List Nat), gk + k = l.length + 1 ∧ k ≤ l.length ∧ i = .int .i64 (k : Nat) ∧ t7 = .int .i64 (most : Nat) ∧ Hid (Beh w wr v6 l p k most left))
 case atStart => exact ⟨p, 0, [], by omega, hp, rfl, rfl, Px.hid ⟨⟨owns_nil _ _ _ _, Same.refl w, nofun⟩, rfl, Nat.zero_le _, Nat.le_refl _, Nat.zero_le _, nofun, .inl rfl⟩⟩
 case round =>
  obtain ⟨k, most, left, hgk, hk, rfl, rfl, HS⟩ := hrel
  have HG := Px.hid hgk
  clear hgk
  by_cases hlt : k < l.length
  ·have hlz : (k : Int) < (l.length : Int) := by omega
   obtain ⟨g', rfl⟩ : ∃ g', gk = g' + 1 := ⟨gk - 1, by have := HG.out; omega⟩
   obtain ⟨xb, xo, xc, hve, hxb, hcx⟩ := H.out.cell k l[k] (by simp [hlt])
   simp only [Value.slice.injEq, true_and] at hve
   obtain ⟨rfl, rfl⟩ := hve
   have hx0 := hcx 0 _ rfl
   have hx1 := hcx 1 _ rfl
   rw [← Nat.add_assoc] at hx0 hx1
   rw [Nat.add_zero] at hx0
   obtain ⟨x, hx⟩ : ∃ x, x = l[k] := ⟨_, rfl⟩
   rw [← hx] at hx0 hx1
   have HX := Px.hid (And.intro hx (show ∀ W, Same w W → W.cell? ⟨xb, xo + k * 3, none⟩ = some (.int .i64 x.kind) ∧ W.cell? ⟨xb, xo + k * 3 + 1, none⟩ = some (.int .u64 (x.num : Nat)) from fun W hW => ⟨(hW.cell (p := ⟨xb, xo + k * 3, none⟩) hxb (fun x => x)).trans hx0, (hW.cell (p := ⟨xb, xo + k * 3 + 1, none⟩) hxb (fun x => x)).trans hx1⟩))
   clear hcx hx hx0 hx1
   obtain ⟨L, hL⟩ : ∃ L, L = E7.dec left := ⟨_, rfl⟩
   have HL := Px.hid hL
   clear hL
   obtain ⟨la, lc, hv0⟩ := HS.out.nums.len
   obtain ⟨ll, hll⟩ : ∃ ll, ll = left.length := ⟨_, rfl⟩
   rw [← hll] at hv0
   subst hv0
   have HLN := Px.hid hll
   have hllk : ll ≤ k := by rw [hll]; exact HS.out.len
   clear hll
   go_upto_if 19 with fail
   go_cut [] (fun wx => NumsI w wx (.slice la ll lc) L)
   case first =>
    rcases HS.out.top with e1 | ⟨n, rest, e1⟩
    ·have HLL := Px.hid (show L = [] by rw [HL.out, e1]; rfl)
     have hl0 : ll = 0 := by rw [HLN.out, e1]; rfl
     subst hl0
     have HSN := HS.out.nums
     rw [e1] at HSN
     have HS2 := Px.hid HSN
     clear e1 HSN
     go_wp2_with fail
     go_meet
     rw [HLL.out]
     exact HS2.out
    ·obtain ⟨c, hc⟩ : ∃ c, c = n + 1 := ⟨_, rfl⟩
     rw [← hc] at e1
     have hcc : ((c - 1 : Nat) : Int) = (c : Int) - 1 := by omega
     have hcb : c ≤ 10000 := HS.out.small c (by rw [e1]; simp)
     have hc1 : 1 ≤ c := by omega
     have hnums := HS.out.nums
     rw [e1] at hnums
     have hrl : rest.length = ll - 1 ∧ rest.length + 1 = ll := by rw [HLN.out, e1]; exact ⟨rfl, rfl⟩
     have hl0 : 0 < ll := by omega
     obtain ⟨g, gc, hv4, hgc1, hgc2, hcell, hfz, hgl⟩ := hnums.top
     have hset := hnums
     rw [hv4] at hset
     have hset := hset.set (c - 1)
     rw [hcc, hrl.2, hrl.1] at hset
     rw [hrl.1] at hcell hfz
     simp only [Value.slice.injEq] at hv4
     have hv5 := hv4.1
     have hv6 := hv4.2.2
     clear hv4
     subst hv5
     subst hv6
     unfold maxLen at hgc2
     have HS2 := Px.hid hset
     have HLL := Px.hid (show L = (c - 1) :: rest by rw [HL.out, e1]; rfl)
     clear hset hnums hrl e1 hc hcc hgc1
     go_wp2_with fail
     go_meet
     rw [HLL.out]
     exact HS2.out
   case rest =>
    have hLen : ll = L.length := by rw [HLN.out, HL.out, E7.dec_len]
    rw [hLen] at hcut ⊢
    have HN := Px.hid hcut
    clear hcut hLen
    obtain ⟨x0, x1⟩ := HX.out.2 wc HN.out.same
    have hLl : L.length ≤ k ∧ L.length ≤ most ∧ most ≤ k := by rw [HL.out, E7.dec_len]; exact ⟨HS.out.len, HS.out.mlen, HS.out.most⟩
    obtain ⟨hL1, hL2, hL3⟩ := hLl
    have hLs : ∀ c ∈ L, c ≤ 10000 := by
     rw [HL.out]
     intro c hc
     have hsm := HS.out.small
     cases hlf : left with
     | nil => rw [hlf] at hc; cases hc
     | cons a t =>
      rw [hlf] at hc hsm
      rcases List.mem_cons.1 hc with rfl | hc
      ·exact Nat.le_trans (Nat.sub_le _ _) (hsm a (by simp))
      ·exact hsm c (by simp [hc])
    have HLs := Px.hid hLs
    clear hLs
    by_cases hbig : (x.kind = 4 ∨ x.kind = 5) ∧ 5000 < x.num
    ·have HR := Px.hid (show E7.behind (l.drop p) [] 0 p = (none, most) by rw [HS.out.eq]; have h1 := HX.out.1; exact behind_big hlt (by rw [← h1]; exact hbig.1) (by rw [← h1]; exact hbig.2))
     obtain ⟨hk45, hnum⟩ := hbig
     have hnz : (5000 : Int) < (x.num : Int) := by omega
     have hk6 : x.kind < 6 := by omega
     have hk4 : 4 ≤ x.kind := by omega
     have hk66 : x.kind ≤ 6 := by omega
     clear hk45 hnum
     go_wp2
     go_ret2
     rw [HR.out]
     exact ⟨rfl, HN.out.same⟩
    ·have HSB := Px.hid (show E7.behind (l.drop p) [] 0 p = if (E7.pops (left2 x left)).isEmpty then (some (k + 1), max most (left2 x left).length) else E7.behind (l.drop (k + 1)) (E7.pops (left2 x left)) (max most (left2 x left).length) (k + 1) by
      have h1 := HX.out.1
      rw [HS.out.eq, h1]
      exact behind_step hlt (by rw [← h1]; exact hbig))
     have HLO := Px.hid (leaf_or x)
     obtain ⟨B, hB⟩ : ∃ B, B = !E7.leaf x := ⟨_, rfl⟩
     have HB := Px.hid hB
     have HBIG := Px.hid hbig
     clear hB hbig
     go_upto_region 8 with fail
     go_cut [45] (fun t45 wx => t45 = .bool B ∧ wx = wc)
     case first =>
      rcases HLO.out with ⟨e1, e2 | e2⟩ | ⟨e1, e2⟩
      ·have HBe := Px.hid (show B = false by rw [HB.out, e1]; rfl)
       clear e1
       go_wp2_with fail
       go_meet
       rw [HBe.out]
       exact ⟨rfl, rfl⟩
      ·have HBe := Px.hid (show B = false by rw [HB.out, e1]; rfl)
       have e3 : ¬ x.kind ≤ 6 := by omega
       have e4 : 4 ≤ x.kind := by omega
       clear e1
       go_wp2_with fail
       go_meet
       rw [HBe.out]
       exact ⟨rfl, rfl⟩
      ·have HBe := Px.hid (show B = true by rw [HB.out, e1]; rfl)
       have e3 : x.kind ≤ 6 := by omega
       have e4 : 4 ≤ x.kind := by omega
       clear e1 e2
       go_wp2_with fail
       go_meet
       rw [HBe.out]
       exact ⟨rfl, rfl⟩
     case rest =>
      obtain ⟨rfl, hwc⟩ := hcut
      subst hwc
      obtain ⟨LL, hLL⟩ : ∃ LL, LL = left2 x left := ⟨_, rfl⟩
      have HLL := Px.hid hLL
      clear hLL
      go_upto_if 45 with fail
      go_cut [6] (fun t6 wx => NumsI w wx t6 LL)
      case first =>
       cases B
       ·have HE := Px.hid (show LL = L by rw [HLL.out, HL.out]; unfold left2; rw [show E7.leaf x = true by have := HB.out; simpa using this.symm]; rfl)
        go_wp2_with fail
        go_meet
        rw [HE.out]
        exact HN.out
       ·have HE := Px.hid (show LL = E7.count x :: L by rw [HLL.out, HL.out]; unfold left2; rw [show E7.leaf x = false by have := HB.out; simpa using this.symm]; rfl)
        obtain ⟨RL, hRL⟩ : ∃ RL, RL = (L : List Nat).reverse.flatMap cInt := ⟨_, rfl⟩
        have hown : ∀ W, Same wc W → W.ownsRow 0 3 1 (.slice la L.length lc) L.length RL := fun W hW => by
         have := (HN.out.sm hW).own
         unfold Owns at this
         rw [List.length_reverse] at this
         rw [hRL]
         exact this
        have HO := Px.hid hown
        have HRL := Px.hid hRL
        clear hown hRL
        rcases HLO.out with ⟨e1, _⟩ | ⟨_, e4 | e5 | e6⟩
        ·exfalso; have := HB.out; rw [e1] at this; cases this
        ·have hnb : x.num ≤ 5000 := by have := HBIG.out; omega
         have hnz : ¬ (5000 : Int) < (x.num : Int) := by omega
         have HCN := Px.hid (show E7.count x = x.num by unfold E7.count; rw [e4]; first | rfl | exact Nat.mul_comm _ _)
         rw [e4] at x0
         clear hnb
         have hnb : (x.num : Int) ≤ 5000 := by omega
         go_upto_region 13 with fail
         go_quiet (fail)
         have HOQ := Px.hid (HO.out (wc.drewN nq) ((Same.refl wc).drewN nq))
         go_wp2_with (at_builtin; go_must (refine wpList_append_lies _ rfl _ _ _ rfl 0 3 i0 _ 1 8 Tryd.underlying151 hi0 hz0 hz1 hz2 rfl (by omega) (.slice la L.length lc) L.length RL rfl (World.ownsRow.alloc HOQ.out _) ⟨wc.heap.size, 0, none⟩ 1 1 [.int .i64 ((x.num : Int))] rfl rfl (World.news_of_block (cs := #[.int .i64 ((x.num : Int))]) (t := 3) (fr := (0, 0)) (heap_alloc_new (wc.drewN nq) _)) (by simp [Value.oneCell']) (by omega) (by unfold maxLen; omega) (by omega) (by omega) (wc.heap.size + 1) (by simp) ?_))
         intro gg cap WY hown1 hgrow hat hlt1
         rw [HRL.out] at hown1
         have HP := Px.hid (show NumsI w WY (.slice (some ⟨gg, 0, none⟩) (L.length + 1) cap) (E7.count x :: L) from by
          rw [HCN.out]
          exact NumsI.push (HN.out.sm ((Same.refl wc).drewN nq)) hown1 (grown_alloc1 (w := (wc.drewN nq)) hgrow) (hat.imp id (fun e => (show wc.heap.size ≤ gg by omega))))
         clear hown1 hgrow hat
         go_wp2_with fail
         go_meet
         rw [HE.out]
         exact HP.out
        ·have hnb : x.num ≤ 5000 := by have := HBIG.out; omega
         have hnz : ¬ (5000 : Int) < (x.num : Int) := by omega
         have HCN := Px.hid (show E7.count x = x.num * 2 by unfold E7.count; rw [e5]; first | rfl | exact Nat.mul_comm _ _)
         rw [e5] at x0
         clear hnb
         have hnb : (x.num : Int) ≤ 5000 := by omega
         go_upto_region 13 with fail
         go_quiet (fail)
         have HOQ := Px.hid (HO.out (wc.drewN nq) ((Same.refl wc).drewN nq))
         go_wp2_with (at_builtin; go_must (refine wpList_append_lies _ rfl _ _ _ rfl 0 3 i0 _ 1 8 Tryd.underlying151 hi0 hz0 hz1 hz2 rfl (by omega) (.slice la L.length lc) L.length RL rfl (World.ownsRow.alloc HOQ.out _) ⟨wc.heap.size, 0, none⟩ 1 1 [.int .i64 ((x.num : Int) * 2)] rfl rfl (World.news_of_block (cs := #[.int .i64 ((x.num : Int) * 2)]) (t := 3) (fr := (0, 0)) (heap_alloc_new (wc.drewN nq) _)) (by simp [Value.oneCell']) (by omega) (by unfold maxLen; omega) (by omega) (by omega) (wc.heap.size + 1) (by simp) ?_))
         intro gg cap WY hown1 hgrow hat hlt1
         rw [HRL.out] at hown1
         have HP := Px.hid (show NumsI w WY (.slice (some ⟨gg, 0, none⟩) (L.length + 1) cap) (E7.count x :: L) from by
          rw [HCN.out]
          exact NumsI.push (HN.out.sm ((Same.refl wc).drewN nq)) hown1 (grown_alloc1 (w := (wc.drewN nq)) hgrow) (hat.imp id (fun e => (show wc.heap.size ≤ gg by omega))))
         clear hown1 hgrow hat
         go_wp2_with fail
         go_meet
         rw [HE.out]
         exact HP.out
        ·have HCN := Px.hid (show E7.count x = 1 by unfold E7.count; rw [e6]; rfl)
         have hno : True := trivial
         rw [e6] at x0
         have HOQ := Px.hid (HO.out wc (Same.refl wc))
         go_wp2_with (at_builtin; go_must (refine wpList_append_lies _ rfl _ _ _ rfl 0 3 i0 _ 1 8 Tryd.underlying151 hi0 hz0 hz1 hz2 rfl (by omega) (.slice la L.length lc) L.length RL rfl (World.ownsRow.alloc HOQ.out _) ⟨wc.heap.size, 0, none⟩ 1 1 [.int .i64 (1)] rfl rfl (World.news_of_block (cs := #[.int .i64 (1)]) (t := 3) (fr := (0, 0)) (heap_alloc_new wc _)) (by simp [Value.oneCell']) (by omega) (by unfold maxLen; omega) (by omega) (by omega) (wc.heap.size + 1) (by simp) ?_))
         intro gg cap WY hown1 hgrow hat hlt1
         rw [HRL.out] at hown1
         have HP := Px.hid (show NumsI w WY (.slice (some ⟨gg, 0, none⟩) (L.length + 1) cap) (E7.count x :: L) from by
          rw [HCN.out]
          exact NumsI.push (HN.out.sm (Same.refl wc)) hown1 (grown_alloc1 (w := wc) hgrow) (hat.imp id (fun e => (show wc.heap.size ≤ gg by omega))))
         clear hown1 hgrow hat
         go_wp2_with fail
         go_meet
         rw [HE.out]
         exact HP.out
      case rest =>
       have HN2 := Px.hid hcut
       obtain ⟨lb, ld, hv6⟩ := hcut.len
       clear hcut
       rename_i t6 _
       subst hv6
       obtain ⟨MM, hMM⟩ : ∃ MM, MM = max most LL.length := ⟨_, rfl⟩
       have hLL1 : LL.length ≤ L.length + 1 := by
        rw [HLL.out, HL.out]; unfold left2; split
        ·exact Nat.le_succ _
        ·exact Nat.le_refl _
       have HM := Px.hid hMM
       have hm1 : MM ≤ k + 1 := by omega
       have hm2 : LL.length ≤ MM := by omega
       have HLLs := Px.hid (show ∀ c ∈ LL, c ≤ 10000 from by
        intro c hc
        have hb := HBIG.out
        have hls := HLs.out
        rw [HL.out] at hls
        rw [HLL.out] at hc
        unfold left2 at hc
        by_cases hlf : E7.leaf x = true
        ·rw [if_pos hlf] at hc; exact hls c hc
        ·rw [if_neg hlf] at hc
         rcases List.mem_cons.1 hc with rfl | hc
         ·rcases leaf_or x with ⟨e1, _⟩ | ⟨_, e | e | e⟩
          ·exact absurd e1 hlf
          ·unfold E7.count; rw [e]; simp; rw [e] at hb; simp at hb; omega
          ·unfold E7.count; rw [e]; simp; rw [e] at hb; simp at hb; omega
          ·unfold E7.count; rw [e]; simp
         ·exact hls c hc)
       clear x0 x1 hMM
       go_upto_if 87 with fail
       go_cut [7] (fun t7 wx => t7 = .int .i64 (MM : Nat) ∧ wx = wc)
       case first =>
        by_cases hgt : most < LL.length
        ·have hgz : (most : Int) < (LL.length : Int) := by omega
         have HE := Px.hid (show MM = LL.length by rw [HM.out]; omega)
         clear hgt
         go_wp2_with fail
         go_meet
         rw [HE.out]
         exact ⟨rfl, rfl⟩
        ·have hgz : ¬ (most : Int) < (LL.length : Int) := by omega
         have HE := Px.hid (show MM = most by rw [HM.out]; omega)
         clear hgt
         go_wp2_with fail
         go_meet
         rw [HE.out]
         exact ⟨rfl, rfl⟩
       case rest =>
        obtain ⟨rfl, hwc2⟩ := hcut
        subst hwc2
        have hLLk : LL.length ≤ k + 1 := by omega
        obtain ⟨wo, rfl⟩ : ∃ wo : World, wo = wc := ⟨_, rfl⟩
        go_wp2
        go_loopg [6] (LL.length + 1) (fun gk2 v6 w2 => ∃ lf : List Nat, lf.length < gk2 ∧ Hid (NumsI w w2 v6 lf ∧ E7.pops lf = E7.pops LL ∧ lf.length ≤ LL.length ∧ ∀ c ∈ lf, c ≤ 10000))
        case atStart => exact ⟨LL, by omega, Px.hid ⟨HN2.out, rfl, Nat.le_refl _, HLLs.out⟩⟩
        case round =>
         obtain ⟨lf, hgl, HQ⟩ := hrel
         have HGL := Px.hid hgl
         clear hgl
         rcases hlf : lf with _ | ⟨ci, rs⟩
         ·rw [hlf] at HQ
          obtain ⟨a2, c2, hv2⟩ := HQ.out.1.len
          subst hv2
          have HR := Px.hid (show E7.behind (l.drop p) [] 0 p = (some (k + 1), MM) by
           rw [HSB.out, HM.out, HLL.out, if_pos]
           have := HQ.out.2.1
           rw [HLL.out] at this
           rw [← this]
           rfl)
          clear hlf HGL
          go_wp2
          go_ret2
          rw [HR.out]
          exact ⟨by unfold behV; go_num, HQ.out.1.same⟩
         ·rw [hlf] at HQ HGL
          obtain ⟨g2, c2, rfl, hc1, hc2, hcell, hfz, hg2⟩ := HQ.out.1.top
          unfold maxLen at hc2
          clear hlf
          by_cases hc0 : ci = 0
          ·subst hc0
           go_wp2
           go_roundg (rs.length + 1)
           case measure => have := HGL.out; simp at this; omega
           case rel => exact ⟨rs, by omega, Px.hid ⟨HQ.out.1.pop, HQ.out.2.1, Nat.le_of_succ_le HQ.out.2.2.1, fun c hc => HQ.out.2.2.2 c (by simp [hc])⟩⟩
          ·have hcz : ((ci : Int) == 0) = false := by simpa using hc0
           have hzz : (((rs.length : Int) + 1) == 0) = false := beq_eq_false_iff_ne.2 (by omega)
           have HC := Px.hid hc0
           clear hc0
           go_wp2
           go_roundg g'
           case measure => omega
           case rel =>
            have hp := HQ.out.2.1
            have e : E7.pops (ci :: rs) = ci :: rs := by unfold E7.pops; rw [if_neg HC.out]
            refine ⟨k + 1, MM, ci :: rs, by have := HG.out; omega, by omega, by go_num, rfl, Px.hid ⟨HQ.out.1, ?_, ?_, ?_, hm1, HQ.out.2.2.2, .inr ⟨ci - 1, rs, by rw [Nat.sub_add_cancel (Nat.one_le_iff_ne_zero.2 HC.out)]⟩⟩⟩
            ·rw [HSB.out, ← HLL.out, ← hp, e, HM.out]
             rfl
            ·have := HQ.out.2.2.1; omega
            ·have := HQ.out.2.2.1; omega
  ·have hlz : ¬ (k : Int) < (l.length : Int) := by omega
   have HR := Px.hid (show E7.behind (l.drop p) [] 0 p = (none, most) by
    rw [HS.out.eq, show k = l.length by omega, List.drop_length]
    rfl)
   go_wp2
   go_ret2
   rw [HR.out]
   exact ⟨rfl, HS.out.nums.same⟩
theorem behind_any (v : Value) (l : List Atom) (w : World) (h : Lies w 3 cAtom v l) (hl : l.length ≤ 4096) :
  Calls Tryd.prog 63 #[v, .int .i64 0] w fun e w' => e = .returned (behV (E7.behind l [] 0 0)) ∧ Same w w' := by
 have h := behind_at v l 0 w h hl (Nat.zero_le _)
 rwa [List.drop_zero] at h
end Go.Proofs.YtddiabaagpmkgaaDoor

/-! The walk over the reference's told (layer 17). -/
namespace Go.Proofs.YtddiabaagpmkgaaDoor
open Go.RowKit Go.Px Go.Px.R7

/-- How a Teller lies. -/
structure Tl (w : World) (b : Nat) (va : Value) (k : Nat) (lg ou : Bool) : Prop where
 blk : w.heap[b]? = some (.cells #[va, .int .i64 (k : Nat), .bool lg, .bool ou] 154 (0, 0))
theorem Tl.cells {w : World} {b : Nat} {va : Value} {k : Nat} {lg ou : Bool} (h : Tl w b va k lg ou) : w.cell? ⟨b, 0, none⟩ = some va ∧ w.cell? ⟨b, 1, none⟩ = some (.int .i64 (k : Nat)) ∧ w.cell? ⟨b, 2, none⟩ = some (.bool lg) ∧ w.cell? ⟨b, 3, none⟩ = some (.bool ou) :=
 ⟨cellOf h.blk 0 rfl, cellOf h.blk 1 rfl, cellOf h.blk 2 rfl, cellOf h.blk 3 rfl⟩
theorem Tl.sm {w w' : World} {b : Nat} {va : Value} {k : Nat} {lg ou : Bool} (h : Tl w b va k lg ou) (hs : Same w w') : Tl w' b va k lg ou := ⟨(hs.block b (ltOf h.blk) (fun x => x)).trans h.blk⟩
theorem Tl.setAt {w : World} {b : Nat} {va : Value} {k : Nat} {lg ou : Bool} (h : Tl w b va k lg ou) (n : Nat) : Tl (w.setCell ⟨b, 1, none⟩ (.int .i64 (n : Nat))) b va n lg ou := ⟨by rw [heap_setCell_same w b 1 _ _ _ h.blk]; rfl⟩
theorem Tl.setLong {w : World} {b : Nat} {va : Value} {k : Nat} {lg ou : Bool} (h : Tl w b va k lg ou) (n : Bool) : Tl (w.setCell ⟨b, 2, none⟩ (.bool n)) b va k n ou := ⟨by rw [heap_setCell_same w b 2 _ _ _ h.blk]; rfl⟩
theorem Tl.setOut {w : World} {b : Nat} {va : Value} {k : Nat} {lg ou : Bool} (h : Tl w b va k lg ou) (n : Bool) : Tl (w.setCell ⟨b, 3, none⟩ (.bool n)) b va k lg n := ⟨by rw [heap_setCell_same w b 3 _ _ _ h.blk]; rfl⟩
/-- The list that is told: it lies in memory that was there before the Teller. -/
structure Lst (w0 : World) (b xb xo : Nat) (L : List Atom) : Prop where
 cell : ∀ (j : Nat) (x : Atom), L[j]? = some x → ∀ i u, (cAtom x)[i]? = some u → w0.cell? ⟨xb, xo + (j * 3 + i), none⟩ = some u
 lt : xb < w0.heap.size
 le : w0.heap.size ≤ b
 wf : E7.Wf L
 len : L.length ≤ 4096
 enc : (E7.encB L).length ≤ 1000000
/-- What told leaves. -/
structure Told (w0 : World) (b : Nat) (va : Value) (k : Nat) (x : List Atom) (o out : Bool) (s : Bytes) (w' : World) (k' : Nat) (lg ou : Bool) : Prop where
 tl : Tl w' b va k' lg ou
 same : Same w0 w'
 or : (lg = false ∧ s = E7.encB x ∧ k' = k + x.length ∧ ou = (out || o)) ∨ (lg = true ∧ 262144 < (E7.encB x).length ∧ s.length ≤ (E7.encB x).length)
def ToldP (w0 w : World) (b : Nat) (va : Value) (k : Nat) (x : List Atom) (o out : Bool) (e : Ending) (w' : World) : Prop :=
 ∃ s k' lg ou, e = .returned (S s) ∧ Told w0 b va k x o out s w' k' lg ou ∧ Fr (It b) w w'
theorem ToldP.mk {w0 w w' : World} {b : Nat} {va : Value} {k : Nat} {x : List Atom} {o out : Bool} {e : Ending} (s : Bytes) (k' : Nat) (lg ou : Bool) (h1 : e = .returned (S s)) (h2 : Told w0 b va k x o out s w' k' lg ou) (h3 : Fr (It b) w w') : ToldP w0 w b va k x o out e w' := ⟨s, k', lg, ou, h1, h2, h3⟩
def ToldC (w0 : World) (b xb xo cap : Nat) (L : List Atom) (d : Nat) : Prop :=
 ∀ (w : World) (k : Nat) (x r : List Atom) (o out : Bool), Tl w b (.slice (some ⟨xb, xo, none⟩) L.length cap) k false out → Same w0 w → E7.ItF d x o → L.drop k = x ++ r →
  Calls Tryd.prog 84 #[.pointer (some ⟨b, 0, none⟩)] w (ToldP w0 w b (.slice (some ⟨xb, xo, none⟩) L.length cap) k x o out)
theorem enc_part {L x r : List Atom} {k : Nat} (h : L.drop k = x ++ r) : (E7.encB x).length ≤ (E7.encB L).length := by
 conv => rhs; rw [← List.take_append_drop k L, h]
 simp only [E7.encB_app, List.length_append]
 omega
theorem drop_head {L r : List Atom} {a : Atom} {k : Nat} (h : L.drop k = a :: r) : k < L.length ∧ L[k]? = some a ∧ L.drop (k + 1) = r := by
 have hk : k < L.length := by
  rcases Nat.lt_or_ge k L.length with h1 | h1
  ·exact h1
  ·rw [List.drop_eq_nil_of_le h1] at h; cases h
 rw [List.drop_eq_getElem_cons hk] at h
 simp only [List.cons.injEq] at h
 exact ⟨hk, by rw [List.getElem?_eq_getElem hk, h.1], h.2⟩
/-- How many one holds. -/
def hN (a : Atom) : Nat := if E7.leaf a then 0 else E7.count a
theorem hN_cases {a : Atom} {k : Nat} (hk : a.kind = k) (h : hN a ≤ 4096) : (k = 4 ∧ hN a = a.num ∧ a.num ≤ 4096) ∨ (k = 5 ∧ hN a = 2 * a.num ∧ 2 * a.num ≤ 4096) ∨ (k = 6 ∧ hN a = 1) ∨ (((k : Int) == 4) = false ∧ ((k : Int) == 5) = false ∧ ((k : Int) == 6) = false ∧ hN a = 0) := by
 rcases leaf_or a with ⟨e, e2⟩ | ⟨e, e2 | e2 | e2⟩
 ·refine .inr (.inr (.inr ⟨beq_eq_false_iff_ne.2 (by omega), beq_eq_false_iff_ne.2 (by omega), beq_eq_false_iff_ne.2 (by omega), ?_⟩))
  unfold hN; rw [if_pos e]
 ·have e3 : hN a = a.num := by unfold hN; rw [if_neg (by rw [e]; simp)]; unfold E7.count; rw [e2]; rfl
  exact .inl ⟨by omega, e3, by omega⟩
 ·have e3 : hN a = 2 * a.num := by unfold hN; rw [if_neg (by rw [e]; simp)]; unfold E7.count; rw [e2]; rfl
  exact .inr (.inl ⟨by omega, e3, by omega⟩)
 ·have e3 : hN a = 1 := by unfold hN; rw [if_neg (by rw [e]; simp)]; unfold E7.count; rw [e2]; rfl
  exact .inr (.inr (.inl ⟨by omega, e3⟩))
/-- How far the telling of what one holds has come. -/
structure TSt (w0 w wr : World) (b : Nat) (va : Value) (k d : Nat) (x r : List Atom) (o out : Bool) (AB : Bytes) (L : List Atom) (mp : Bool) (n kd : Nat) (a : Atom) (i : Nat) (s last : Bytes) : Prop where
 same : Same w0 wr
 fr : Fr (It b) w wr
 own : wr.heap[w.heap.size]? = some (.cells #[.int .i64 (kd : Nat), .int .u64 (a.num : Nat), S a.text] 62 (0, 0))
 st : (∃ y rest o1 o2, x = y ++ rest ∧ E7.Kids (E7.ItF d) mp (n - i) i last rest o2 ∧ o = (o1 || o2) ∧ Tl wr b va (k + 1 + y.length) false (out || o1) ∧ s = AB ++ E7.encB y ∧ L.drop (k + 1 + y.length) = rest ++ r) ∨
  (∃ k' ou, Tl wr b va k' true ou ∧ 262144 < AB.length + (E7.encB x).length ∧ s.length ≤ AB.length + (E7.encB x).length)
set_option maxRecDepth 100000 in
set_option maxHeartbeats 16000000 in
theorem told_node (w0 : World) (b xb xo cap : Nat) (L : List Atom) (hL : Lst w0 b xb xo L) (d : Nat) (a : Atom) (hI : 0 < hN a → ToldC w0 b xb xo cap L d)
  (w : World) (k : Nat) (x r : List Atom) (o out : Bool) (ht : Tl w b (.slice (some ⟨xb, xo, none⟩) L.length cap) k false out) (hs : Same w0 w) (hr : E7.right a = true) (hk : E7.Kids (E7.ItF d) (a.kind == 5) (hN a) 0 [] x o) (hd : L.drop k = (a :: x) ++ r) :
  Calls Tryd.prog 84 #[.pointer (some ⟨b, 0, none⟩)] w (ToldP w0 w b (.slice (some ⟨xb, xo, none⟩) L.length cap) k (a :: x) o out) := by
 obtain ⟨hkl, hget, hdrop⟩ := drop_head hd
 have hcx := hL.cell k a hget
 have hxb := hL.lt
 have hbw := ltOf ht.blk
 have hxw : xb < w.heap.size := Nat.lt_of_lt_of_le hxb hs.size
 have hx0 := hcx 0 _ rfl
 have hx1 := hcx 1 _ rfl
 have hx2 := hcx 2 _ rfl
 rw [← Nat.add_assoc] at hx0 hx1 hx2
 rw [Nat.add_zero] at hx0
 have x0 := (hs.cell (p := ⟨xb, xo + k * 3, none⟩) hxb (fun x => x)).trans hx0
 have x1 := (hs.cell (p := ⟨xb, xo + k * 3 + 1, none⟩) hxb (fun x => x)).trans hx1
 have x2 := (hs.cell (p := ⟨xb, xo + k * 3 + 2, none⟩) hxb (fun x => x)).trans hx2
 obtain ⟨kd, hkd, hk8⟩ := E7.right_kind hr
 rw [hkd] at x0
 obtain ⟨t0, t1, t2, t3⟩ := ht.cells
 have f1 := freeOf ht.blk 1
 have hlen := hL.len
 have hklz : (k : Int) < (L.length : Int) := by omega
 have HH := Px.hid (And.intro hL (And.intro hI (And.intro ht (And.intro hs (And.intro hk hd)))))
 have henc := Nat.le_trans (enc_part hd) hL.enc
 have hat := atomB_text a
 rw [E7.encB_cons, List.length_append] at henc
 have htx : a.text.length ≤ 1000000 := by omega
 have hwfa := hL.wf a (List.mem_of_getElem? hget)
 have hnn : headN a < 18446744073709551616 := by unfold headN; split <;> omega
 have hhn : hN a ≤ 4096 := by
  have h1 := E7.Kids.le (fun _ _ h => E7.ItF.pos h) hk
  have h2 := congrArg List.length hd
  simp only [List.length_drop, List.length_append, List.length_cons] at h2
  omega
 have hae : E7.atomB a = R7.headB kd (headN a) ++ a.text := by unfold E7.atomB headN; rw [hkd]; rfl
 obtain ⟨HB, hHB⟩ : ∃ HB, HB = R7.headB kd (headN a) := ⟨_, rfl⟩
 obtain ⟨AB, hAB⟩ : ∃ AB, AB = E7.atomB a := ⟨_, rfl⟩
 have hHBl : HB.length ≤ 9 := by
  rw [hHB, E7.headB_size]
  have h2 := (E7.infoOf_lt (headN a) hnn).2
  have h3 : 2 ^ infoOf (headN a) ≤ 2 ^ 3 := Nat.pow_le_pow_right (by omega) h2
  split <;> omega
 have HA := Px.hid (And.intro hkd (And.intro hdrop (And.intro (show ByteArray.mk HB.toArray ++ ByteArray.mk a.text.toArray = ⟨AB.toArray⟩ by rw [hAB, hae, ← hHB]; exact app_S _ _) (And.intro hHB (And.intro hAB (And.intro hwfa (show AB.length + (E7.encB x).length ≤ 1000000 by rw [hAB]; exact henc)))))))
 clear hL hI ht hs hr hk hd hget henc hat hwfa hae hHB hAB hcx hx0 hx1 hx2 hkd hdrop
 have hszT : (ByteArray.mk a.text.toArray).size = a.text.length := size_S a.text
 have hszH : (ByteArray.mk HB.toArray).size = HB.length := size_S HB
 go_enter Tryd.func84, Tryd.ntmps84
 go_upto_region 1 with fail
 go_cut [3] (fun t3 wx => t3 = .pointer (some ⟨w.heap.size, 0, none⟩) ∧ wx.heap[w.heap.size]? = some (.cells #[.int .i64 (kd : Nat), .int .u64 (a.num : Nat), S a.text] 62 (0, 0)) ∧ Same w wx)
 case first =>
  go_region
  all_goals
   go_wp2_with fail
   go_meet
   first
    | exact ⟨rfl, heap_alloc_new w _, ((Same.refl w).alloc _).drew⟩
    | exact ⟨rfl, heap_alloc_new w _, (Same.refl w).alloc _⟩
 case rest =>
  obtain ⟨rfl, hab, hsx⟩ := hcut
  have HX := Px.hid (And.intro hab hsx)
  have HT := Px.hid (HH.out.2.2.1.sm hsx)
  clear hab hsx x0 x1 x2 t0 t1 t2 t3 f1
  obtain ⟨t0, t1, t2, t3⟩ := HT.out.cells
  have f1 := freeOf HT.out.blk 1
  have hbl := ltOf HT.out.blk
  go_upto_region 3 with fail
  have hcc : ((k : Int) + 1) = ((k + 1 : Nat) : Int) := by omega
  obtain ⟨W2, hW2⟩ : ∃ W2, W2 = wc.setCell ⟨b, 1, none⟩ (.int .i64 ((k : Int) + 1)) := ⟨_, rfl⟩
  rw [← hW2]
  have hne : w.heap.size ≠ b := by omega
  have HX2 := Px.hid (show W2.heap[w.heap.size]? = some (.cells #[.int .i64 (kd : Nat), .int .u64 (a.num : Nat), S a.text] 62 (0, 0)) ∧ Tl W2 b (.slice (some ⟨xb, xo, none⟩) L.length cap) (k + 1) false out ∧ Same w0 W2 ∧ Fr (It b) w W2 from by
   rw [hW2, hcc]
   refine ⟨(heap_setCell_other _ _ _ _ (fun e => hne e)).trans HX.out.1, HT.out.setAt (k + 1), ?_, (HX.out.2.fr _).trans (It.set _) (fun _ _ h => h)⟩
   exact (HH.out.2.2.2.1.trans HX.out.2).setCell (p := ⟨b, 1, none⟩) (.inr HH.out.1.le) _)
  clear hW2 hcc t0 t1 t2 t3 f1 HT HX
  have y0 := cellOf HX2.out.1 0 rfl
  have y1 := cellOf HX2.out.1 1 rfl
  have y2 := cellOf HX2.out.1 2 rfl
  have hwl : w.heap.size < W2.heap.size := ltOf HX2.out.1
  have hk3 : kd = 2 ∨ kd = 3 ∨ (((kd : Int) == 2) = false ∧ ((kd : Int) == 3) = false ∧ (kd == 2 || kd == 3) = false) := by
   by_cases e2 : kd = 2
   ·exact .inl e2
   ·by_cases e3 : kd = 3
    ·exact .inr (.inl e3)
    ·exact .inr (.inr ⟨beq_eq_false_iff_ne.2 (by omega), beq_eq_false_iff_ne.2 (by omega), by simp [e2, e3]⟩)
  have HK3 := Px.hid hk3
  clear hk3
  obtain ⟨B, hB⟩ : ∃ B, B = (kd == 2 || kd == 3) := ⟨_, rfl⟩
  have HBB := Px.hid hB
  clear hB
  go_upto_region 4 with fail
  go_cut [36] (fun t36 wx => t36 = .bool B ∧ wx = W2)
  case first =>
   rcases HK3.out with e | e | ⟨e2, e3, e⟩
   ·have HBe := HBB.out
    subst e
    go_wp2_with fail
    go_meet
    rw [HBe]
    exact ⟨rfl, rfl⟩
   ·have HBe := HBB.out
    subst e
    go_wp2_with fail
    go_meet
    rw [HBe]
    exact ⟨rfl, rfl⟩
   ·have HBe := Px.hid (HBB.out.trans e)
    clear e
    go_wp2_with fail
    go_meet
    rw [HBe.out]
    exact ⟨rfl, rfl⟩
  case rest =>
   obtain ⟨rfl, hwc⟩ := hcut
   subst hwc
   have hlen64 : (a.text.length : Int) ≤ 9223372036854775807 := by omega
   go_upto_if 36 with fail
   go_cut [4] (fun t4 wx => t4 = .int .u64 (headN a : Nat) ∧ wx = wc)
   case first =>
    cases B
    ·have HN := Px.hid (show headN a = a.num by unfold headN; rw [HA.out.1, show (((kd : Nat) : Int) == 2 || ((kd : Nat) : Int) == 3) = (kd == 2 || kd == 3) from kind23 kd, ← HBB.out]; rfl)
     go_wp2_with fail
     go_meet
     rw [HN.out]
     exact ⟨rfl, rfl⟩
    ·have HN := Px.hid (show headN a = a.text.length by unfold headN; rw [HA.out.1, show (((kd : Nat) : Int) == 2 || ((kd : Nat) : Int) == 3) = (kd == 2 || kd == 3) from kind23 kd, ← HBB.out]; rfl)
     go_wp2_with fail
     go_meet
     rw [HN.out]
     exact ⟨rfl, rfl⟩
   case rest =>
    obtain ⟨rfl, hwc2⟩ := hcut
    subst hwc2
    have happ := HA.out.2.2.1
    have HHD := Px.hid (fun W => head17_any kd (headN a) W hk8 hnn)
    rw [← HA.out.2.2.2.1] at HHD
    go_upto_region 6 with fail
    go_cut [5] (fun t5 wx => t5 = S AB ∧ Same wc wx)
    case first =>
     go_region_with (first
      | (go_at_call 33; refine (HHD.out _).mono ?_; rintro e wh ⟨rfl, hh⟩; have z2 := (hh.cell (p := ⟨w.heap.size, 2, none⟩) hwl (fun x => x)).trans y2; have HM := Px.hid (Same.trans (Fr.drew (Same.refl wc)) hh); clear hh))
     all_goals
      go_wp2_with fail
      go_meet
      exact ⟨rfl, HM.out⟩
    case rest =>
     obtain ⟨rfl, hsc⟩ := hcut
     have HX3 := Px.hid (And.intro ((hsc.block _ (ltOf HX2.out.1) (fun x => x)).trans HX2.out.1) (And.intro (HX2.out.2.1.sm hsc) (And.intro (HX2.out.2.2.1.trans hsc) (Fr.trans HX2.out.2.2.2 hsc (fun _ _ x => x.elim)))))
     clear hsc HX2 y0 y1 y2 happ hwl HHD
     have y0 := cellOf HX3.out.1 0 rfl
     have y1 := cellOf HX3.out.1 1 rfl
     have HKD := Px.hid (show (kd = 4 ∧ hN a = a.num ∧ a.num ≤ 4096) ∨ (kd = 5 ∧ hN a = 2 * a.num ∧ 2 * a.num ≤ 4096) ∨ (kd = 6 ∧ hN a = 1) ∨ (((kd : Int) == 4) = false ∧ ((kd : Int) == 5) = false ∧ ((kd : Int) == 6) = false ∧ hN a = 0) from hN_cases HA.out.1 hhn)
     go_upto_block 0 with fail
     go_cut [6] (fun t6 wx => t6 = .int .i64 (hN a : Nat) ∧ wx = wc)
     case first =>
      rcases HKD.out with ⟨rfl, e, e2⟩ | ⟨rfl, e, e2⟩ | ⟨rfl, e⟩ | ⟨e4, e5, e6, e⟩
      ·have HE := Px.hid e
       clear e
       go_wp2_with fail
       go_meet
       rw [HE.out]
       exact ⟨rfl, rfl⟩
      ·have HE := Px.hid (show ((hN a : Nat) : Int) = (a.num : Int) * 2 by rw [e]; omega)
       clear e
       go_wp2_with fail
       go_meet
       rw [HE.out]
       exact ⟨rfl, rfl⟩
      ·have HE := Px.hid e
       clear e
       go_wp2_with fail
       go_meet
       rw [HE.out]
       exact ⟨rfl, rfl⟩
      ·have HE := Px.hid e
       clear e
       go_wp2_with fail
       go_meet
       rw [HE.out]
       exact ⟨rfl, rfl⟩
     case rest =>
      obtain ⟨rfl, hwc3⟩ := hcut
      subst hwc3
      have HT := Px.hid (show TSt w0 w wc b (.slice (some ⟨xb, xo, none⟩) L.length cap) k d x r o out AB L (a.kind == 5) (hN a) kd a 0 AB [] from
       ⟨HX3.out.2.2.1, HX3.out.2.2.2, HX3.out.1, .inl ⟨[], x, false, o, rfl, HH.out.2.2.2.2.1, rfl, by simpa using HX3.out.2.1, by simp [E7.encB], by have := HA.out.2.1; simpa using this⟩⟩)
      clear y0 y1 HX3
      go_wp2
      go_loopg [5, 7, 8] (hN a + 1) (fun gk t5 t7 t8 wr => ∃ (i : Nat) (s last : Bytes), gk + i = hN a + 1 ∧ i ≤ hN a ∧ t5 = S s ∧ t7 = S last ∧ t8 = .int .i64 (i : Nat) ∧ Hid (TSt w0 w wr b (.slice (some ⟨xb, xo, none⟩) L.length cap) k d x r o out AB L (a.kind == 5) (hN a) kd a i s last))
      case atStart => exact ⟨0, AB, [], rfl, Nat.zero_le _, rfl, rfl, rfl, HT.out⟩
      case round =>
       clear HT
       obtain ⟨i, s, last, hgk, hi, rfl, rfl, rfl, HQ⟩ := hrel
       have HG := Px.hid hgk
       clear hgk
       rcases HQ.out.st with ⟨y, rest, o1, o2, hx, hkids, ho, htl, hss, hdr⟩ | ⟨k', ou, htl, hbig, hsl⟩
       ·have hsl : s.length + (E7.encB rest).length = AB.length + (E7.encB x).length := by rw [hss, hx, E7.encB_app]; simp only [List.length_append]; omega
        have hall := HA.out.2.2.2.2.2.2
        have htc := htl.cells.2.2.1
        by_cases hlt : i < hN a
        ·have hltz : (i : Int) < (hN a : Int) := by omega
         obtain ⟨g', rfl⟩ : ∃ g', gk = g' + 1 := ⟨gk - 1, by have := HG.out; omega⟩
         rw [show hN a - i = (hN a - (i + 1)) + 1 by omega] at hkids
         obtain ⟨x1, r1, p1, p2, hr1, hx1, hk1, hp⟩ := hkids
         have hcall := HH.out.2.1 (by omega) wr (k + 1 + y.length) x1 (r1 ++ r) p1 (out || o1) htl HQ.out.same hx1 (by rw [hdr, hr1, List.append_assoc])
         have HC := Px.hid (And.intro hcall (And.intro hx (And.intro ho (And.intro hss (And.intro hdr (And.intro hr1 (And.intro hk1 hp)))))))
         have hlen1 : s.length + ((E7.encB x1).length + (E7.encB r1).length) = AB.length + (E7.encB x).length := by rw [← hsl, hr1, E7.encB_app, List.length_append]
         clear hcall hx ho hss hdr hr1 hk1 hp htl hx1 hsl
         go_wp2_with fail
         refine HC.out.1.mono ?_
         rintro e w4 ⟨s1, k4, lg, ou, rfl, htold, hf⟩
         have hs1 : s1.length ≤ (E7.encB x1).length := by rcases htold.or with ⟨_, e, _⟩ | ⟨_, _, e⟩; exact Nat.le_of_eq (by rw [e]); exact e
         have hfw := Fr.trans HQ.out.fr hf (fun _ _ e => e)
         have hown := (hf.block w.heap.size (ltOf HQ.out.own) (fun e => by have := HH.out.1.le; unfold It at e; omega)).trans HQ.out.own
         have HT4 := Px.hid (And.intro htold (And.intro hfw hown))
         have y0 := cellOf hown 0 rfl
         clear htold hf hfw hown htc
         obtain ⟨K, hK⟩ : ∃ K, K = (a.kind == 5 && i % 2 == 0) := ⟨_, rfl⟩
         have HK := Px.hid hK
         clear hK
         go_upto_region 19 with fail
         go_cut [83] (fun t83 wx => t83 = .bool K ∧ wx = w4)
         case first =>
          by_cases h5 : kd = 5
          ·subst h5
           by_cases h2 : i % 2 = 0
           ·have hz : ((i : Int) % 2 == 0) = true := by simp; omega
            have HKe := Px.hid (show K = true by rw [HK.out, HA.out.1, h2]; rfl)
            clear h2
            go_wp2_with fail
            go_meet
            rw [HKe.out]
            exact ⟨rfl, rfl⟩
           ·have hz : ((i : Int) % 2 == 0) = false := by simp; omega
            have HKe := Px.hid (show K = false by rw [HK.out]; simp; intro _; omega)
            clear h2
            go_wp2_with fail
            go_meet
            rw [HKe.out]
            exact ⟨rfl, rfl⟩
          ·have hz : ((kd : Int) == 5) = false := beq_eq_false_iff_ne.2 (by omega)
           have HKe := Px.hid (show K = false by rw [HK.out, HA.out.1, hz]; rfl)
           clear h5
           go_wp2_with fail
           go_meet
           rw [HKe.out]
           exact ⟨rfl, rfl⟩
         case rest =>
          obtain ⟨rfl, hwc4⟩ := hcut
          subst hwc4
          obtain ⟨cmp, hcmp⟩ : ∃ cmp, cmp = (K && (decide (0 < i) && leB s1 last)) := ⟨_, rfl⟩
          obtain ⟨la2, hla2⟩ : ∃ la2, la2 = (if K then s1 else last) := ⟨_, rfl⟩
          have HCM := Px.hid (And.intro hcmp hla2)
          clear hcmp hla2
          go_upto_if 83 with fail
          go_cut [7] (fun t7 wx => t7 = S la2 ∧ Tl wx b (.slice (some ⟨xb, xo, none⟩) L.length cap) k4 lg (ou || cmp) ∧ Fr (It b) wc wx)
          case first =>
           have hfo := freeOf HT4.out.1.tl.blk 3
           have hco := HT4.out.1.tl.cells.2.2.2
           have hbc := ltOf HT4.out.1.tl.blk
           cases K
           ·have HE := Px.hid (show cmp = false ∧ la2 = last from ⟨HCM.out.1, HCM.out.2⟩)
            go_wp2_with fail
            go_meet
            rw [HE.out.1, HE.out.2, Bool.or_false]
            exact ⟨rfl, HT4.out.1.tl, Fr.refl _ _⟩
           ·have HE0 := Px.hid (show la2 = s1 from HCM.out.2)
            by_cases h0 : 0 < i
            ·cases hle : leB s1 last
             ·have hle' : (Op.bytesLess s1 last || s1 == last) = false := hle
              have HE := Px.hid (show cmp = false by rw [HCM.out.1, hle]; simp)
              clear hle
              go_wp2_with fail
              go_meet
              rw [HE.out, HE0.out, Bool.or_false]
              exact ⟨rfl, HT4.out.1.tl, Fr.refl _ _⟩
             ·have hle' : (Op.bytesLess s1 last || s1 == last) = true := hle
              have HE := Px.hid (show cmp = true by rw [HCM.out.1, hle, decide_eq_true h0]; rfl)
              clear hle
              go_wp2_with fail
              go_meet
              rw [HE.out, HE0.out, Bool.or_true]
              exact ⟨rfl, HT4.out.1.tl.setOut true, It.set _⟩
            ·have HE := Px.hid (show cmp = false by rw [HCM.out.1, decide_eq_false h0]; rfl)
             go_wp2_with fail
             go_meet
             rw [HE.out, HE0.out, Bool.or_false]
             exact ⟨rfl, HT4.out.1.tl, Fr.refl _ _⟩
          case rest =>
           obtain ⟨rfl, htl5, hf5⟩ := hcut
           have hown5 := (hf5.block w.heap.size (ltOf HT4.out.2.2) (fun e => by have := HH.out.1.le; unfold It at e; omega)).trans HT4.out.2.2
           have HT5 := Px.hid (And.intro htl5 (And.intro (Fr.trans HT4.out.2.1 hf5 (fun _ _ e => e)) (And.intro hown5 (show Same w0 wc from Fr.toSame (Fr.trans (HT4.out.1.same.fr (It b)) hf5 (fun _ _ e => e)) (fun j hj => by have := HH.out.1.le; unfold It at hj; omega)))))
           have hc2 := htl5.cells.2.2.1
           have hf2 := freeOf htl5.blk 2
           have hbc := ltOf htl5.blk
           obtain ⟨sn, hsn⟩ : ∃ sn, sn = s ++ s1 := ⟨_, rfl⟩
           have happ := app_S s s1
           rw [← hsn] at happ
           have hsz1 : (ByteArray.mk s.toArray).size = s.length := size_S s
           have hsz2 : (ByteArray.mk s1.toArray).size = s1.length := size_S s1
           have hsz3 : (ByteArray.mk sn.toArray).size = sn.length := size_S sn
           have hsnl : sn.length = s.length + s1.length := by rw [hsn, List.length_append]
           have HSN := Px.hid (And.intro hsn hsnl)
           have hsnb : sn.length ≤ 1000000 := by omega
           clear hsn htl5 hf5 hown5 y0
           by_cases hbig : 262144 < sn.length
           ·have hbz : (262144 : Int) < (sn.length : Int) := by omega
            have HBG := Px.hid hbig
            clear hbig hsnl
            cases lg
            all_goals
             go_wp2
             go_roundg g'
             case measure => omega
             case rel =>
              refine ⟨i + 1, sn, la2, by have := HG.out; omega, by omega, rfl, rfl, by go_num, Px.hid ⟨?_, HT5.out.2.1.trans (It.set _) (fun _ _ h => h), ?_, .inr ⟨_, _, HT5.out.1.setLong true, ?_, ?_⟩⟩⟩
              ·exact HT5.out.2.2.2.setCell (p := ⟨b, 2, none⟩) (.inr HH.out.1.le) _
              ·exact (heap_setCell_other _ _ _ _ (fun e => by have := HH.out.1.le; have := ltOf HT5.out.2.2.1; simp at e; omega)).trans HT5.out.2.2.1
              ·have := HBG.out; have := HSN.out.2; omega
              ·have := HSN.out.2; omega
           ·have hbz : ¬ (262144 : Int) < (sn.length : Int) := by omega
            have HBG := Px.hid hbig
            clear hbig hsnl
            cases lg
            ·go_wp2
             go_roundg g'
             case measure => omega
             case rel =>
              obtain ⟨_, e1, e2, e3⟩ | ⟨e, _⟩ := HT4.out.1.or
              ·refine ⟨i + 1, sn, la2, by have := HG.out; omega, by omega, rfl, rfl, by go_num, Px.hid ⟨?_, HT5.out.2.1.trans (It.set _) (fun _ _ h => h), ?_, .inl ⟨y ++ x1, r1, (o1 || p1 || cmp), p2, ?_, ?_, ?_, ?_, ?_, ?_⟩⟩⟩
               ·exact HT5.out.2.2.2.setCell (p := ⟨b, 2, none⟩) (.inr HH.out.1.le) _
               ·exact (heap_setCell_other _ _ _ _ (fun e => by have := HH.out.1.le; have := ltOf HT5.out.2.2.1; simp at e; omega)).trans HT5.out.2.2.1
               ·rw [HC.out.2.1, HC.out.2.2.2.2.2.1, List.append_assoc]
               ·rw [HCM.out.2, HK.out, e1]
                exact HC.out.2.2.2.2.2.2.1
               ·rw [HC.out.2.2.1, HC.out.2.2.2.2.2.2.2, HCM.out.1, HK.out, e1]
                simp only [Bool.or_assoc, Bool.and_assoc]
               ·have h1 := HT5.out.1.setLong false
                rw [e2, e3] at h1
                have e4 : k + 1 + (y ++ x1).length = k + 1 + y.length + x1.length := by rw [List.length_append]; omega
                rw [e4]
                simpa only [Bool.or_assoc] using h1
               ·rw [HSN.out.1, HC.out.2.2.2.1, e1, E7.encB_app, List.append_assoc]
               ·rw [List.length_append, ← Nat.add_assoc, ← List.drop_drop, HC.out.2.2.2.2.1, HC.out.2.2.2.2.2.1, List.append_assoc, List.drop_left]
              ·cases e
            ·go_wp2
             go_roundg g'
             case measure => omega
             case rel =>
              obtain ⟨e, _⟩ | ⟨_, e1, e2⟩ := HT4.out.1.or
              ·cases e
              ·refine ⟨i + 1, sn, la2, by have := HG.out; omega, by omega, rfl, rfl, by go_num, Px.hid ⟨?_, HT5.out.2.1.trans (It.set _) (fun _ _ h => h), ?_, .inr ⟨_, _, HT5.out.1.setLong true, ?_, ?_⟩⟩⟩
               ·exact HT5.out.2.2.2.setCell (p := ⟨b, 2, none⟩) (.inr HH.out.1.le) _
               ·exact (heap_setCell_other _ _ _ _ (fun e => by have := HH.out.1.le; have := ltOf HT5.out.2.2.1; simp at e; omega)).trans HT5.out.2.2.1
               ·have := HSN.out.2; omega
               ·have := HSN.out.2; omega
        ·have hltz : ¬ (i : Int) < (hN a : Int) := by omega
         rw [show hN a - i = 0 by omega] at hkids
         obtain ⟨hre, ho2⟩ := hkids
         have HE := Px.hid (And.intro hx (And.intro ho (And.intro hss (And.intro hre (And.intro ho2 htl)))))
         clear hx ho hss hre ho2 htl hdr hsl htc
         go_wp2
         go_ret
         refine ToldP.mk s (k + 1 + y.length) false (out || o1) rfl ⟨HE.out.2.2.2.2.2, HQ.out.same, .inl ⟨rfl, ?_, ?_, ?_⟩⟩ HQ.out.fr
         ·rw [HE.out.2.2.1, HA.out.2.2.2.2.1, E7.encB_cons, HE.out.1, HE.out.2.2.2.1, List.append_nil]
         ·rw [HE.out.1, HE.out.2.2.2.1, List.append_nil, List.length_cons]; omega
         ·rw [HE.out.2.1, HE.out.2.2.2.2.1, Bool.or_false]
       ·have htc := htl.cells.2.2.1
        have HE := Px.hid (And.intro htl (And.intro (show 262144 < (E7.encB (a :: x)).length by rw [E7.encB_cons, List.length_append, ← HA.out.2.2.2.2.1]; exact hbig) (show s.length ≤ (E7.encB (a :: x)).length by rw [E7.encB_cons, List.length_append, ← HA.out.2.2.2.2.1]; exact hsl)))
        clear htl hbig hsl
        by_cases hlt : i < hN a
        ·have hltz : (i : Int) < (hN a : Int) := by omega
         go_wp2
         go_ret
         exact ToldP.mk s k' true ou rfl ⟨HE.out.1, HQ.out.same, .inr ⟨rfl, HE.out.2.1, HE.out.2.2⟩⟩ HQ.out.fr
        ·have hltz : ¬ (i : Int) < (hN a : Int) := by omega
         go_wp2
         go_ret
         exact ToldP.mk s k' true ou rfl ⟨HE.out.1, HQ.out.same, .inr ⟨rfl, HE.out.2.1, HE.out.2.2⟩⟩ HQ.out.fr
theorem told_any (w0 : World) (b xb xo cap : Nat) (L : List Atom) (hL : Lst w0 b xb xo L) : ∀ d, ToldC w0 b xb xo cap L d := by
 have leafC : ∀ (d : Nat) (a : Atom), E7.right a = true → E7.leaf a = true → ∀ (w : World) (k : Nat) (r : List Atom) (out : Bool), Tl w b (.slice (some ⟨xb, xo, none⟩) L.length cap) k false out → Same w0 w → L.drop k = [a] ++ r →
   Calls Tryd.prog 84 #[.pointer (some ⟨b, 0, none⟩)] w (ToldP w0 w b (.slice (some ⟨xb, xo, none⟩) L.length cap) k [a] false out) := by
  intro d a h1 h2 w k r out ht hs hd
  have hn : hN a = 0 := by unfold hN; rw [if_pos h2]
  exact told_node w0 b xb xo cap L hL d a (fun h => by omega) w k [] r false out ht hs h1 (by rw [hn]; exact ⟨rfl, rfl⟩) hd
 intro d
 induction d with
 | zero =>
  intro w k x r o out ht hs hit hd
  obtain ⟨a, rfl, h1, h2, rfl⟩ := hit
  exact leafC 0 a h1 h2 w k r out ht hs hd
 | succ d ih =>
  intro w k x r o out ht hs hit hd
  rcases hit with ⟨a, rfl, h1, h2, rfl⟩ | ⟨a, t, rfl, h1, h2, h3⟩
  ·exact leafC (d + 1) a h1 h2 w k r out ht hs hd
  ·have hn : hN a = E7.count a := by unfold hN; rw [if_neg (by rw [h2]; simp)]
   exact told_node w0 b xb xo cap L hL d a (fun _ => ih) w k t r o out ht hs h1 (by rw [hn]; exact h3) hd
end Go.Proofs.YtddiabaagpmkgaaDoor

/-! The walk over the reference's Encode (layer 17). -/
namespace Go.Proofs.YtddiabaagpmkgaaDoor
open Go.RowKit Go.Px Go.Px.R7

/-- How long all texts are, so far. -/
def tot (l : List Atom) : Nat := (l.map (fun a => a.text.length)).sum
theorem tot_take (l : List Atom) (k : Nat) (hk : k < l.length) : tot (l.take (k + 1)) = tot (l.take k) + l[k].text.length := by
 unfold tot
 rw [List.take_succ_eq_append_getElem hk, List.map_append, List.sum_append]
 simp
theorem head_le9 (k n : Nat) (hn : n < 18446744073709551616) : (R7.headB k n).length ≤ 9 := by
 rw [E7.headB_size]
 have h2 := (E7.infoOf_lt n hn).2
 have h3 : 2 ^ R7.infoOf n ≤ 2 ^ 3 := Nat.pow_le_pow_right (by omega) h2
 split <;> omega
theorem tot_le (l : List Atom) : tot l ≤ (E7.encB l).length ∧ ((E7.Wf l) → (E7.encB l).length ≤ tot l + 9 * l.length) := by
 induction l with
 | nil => exact ⟨Nat.le_refl _, fun _ => Nat.le_refl _⟩
 | cons a t ih =>
  have e : tot (a :: t) = a.text.length + tot t := rfl
  rw [e, E7.encB_cons, List.length_append]
  have h1 := atomB_text a
  refine ⟨by omega, fun hw => ?_⟩
  have h2 := ih.2 (fun b hb => hw b (by simp [hb]))
  have h3 : (E7.atomB a).length ≤ a.text.length + 9 := by
   unfold E7.atomB
   rw [List.length_append]
   have h4 := hw a (by simp)
   have h5 : (if (a.kind == 2 || a.kind == 3) = true then a.text.length else a.num) < 18446744073709551616 := by split; exact h4.2; exact h4.1
   have h6 := head_le9 a.kind.toNat _ h5
   omega
  rw [List.length_cons]
  omega
theorem tot_part (l : List Atom) (k : Nat) : tot (l.take k) ≤ tot l := by
 conv => rhs; rw [← List.take_append_drop k l]
 unfold tot
 rw [List.map_append, List.sum_append]
 omega
theorem behind_pos {l : List Atom} {m : Nat} (h : E7.behind l [] 0 0 = (some l.length, m)) : 0 < l.length := by
 have := E7.behind_le l [] 0 0 _ _ h
 omega
set_option maxRecDepth 100000 in
set_option maxHeartbeats 8000000 in
theorem refencode_any (v : Value) (l : List Atom) (w : World) (h : Lies w 3 cAtom v l) (hw : ∀ a ∈ l, a.num < 18446744073709551616 ∧ a.text.length ≤ maxLen) :
  Calls Tryd.prog 64 #[v] w (Tells w (E7.encode l)) := by
 obtain ⟨va, vc, hv, hv1, hv2⟩ := h.slice
 subst hv
 have hvm : l.length ≤ 9223372036854775807 := by unfold maxLen at hv2; omega
 have hwf : E7.Wf l := fun a ha => ⟨(hw a ha).1, by have := (hw a ha).2; unfold maxLen at this; omega⟩
 have H := Px.hid (And.intro h (And.intro hw hwf))
 clear h hw hv2 hwf
 by_cases hmany : 4096 < l.length
 ·have hz : (4096 : Int) < (l.length : Int) := by omega
  have HR := Px.hid (encode_many hmany)
  clear hmany
  go_enter Tryd.func64, Tryd.ntmps64
  go_wp2
  go_ret2
  exact tells_of HR.out rfl (Same.refl w)
 ·have hz : ¬ (4096 : Int) < (l.length : Int) := by omega
  have hl : l.length ≤ 4096 := by omega
  clear hmany
  go_enter Tryd.func64, Tryd.ntmps64
  go_wp2
  go_loopg [4] (l.length + 1) (fun gk i wr => ∃ k : Nat, gk + k = l.length + 1 ∧ k ≤ l.length ∧ i = .int .i64 (k : Nat) ∧ Hid (Same w wr ∧ ∀ j (hj : j < l.length), j < k → E7.right l[j] = true))
  case atStart => exact ⟨0, rfl, Nat.zero_le _, rfl, Px.hid ⟨Same.refl w, fun j hj h => absurd h (Nat.not_lt_zero j)⟩⟩
  case round =>
   obtain ⟨k, hgk, hk, rfl, HS⟩ := hrel
   have HG := Px.hid hgk
   clear hgk
   by_cases hlt : k < l.length
   ·have hlz : (k : Int) < (l.length : Int) := by omega
    obtain ⟨g', rfl⟩ : ∃ g', gk = g' + 1 := ⟨gk - 1, by have := HG.out; omega⟩
    obtain ⟨xb, xo, xc, hve, hxb, hcx⟩ := (Lies.same H.out.1 HS.out.1).cell k l[k] (by simp [hlt])
    simp only [Value.slice.injEq, true_and] at hve
    obtain ⟨rfl, rfl⟩ := hve
    have x0 := hcx 0 _ rfl
    have x1 := hcx 1 _ rfl
    have x2 := hcx 2 _ rfl
    rw [← Nat.add_assoc] at x0 x1 x2
    rw [Nat.add_zero] at x0
    obtain ⟨x, hx⟩ : ∃ x, x = l[k] := ⟨_, rfl⟩
    rw [← hx] at x0 x1 x2
    have hmem : x ∈ l := by rw [hx]; exact List.getElem_mem _
    have hrr := rright_any x wr (H.out.2.1 x hmem).2
    unfold atomV at hrr
    have HRR := Px.hid (And.intro hrr (And.intro hx hmem))
    clear hcx hx hmem hrr
    cases hr : E7.right x
    ·have HR := Px.hid (E7.enc_right hl HRR.out.2.2 hr H.out.2.2)
     rw [hr] at HRR
     clear hr
     go_wp2_with fail
     refine HRR.out.1.mono ?_
     rintro e w1 ⟨rfl, hs1⟩
     have HS1 := Px.hid (HS.out.1.trans hs1)
     clear hs1
     go_wp2
     go_ret2
     exact tells_of HR.out rfl HS1.out
    ·have HR := Px.hid hr
     rw [hr] at HRR
     clear hr
     go_wp2_with fail
     refine HRR.out.1.mono ?_
     rintro e w1 ⟨rfl, hs1⟩
     have HS1 := Px.hid (HS.out.1.trans hs1)
     clear hs1
     go_wp2
     go_roundg g'
     case measure => omega
     case rel =>
      refine ⟨k + 1, by have := HG.out; omega, by omega, by go_num, Px.hid ⟨HS1.out, fun j hj hjk => ?_⟩⟩
      by_cases hjk2 : j < k
      ·exact HS.out.2 j hj hjk2
      ·obtain rfl : j = k := by omega
       rw [← HRR.out.2.1]
       exact HR.out
   ·have hlz : ¬ (k : Int) < (l.length : Int) := by omega
    have HALL := Px.hid (show ∀ a ∈ l, E7.right a = true from fun a ha => by
     obtain ⟨j, hj, rfl⟩ := List.getElem_of_mem ha
     exact HS.out.2 j hj (by omega))
    have HB := Px.hid (behind_any _ l wr (Lies.same H.out.1 HS.out.1) hl)
    clear hk hlt HG
    obtain ⟨eb, m, hem⟩ : ∃ eb m, E7.behind l [] 0 0 = (eb, m) := ⟨_, _, rfl⟩
    rw [hem] at HB
    by_cases hend : eb = some l.length
    ·subst hend
     have hpos := behind_pos hem
     have HON := Px.hid (E7.enc_on hl H.out.2.2 HALL.out hem)
     clear hem
     unfold behV at HB
     have hne0 : ((l.length : Int) == 0) = false := beq_eq_false_iff_ne.2 (by omega)
     by_cases h32 : 32 < m
     ·have h32z : (32 : Int) < (m : Int) := by omega
      have HR := Px.hid (HON.out.1 h32)
      clear h32 hpos
      go_wp2_with fail
      refine HB.out.mono ?_
      rintro e w2 ⟨rfl, hs2⟩
      have HS2 := Px.hid (HS.out.1.trans hs2)
      clear hs2
      go_wp2
      go_ret2
      exact tells_of HR.out rfl HS2.out
     ·have h32z : ¬ (32 : Int) < (m : Int) := by omega
      have HON2 := Px.hid (HON.out.2 (by omega))
      clear h32 HON
      go_wp2_with fail
      refine HB.out.mono ?_
      rintro e w2 ⟨rfl, hs2⟩
      have HS2 := Px.hid (HS.out.1.trans hs2)
      clear hs2
      go_wp2
      go_loopg [7, 8] (l.length + 1) (fun gk t7 i wr => ∃ k : Nat, gk + k = l.length + 1 ∧ k ≤ l.length ∧ t7 = .int .i64 (tot (l.take k) : Nat) ∧ i = .int .i64 (k : Nat) ∧ Hid (Same w wr ∧ tot (l.take k) ≤ 524288))
      case atStart => exact ⟨0, rfl, Nat.zero_le _, rfl, rfl, Px.hid ⟨HS2.out, by simp [tot]⟩⟩
      case round =>
       obtain ⟨k, hgk, hk, rfl, rfl, HT⟩ := hrel
       have HG := Px.hid hgk
       clear hgk
       have htb := HT.out.2
       have hparts := tot_part l k
       have hte := (tot_le l).1
       have HTK := Px.hid (fun hk => tot_take l k hk)
       obtain ⟨tk, htk⟩ : ∃ tk, tk = tot (l.take k) := ⟨_, rfl⟩
       rw [← htk] at HTK htb hparts ⊢
       have HTKE := Px.hid htk
       clear htk
       by_cases hlt : k < l.length
       ·have hlz : (k : Int) < (l.length : Int) := by omega
        by_cases hbig : 262144 < tk
        ·have hbz : ¬ (tk : Int) ≤ 262144 := by omega
         have hbz2 : (262144 : Int) < (tk : Int) := by omega
         obtain ⟨o, _, ho, _⟩ := HON2.out
         have HR := Px.hid (ho (by omega))
         clear ho hbig hparts hte
         go_wp2
         go_ret2
         exact tells_of HR.out rfl HT.out.1
        ·have hbz : (tk : Int) ≤ 262144 := by omega
         obtain ⟨g', rfl⟩ : ∃ g', gk = g' + 1 := ⟨gk - 1, by have := HG.out; omega⟩
         obtain ⟨xb, xo, xc, hve, hxb, hcx⟩ := (Lies.same H.out.1 HT.out.1).cell k l[k] (by simp [hlt])
         simp only [Value.slice.injEq, true_and] at hve
         obtain ⟨rfl, rfl⟩ := hve
         have x2 := hcx 2 _ rfl
         rw [← Nat.add_assoc] at x2
         have hmem : l[k] ∈ l := List.getElem_mem _
         have hxl := H.out.2.1 l[k] hmem
         have hxe := encB_mem hmem
         have hsum := HTK.out hlt
         obtain ⟨x, hx⟩ : ∃ x, x = l[k] := ⟨_, rfl⟩
         rw [← hx] at x2 hxl hxe hsum
         have hxl2 := hxl.2
         unfold maxLen at hxl2
         have hsz : (ByteArray.mk x.text.toArray).size = x.text.length := size_S x.text
         have HSUM := Px.hid hsum
         clear hcx hx hmem hsum hxl
         by_cases hxb2 : 262144 < x.text.length
         ·have hbz2 : (262144 : Int) < (x.text.length : Int) := by omega
          obtain ⟨o, _, ho, _⟩ := HON2.out
          have HR := Px.hid (ho (by omega))
          clear ho hbig hparts hte hxe hxb2
          go_wp2
          go_ret2
          exact tells_of HR.out rfl HT.out.1
         ·have hbz2 : ¬ (262144 : Int) < (x.text.length : Int) := by omega
          clear hbig hparts hte hxe
          go_wp2
          go_roundg g'
          case measure => omega
          case rel => exact ⟨k + 1, by have := HG.out; omega, by omega, by rw [HSUM.out]; go_num, by go_num, Px.hid ⟨HT.out.1, by rw [HSUM.out]; omega⟩⟩
       ·have hlz : ¬ (k : Int) < (l.length : Int) := by omega
        have HTE := Px.hid (show tk = tot l by rw [HTKE.out, show k = l.length by omega, List.take_length])
        by_cases hbig : 262144 < tk
        ·have hbz2 : (262144 : Int) < (tk : Int) := by omega
         obtain ⟨o, _, ho, _⟩ := HON2.out
         have HR := Px.hid (ho (by omega))
         clear ho hbig hparts hte
         go_wp2
         go_ret2
         exact tells_of HR.out rfl HT.out.1
        ·have hbz2 : ¬ (262144 : Int) < (tk : Int) := by omega
         have HEB := Px.hid (show (E7.encB l).length ≤ 1000000 by have := (tot_le l).2 H.out.2.2; have := HTE.out; omega)
         obtain ⟨o, hit, ho1, ho2⟩ := HON2.out
         obtain ⟨xb, xo, xc, hve, hxb, _⟩ := (Lies.same H.out.1 HT.out.1).cell 0 l[0] (by simp [hpos])
         simp only [Value.slice.injEq, true_and] at hve
         obtain ⟨rfl, rfl⟩ := hve
         have hlst : Lst wr wr.heap.size xb xo l := ⟨fun j x hj i u hu => by
          obtain ⟨b', o', c', hve, _, hc⟩ := (Lies.same H.out.1 HT.out.1).cell j x hj
          simp only [Value.slice.injEq, Option.some.injEq, Addr.mk.injEq, and_true, true_and] at hve
          obtain ⟨⟨rfl, rfl⟩, _⟩ := hve
          exact hc i u hu, hxb, Nat.le_refl _, H.out.2.2, hl, HEB.out⟩
         have HTO := Px.hid (And.intro (told_any wr wr.heap.size xb xo vc l hlst 32) (And.intro hit (And.intro ho1 ho2)))
         clear hlst hit ho1 ho2 hbig hparts hte htb
         go_wp2_with fail
         have HBX := Px.hid (show Tl (wr.alloc (.cells #[.slice (some ⟨xb, xo, none⟩) l.length vc, .int .i64 0, .bool false, .bool false] 154 (0, 0))) wr.heap.size (.slice (some ⟨xb, xo, none⟩) l.length vc) 0 false false from ⟨heap_alloc_new wr _⟩)
         refine (HTO.out.1 _ 0 l [] o false HBX.out ((Same.refl wr).alloc _) HTO.out.2.1 (by simp)).mono ?_
         rintro e w5 ⟨s, k', lg, ou, rfl, htold, _⟩
         have HQ := Px.hid htold
         have q2 := htold.tl.cells.2.2.1
         have q3 := htold.tl.cells.2.2.2
         have hsz : (ByteArray.mk s.toArray).size = s.length := size_S s
         clear htold
         have HS5 := Px.hid (HT.out.1.trans HQ.out.same)
         cases lg
         ·have hor : s = E7.encB l ∧ ou = o := by
           rcases HQ.out.or with ⟨_, e, _, e2⟩ | ⟨e, _⟩
           ·exact ⟨e, by rw [e2]; rfl⟩
           ·cases e
          by_cases hlong : 262144 < s.length
          ·have hlz2 : (262144 : Int) < (s.length : Int) := by omega
           have HR := Px.hid (HTO.out.2.2.1 (by rw [← hor.1]; exact hlong))
           clear hor hlong
           go_wp2
           go_ret2
           exact tells_of HR.out rfl HS5.out
          ·have hlz2 : ¬ (262144 : Int) < (s.length : Int) := by omega
           have hR := HTO.out.2.2.2 (by rw [← hor.1]; omega)
           rw [← hor.1, ← hor.2] at hR
           have HR := Px.hid hR
           clear hor hlong hR
           cases ou
           ·have HR := Px.hid (show E7.encode l = (s, 0) from HR.out)
            go_wp2
            go_ret2
            exact tells_of HR.out rfl HS5.out
           ·have HR := Px.hid (show E7.encode l = ([], 9) from HR.out)
            go_wp2
            go_ret2
            exact tells_of HR.out rfl HS5.out
         ·have HR := Px.hid (HTO.out.2.2.1 (by
           rcases HQ.out.or with ⟨e, _⟩ | ⟨_, e, _⟩
           ·cases e
           ·exact e))
          go_wp2
          go_ret2
          exact tells_of HR.out rfl HS5.out
    ·have HR := Px.hid (E7.enc_behind hl H.out.2.2 (fun m' h => hend (by rw [hem] at h; exact congrArg Prod.fst h)))
     unfold behV at HB
     have HEND := Px.hid hend
     clear hem hend
     cases eb with
     | none =>
      go_wp2_with fail
      refine HB.out.mono ?_
      rintro e w2 ⟨rfl, hs2⟩
      have HS2 := Px.hid (HS.out.1.trans hs2)
      clear hs2
      have hne : ((-1 : Int) != (l.length : Int)) = true := bne_iff_ne.2 (by omega)
      go_wp2
      go_ret2
      exact tells_of HR.out rfl HS2.out
     | some q =>
      go_wp2_with fail
      refine HB.out.mono ?_
      rintro e w2 ⟨rfl, hs2⟩
      have HS2 := Px.hid (HS.out.1.trans hs2)
      clear hs2
      have hne : ((q : Int) != (l.length : Int)) = true := by
       have := HEND.out
       simp only [Option.some.injEq] at this
       simp; omega
      go_wp2
      go_ret2
      exact tells_of HR.out rfl HS2.out
end Go.Proofs.YtddiabaagpmkgaaDoor

/-! The walks over the statements' copied and the reference's Same, of lists that lie anywhere (layer 17). -/
namespace Go.Px
open Go.RowKit
/-- An append onto an empty slice of the call's own. -/
theorem run_append_src0 (P : Program) (w : World) (t tx ty : TypeId) (e : TypeId) (i : TypeInfo) (z : Value) (size bytes : Nat) (ht : P.underlying t = some (.slice e)) (hi : P.info? e = some i) (hz : i.zero = some z)
  (hsize : i.size = size) (hby : i.bytes = bytes) (hzs : z.cells.size = size) (b : Nat) (hb : w.heap[b]? = some (.cells #[] e (0, 0)))
  (x : Value) (m : Nat) (news : List Value) (hs : Src P size tx x m news w) (h63 : m ≤ maxLen) (hbytes : m * bytes ≤ 140737488355328) :
  ∃ g cap w', (Builtin.append_ #[t, tx] ty #[.slice (some ⟨b, 0, none⟩) 0 0, x]).run P w = .ok (.slice (some ⟨g, 0, none⟩) m cap) w' ∧
   w'.ownsRow 0 e size (.slice (some ⟨g, 0, none⟩) m cap) m news ∧ w.grownBy w' none ∧ (g = b ∨ g = w.heap.size) := by
 subst hsize
 subst hby
 by_cases hm : m = 0
 ·subst hm
  have hnl : news = [] := List.eq_nil_of_length_eq_zero (by rw [hs.newsLen]; simp)
  subst hnl
  have hr := run_append_room_src (P := P) w t tx ty e i ht hi b 0 0 0 x 0 [] hs (Nat.le_refl _) (fun j hj => absurd hj (Nat.not_lt_zero j)) (fun j hj => absurd hj (Nat.not_lt_zero j))
  exact ⟨b, 0, w, hr, ⟨by simp, .inr ⟨b, 0, #[], rfl, Nat.zero_le _, hb, Nat.le_refl _, Nat.zero_le _, by simp, by simp⟩⟩, ⟨rfl, rfl, rfl, Nat.le_refl _, fun _ _ _ => rfl⟩, .inl rfl⟩
 ·have hr := run_append_grow_src (P := P) w t tx ty e i z ht hi hz (some ⟨b, 0, none⟩) 0 0 [] (run_firstCells_some w.drew i.size 0 ⟨b, 0, none⟩ 0 0 [] (by simp) (fun j u hu => by simp at hu)) x m news hs (by omega) (by unfold maxLen at h63; omega) (growslice_fits (by omega) (by rw [Nat.zero_add]; exact hbytes))
  simp only [Nat.zero_add, List.nil_append] at hr
  refine ⟨w.heap.size, _, _, hr, ⟨hs.newsLen, .inr ⟨w.heap.size, _, _, rfl, Nat.zero_le _, heap_alloc_new w.drew _, grownCap_ge w m 0 e, grownCap_le_maxLen w m 0 e h63, ?_, ?_⟩⟩, ⟨rfl, rfl, rfl, by simp, fun k hk _ => heap_alloc_old w.drew _ hk⟩, .inr rfl⟩
  ·have hge := grownCap_ge w m 0 e
   simp only [Array.size_append, List.size_toArray, size_zeroCells, hzs, hs.newsLen, ← Nat.add_mul]
   congr 1
   omega
  ·simp only [Array.toList_append]
   rw [← hs.newsLen]
   exact List.take_left
theorem wp_append_src0 {P : Program} {w : World} {o : Oper} {a : Act} {K : Act → World → Prop} {Q : Exit → Act → World → Prop} (s x : Operand) (t tx : TypeId)
  (ho : o.op = .call { callee := .builtin .append, args := #[s, x], argTypes := #[t, tx] })
  (e : TypeId) (i : TypeInfo) (z : Value) (size bytes : Nat) (ht : P.underlying t = some (.slice e)) (hi : P.info? e = some i) (hz : i.zero = some z)
  (hsize : i.size = size) (hby : i.bytes = bytes) (hzs : z.cells.size = size) (b : Nat) (hs : a.eval s = .slice (some ⟨b, 0, none⟩) 0 0) (hb : w.heap[b]? = some (.cells #[] e (0, 0)))
  (vx : Value) (m : Nat) (news : List Value) (hx : a.eval x = vx) (hsrc : Src P size tx vx m news w) (h63 : m ≤ maxLen) (hbytes : m * bytes ≤ 140737488355328)
  (h : ∀ g cap w', w'.ownsRow 0 e size (.slice (some ⟨g, 0, none⟩) m cap) m news → w.grownBy w' none → (g = b ∨ g = w.heap.size) → K (a.put o.dst (.slice (some ⟨g, 0, none⟩) m cap)) w') : o.wp P a w K Q := by
 obtain ⟨g, cap, w', hr, h2, h3, h4⟩ := run_append_src0 P w t tx o.type e i z size bytes ht hi hz hsize hby hzs b hb vx m news hsrc h63 hbytes
 unfold Oper.wp execOp
 simp only [ho, resolve, invoke, builtin, Sem.run_bind, Sem.run_pure, Result.andThen_ok, List.map_toArray, List.map_cons, List.map_nil, hs, hx, hr]
 exact h g cap w' h2 h3 h4
theorem wpList_append_src0 {P : Program} {w : World} {ops : Array Oper} {rest : List Oper} {o : Oper} {a : Act} {Q : Exit → Act → World → Prop} (hgd : o.guard = none) (s x : Operand) (t tx : TypeId)
  (ho : o.op = .call { callee := .builtin .append, args := #[s, x], argTypes := #[t, tx] })
  (e : TypeId) (i : TypeInfo) (z : Value) (size bytes : Nat) (ht : P.underlying t = some (.slice e)) (hi : P.info? e = some i) (hz : i.zero = some z)
  (hsize : i.size = size) (hby : i.bytes = bytes) (hzs : z.cells.size = size) (b : Nat) (hs : a.eval s = .slice (some ⟨b, 0, none⟩) 0 0) (hb : w.heap[b]? = some (.cells #[] e (0, 0)))
  (vx : Value) (m : Nat) (news : List Value) (hx : a.eval x = vx) (hsrc : Src P size tx vx m news w) (h63 : m ≤ maxLen) (hbytes : m * bytes ≤ 140737488355328)
  (h : ∀ g cap w', w'.ownsRow 0 e size (.slice (some ⟨g, 0, none⟩) m cap) m news → w.grownBy w' none → (g = b ∨ g = w.heap.size) → wpList P ops Q rest (a.put o.dst (.slice (some ⟨g, 0, none⟩) m cap)) w') : wpList P ops Q (o :: rest) a w :=
 wpList_plain hgd fun _ hK => wp_append_src0 s x t tx ho e i z size bytes ht hi hz hsize hby hzs b hs hb vx m news hx hsrc h63 hbytes fun g cap w' h2 h3 h4 => hK _ _ (h g cap w' h2 h3 h4)
end Go.Px
namespace Go.Proofs.YtddiabaagpmkgaaDoor
open Go.RowKit Go.Px Go.Px.R7

end Go.Proofs.YtddiabaagpmkgaaDoor
