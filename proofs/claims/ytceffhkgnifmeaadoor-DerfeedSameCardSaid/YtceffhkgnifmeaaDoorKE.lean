/-
  Several texts in one: The walk over the program's der.head; numbers of the call's own as a stack. The walk over the program's der.shape. The walk over the program's der.sizes. What the walk over the program's der.Encode rests on: bytes that grow, appends of strings, the bytes told so far; the walk over ordered. The walk over the program's der.Encode. The walks over the statements of layer 15: wakes, DerReads, DerOneWay.
-/
import Derived.Test.YtceffhkgnifmeaaDoorKJ
import Derived.Test.YtceffhkgnifmeaaDoorAp
import Derived.Deep.LoopGhost
import Derived.Deep.CutBlock
import Derived.Laws.OwnMore
/-! The walk over the program's der.head; numbers of the call's own as a stack. -/
namespace Go.Proofs.YtceffhkgnifmeaaDoor
open Go.RowKit Go.Px

theorem dg_step (m : Nat) (hm : m ≤ 262144) (h0 : 0 < m) : E5.dgN 8 m = 1 + E5.dgN 8 (m / 256) := by
  conv => lhs; unfold E5.dgN
  rw [if_neg (by omega), E5.dgN_more 7 (m / 256) (by omega)]
theorem headN_eq (n : Nat) : E5.headN n = if n < 128 then 2 else 2 + E5.dgN 8 n := by
  unfold E5.headN
  rw [E5.lenB_length]
  split <;> omega
theorem headN_le (n : Nat) : E5.headN n ≤ 10 := by
  unfold E5.headN
  have := E5.lenB_le n
  omega
set_option maxHeartbeats 1000000 in
theorem dhead_any (n : Nat) (hn : n ≤ 262144) (w : World) : Calls Tryd.prog 35 #[.int .i64 (n : Nat)] w fun r w' => r = .returned (.int .i64 (E5.headN n : Nat)) ∧ w = w' := by
  by_cases h1 : n < 128
  · have HV := Px.hid (show E5.headN n = 2 by rw [headN_eq, if_pos h1])
    have z : ¬ (128 : Int) ≤ n := by omega
    clear h1
    go_enter Tryd.func35, Tryd.ntmps35
    go_wp2
    go_ret
    rw [HV.out]
    exact ⟨rfl, rfl⟩
  · have HV := Px.hid (show E5.headN n = 2 + E5.dgN 8 n by rw [headN_eq, if_neg h1])
    have z : (128 : Int) ≤ n := by omega
    clear h1
    go_enter Tryd.func35, Tryd.ntmps35
    go_wp2
    go_loop [0, 3] (fun nn oo => ∃ m o : Nat, m ≤ 262144 ∧ o ≤ 100 ∧ nn = .int .i64 (m : Nat) ∧ oo = .int .i64 (o : Nat) ∧ Hid (o + E5.dgN 8 m = 2 + E5.dgN 8 n)) (fun nn _ => (intOf nn).toNat)
    case atStart => exact ⟨n, 2, hn, by omega, rfl, rfl, Px.hid rfl⟩
    case round =>
      obtain ⟨m, o, hm, ho, rfl, rfl, HR⟩ := hrel
      by_cases h0 : 0 < m
      · have hz : (0 : Int) < m := by omega
        have hst := dg_step m hm h0
        have hle := E5.dgN_le 8 n
        have hle2 := E5.dgN_le 8 m
        have HE := Px.hid (show o + 1 + E5.dgN 8 (m / 256) = 2 + E5.dgN 8 n ∧ o + 1 ≤ 100 by have := HR.out; omega)
        clear hst hle hle2
        go_wp2
        go_round
        case rel => exact ⟨m / 256, o + 1, by omega, HE.out.2, by go_num, by go_num, Px.hid HE.out.1⟩
        case measure => simp [intOf]; omega
      · have hz : ¬ (0 : Int) < m := by omega
        have HE := Px.hid (show E5.headN n = o by
          have h1 := HR.out
          have : m = 0 := by omega
          rw [this] at h1
          rw [HV.out]
          have : E5.dgN 8 0 = 0 := rfl
          omega)
        clear h0
        go_wp2
        go_ret
        rw [HE.out]
        exact ⟨rfl, rfl⟩

/-! Numbers of the call's own -/
theorem Lies.same {α : Type} {w w' : World} {sz : Nat} {c : α → List Value} {v : Value} {l : List α} (h : Lies w sz c v l) (hs : Same w w') : Lies w' sz c v l :=
  ⟨h.slice, fun j x hj => by
    obtain ⟨b, off, cap, h1, h2, h3⟩ := h.cell j x hj
    exact ⟨b, off, cap, h1, Nat.lt_of_lt_of_le h2 hs.size, fun i u hu => (hs.cell (p := ⟨b, off + (j * sz + i), none⟩) h2 (fun x => x)).trans (h3 i u hu)⟩⟩
def cNum (n : Nat) : List Value := [.int .i64 (n : Nat)]
theorem cNum_len (n : Nat) : (cNum n).length = 1 := rfl
theorem Tryd.infoI64 : (Tryd.prog.info? 3).map (fun i => (i.zero, i.size, i.bytes)) = some (some (.int .i64 0), 1, 8) := by kernel_rfl
/-- A list of numbers of the call's own, the last one first. -/
structure Nums (w wr : World) (v : Value) (left : List Nat) : Prop where
  own : Owns wr 3 1 cNum v left.reverse
  same : Same w wr
  new : ∀ g, v.ownBlock = some g → w.heap.size ≤ g
theorem Nums.sm {w wr w2 : World} {v : Value} {left : List Nat} (h : Nums w wr v left) (hs : Same wr w2) : Nums w w2 v left := ⟨Owns.same h.own hs, h.same.trans hs, h.new⟩
theorem Nums.top {w wr : World} {v : Value} {c : Nat} {rest : List Nat} (h : Nums w wr v (c :: rest)) : ∃ g cap, v = .slice (some ⟨g, 0, none⟩) (rest.length + 1) cap ∧ rest.length + 1 ≤ cap ∧ cap ≤ maxLen ∧ wr.cell? ⟨g, rest.length, none⟩ = some (.int .i64 (c : Nat)) ∧ wr.frozen? ⟨g, rest.length, none⟩ = false ∧ g < wr.heap.size := by
  have h' := h.own
  rw [List.reverse_cons] at h'
  obtain ⟨g, cap, h1, h2, h3, h4, h5⟩ := h'.last cNum_len
  rw [List.length_reverse] at h1 h2 h4
  have := h4 0 _ rfl
  rw [Nat.add_zero, Nat.mul_one] at this
  exact ⟨g, cap, h1, h2, h3, this, h5 _, h'.lt (by rw [h1]; rfl)⟩
theorem Nums.set {w wr : World} {c : Nat} {rest : List Nat} {g cap : Nat} (h : Nums w wr (.slice (some ⟨g, 0, none⟩) (rest.length + 1) cap) (c :: rest)) (n : Nat) :
    Nums w (wr.setCell ⟨g, rest.length, none⟩ (.int .i64 (n : Nat))) (.slice (some ⟨g, 0, none⟩) (rest.length + 1) cap) (n :: rest) := by
  have h' := h.own
  rw [List.reverse_cons, ← @List.length_reverse _ rest] at h'
  have k := h'.setLast (b := n) cNum_len 0 (.int .i64 (n : Nat)) rfl
  rw [List.length_reverse, Nat.mul_one, Nat.add_zero] at k
  refine ⟨by rw [List.reverse_cons]; exact k, h.same.setCell (p := ⟨g, rest.length, none⟩) (.inr (h.new g rfl)) _, h.new⟩
theorem Nums.pop {w wr : World} {c : Nat} {rest : List Nat} {g cap : Nat} (h : Nums w wr (.slice (some ⟨g, 0, none⟩) (rest.length + 1) cap) (c :: rest)) : Nums w wr (.slice (some ⟨g, 0, none⟩) rest.length cap) rest := by
  have h' := h.own
  rw [List.reverse_cons, ← @List.length_reverse _ rest] at h'
  have k := h'.pop cNum_len
  rw [List.length_reverse] at k
  exact ⟨k, h.same, h.new⟩
theorem Nums.len {w wr : World} {v : Value} {left : List Nat} (h : Nums w wr v left) : ∃ a cap, v = .slice a left.length cap := by
  obtain ⟨a, cap, h1, _⟩ := h.own.len
  rw [List.length_reverse] at h1
  exact ⟨a, cap, h1⟩
theorem Nums.push {w wr w1 : World} {v : Value} {left : List Nat} {n g cap : Nat} (h : Nums w wr v left)
    (hown : w1.ownsRow 0 3 1 (.slice (some ⟨g, 0, none⟩) (left.length + 1) cap) (left.length + 1) (left.reverse.flatMap cNum ++ cNum n)) (hg : wr.grownBy w1 v.ownBlock) (hat : v.ownBlock = some g ∨ wr.heap.size ≤ g) :
    Nums w w1 (.slice (some ⟨g, 0, none⟩) (left.length + 1) cap) (n :: left) := by
  have hrl : left.reverse.length = left.length := List.length_reverse
  have k := owns_append (l := left.reverse) (c := cNum) (a := n) (w := w1) (T := 3) (sz := 1) (g := g) (cap := cap) (by rw [hrl]; exact hown)
  rw [hrl] at k
  refine ⟨by rw [List.reverse_cons]; exact k, Fr.grown h.same hg (fun k e => .inr (h.new k e)), fun g' hg' => ?_⟩
  simp only [Value.ownBlock, Option.some.injEq] at hg'
  subst hg'
  rcases hat with e | e
  · exact h.new _ e
  · exact Nat.le_trans h.same.size e
theorem Nums.row {w wr : World} {v : Value} {left : List Nat} (h : Nums w wr v left) : wr.ownsRow 0 3 1 v left.length (left.reverse.flatMap cNum) := by
  have := h.own
  unfold Owns at this
  rw [List.length_reverse] at this
  exact this
end Go.Proofs.YtceffhkgnifmeaaDoor

/-! The walk over the program's der.shape. -/
namespace Go.Proofs.YtceffhkgnifmeaaDoor
open Go.RowKit Go.Px Go.Px.R5

/-- What shape tells. -/
def shapeV (l : List Px.Node) : Nat × Bool :=
  match E5.shape true l [] 0 with
  | none => (0, false)
  | some (m, left) => (m, !l.isEmpty && left.isEmpty)
/-- What holds at the head of shape's loop. -/
structure Shp (w wr : World) (v : Value) (l : List Px.Node) (k most : Nat) (left : List Nat) : Prop where
  nums : Nums w wr v left
  eq : E5.shape true l [] 0 = E5.shape (k == 0) (l.drop k) left most
  len : left.length ≤ k
  most : most ≤ k
  small : ∀ c ∈ left, (c : Int) ≤ 9223372036854775807
  top : left = [] ∨ ∃ n r, left = (n + 1) :: r
/-- The two halves of what is wrong with one. -/
def wrongT (a : Px.Node) : Bool := !(tagE a.tag.toNat == 0 && decide (-1 ≤ a.kids) && (inner a.tag.toNat == !E5.leaf a))
def wrongB (a : Px.Node) : Bool := !(if E5.leaf a then R5.body a.tag.toNat a.body else a.body.isEmpty)
theorem right_wrong (a : Px.Node) : E5.right a = (!wrongT a && !wrongB a) := by
  unfold E5.right wrongT wrongB
  rw [Bool.not_not, Bool.not_not]
def left2 (a : Px.Node) (left : List Nat) : List Nat := if E5.leaf a then E5.dec left else E5.count a :: E5.dec left
def most2 (a : Px.Node) (left : List Nat) (most : Nat) : Nat := if E5.leaf a then most else max most (left.length + 1)
theorem shape_step {l : List Px.Node} {k : Nat} {left : List Nat} {most : Nat} (hk : k < l.length) (hl : left = [] → k = 0) (hr : E5.right l[k] = true) :
    E5.shape (k == 0) (l.drop k) left most = E5.shape false (l.drop (k + 1)) (E5.pops (left2 l[k] left)) (most2 l[k] left most) := by
  rw [List.drop_eq_getElem_cons hk, E5.shape, if_neg ?_]
  · unfold left2 most2
    cases E5.leaf l[k] <;> rfl
  · rw [hr]
    cases left with
    | nil => rw [hl rfl]; simp
    | cons a t => simp
theorem shape_stop {l : List Px.Node} {k : Nat} {left : List Nat} {most : Nat} (hk : k < l.length) (h : (left = [] ∧ 0 < k) ∨ E5.right l[k] = false) : E5.shape (k == 0) (l.drop k) left most = none := by
  rw [List.drop_eq_getElem_cons hk, E5.shape, if_pos ?_]
  rcases h with ⟨rfl, h0⟩ | h
  · simp; omega
  · simp [h]
theorem strEmptyA (l : List Px.Node) : (l.isEmpty = true ∧ l.length = 0) ∨ (l.isEmpty = false ∧ 0 < l.length) := by
  cases l with
  | nil => exact .inl ⟨rfl, rfl⟩
  | cons a t => exact .inr ⟨rfl, by simp⟩
theorem strEmptyN (l : List Nat) : (l.isEmpty = true ∧ l.length = 0) ∨ (l.isEmpty = false ∧ 0 < l.length) := by
  cases l with
  | nil => exact .inl ⟨rfl, rfl⟩
  | cons a t => exact .inr ⟨rfl, by simp⟩
/-- The ways of the first half. -/
theorem wrongT_ways (a : Px.Node) : (∃ te, te = tagE a.tag.toNat ∧ (te == 0) = false ∧ wrongT a = true) ∨ (tagE a.tag.toNat = 0 ∧ a.kids < -1 ∧ wrongT a = true) ∨
    (tagE a.tag.toNat = 0 ∧ ¬ a.kids < -1 ∧ ((inner a.tag.toNat = true ∧ 0 ≤ a.kids ∧ wrongT a = false) ∨ (inner a.tag.toNat = true ∧ ¬ 0 ≤ a.kids ∧ wrongT a = true) ∨ (inner a.tag.toNat = false ∧ 0 ≤ a.kids ∧ wrongT a = true) ∨ (inner a.tag.toNat = false ∧ ¬ 0 ≤ a.kids ∧ wrongT a = false))) := by
  unfold wrongT
  by_cases h1 : tagE a.tag.toNat = 0
  · rw [show (tagE a.tag.toNat == 0) = true from beq_iff_eq.2 h1, Bool.true_and]
    by_cases h2 : a.kids < -1
    · rw [decide_eq_false (by omega)]
      exact .inr (.inl ⟨h1, h2, rfl⟩)
    · rw [decide_eq_true (show -1 ≤ a.kids by omega), Bool.true_and]
      refine .inr (.inr ⟨h1, h2, ?_⟩)
      by_cases h3 : 0 ≤ a.kids
      · have hl : E5.leaf a = false := decide_eq_false (by omega)
        rw [hl]
        cases inner a.tag.toNat
        · exact .inr (.inr (.inl ⟨rfl, h3, rfl⟩))
        · exact .inl ⟨rfl, h3, rfl⟩
      · have hl : E5.leaf a = true := decide_eq_true (by omega)
        rw [hl]
        cases inner a.tag.toNat
        · exact .inr (.inr (.inr ⟨rfl, h3, rfl⟩))
        · exact .inr (.inl ⟨rfl, h3, rfl⟩)
  · exact .inl ⟨_, rfl, beq_eq_false_iff_ne.2 h1, by rw [show (tagE a.tag.toNat == 0) = false from beq_eq_false_iff_ne.2 h1]; rfl⟩
set_option maxRecDepth 100000 in
set_option maxHeartbeats 8000000 in
theorem dshape_any (v : Value) (l : List Px.Node) (w : World) (h : Lies w 3 cNode v l) (hl : l.length ≤ 4096) (hw : ∀ a ∈ l, -9223372036854775808 ≤ a.kids ∧ a.kids ≤ 9223372036854775807 ∧ a.body.length ≤ 140737488355327) (hT : Tabs w) :
    Calls Tryd.prog 33 #[v] w fun e w' => e = .returned (.tuple #[.int .i64 ((shapeV l).1 : Nat), .bool (shapeV l).2]) ∧ Same w w' := by
  obtain ⟨va, vc, hv, hv1, hv2⟩ := h.slice
  subst hv
  have H := Px.hid (And.intro h (And.intro hw hT))
  clear h hw hT
  obtain ⟨i0, hi0, hz0, hz1, hz2⟩ := info_parts Tryd.infoI64
  go_enter Tryd.func33, Tryd.ntmps33
  go_wp2
  go_loopg [4, 5, 12] (l.length + 1) (fun gk v4 t5 i wr => ∃ (k most : Nat) (left : List Nat), gk + k = l.length + 1 ∧ k ≤ l.length ∧ i = .int .i64 (k : Nat) ∧ t5 = .int .i64 (most : Nat) ∧ Hid (Shp w wr v4 l k most left))
  case atStart => exact ⟨0, 0, [], rfl, Nat.zero_le _, rfl, rfl, Px.hid ⟨⟨owns_nil _ _ _ _, Same.refl w, nofun⟩, by rw [List.drop_zero]; rfl, Nat.le_refl _, Nat.le_refl _, nofun, .inl rfl⟩⟩
  case round =>
    obtain ⟨k, most, left, hgk, hk, rfl, rfl, HS⟩ := hrel
    have HG := Px.hid hgk
    clear hgk
    obtain ⟨la, lc, hv4⟩ := HS.out.nums.len
    subst hv4
    by_cases hlt : k < l.length
    · have hlz : (k : Int) < (l.length : Int) := by omega
      obtain ⟨xb, xo, xc, hve, hxb, hcx⟩ := (Lies.same H.out.1 HS.out.nums.same).cell k l[k] (by simp [hlt])
      simp only [Value.slice.injEq, true_and] at hve
      obtain ⟨rfl, rfl⟩ := hve
      have x0 := hcx 0 _ rfl
      have x1 := hcx 1 _ rfl
      have x2 := hcx 2 _ rfl
      rw [← Nat.add_assoc] at x0 x1 x2
      rw [Nat.add_zero] at x0
      obtain ⟨x, hx⟩ : ∃ x, x = l[k] := ⟨_, rfl⟩
      rw [← hx] at x0 x1 x2
      have hxl := H.out.2.1 x (by rw [hx]; exact List.getElem_mem _)
      have HX := Px.hid (And.intro hx hxl)
      have hk1 := hxl.1
      have hk2 := hxl.2.1
      clear hcx hx hxl
      go_upto_region 6 with fail
      obtain ⟨g', rfl⟩ : ∃ g', gk = g' + 1 := ⟨gk - 1, by have := HG.out; omega⟩
      obtain ⟨WX, hWX⟩ : ∃ WX, WX = wr.alloc (.cells #[.int .u8 x.tag.toNat, .int .i64 x.kids, .string ⟨x.body.toArray⟩] 63 (0, 0)) := ⟨_, rfl⟩
      rw [← hWX]
      have hsX : Same wr WX := by rw [hWX]; exact (Same.refl wr).alloc _
      have hbX : WX.heap[wr.heap.size]? = some (.cells #[.int .u8 x.tag.toNat, .int .i64 x.kids, S x.body] 63 (0, 0)) := by rw [hWX]; exact heap_alloc_new wr _
      have HS1 := Px.hid (And.intro (HS.out.nums.sm hsX) (And.intro HS.out (And.intro hsX hbX)))
      have HWR := Px.hid (show ∀ g, (Value.slice la left.length lc).ownBlock = some g → g < wr.heap.size from fun g hg => HS.out.nums.own.lt hg)
      clear hWX hsX hbX x0 x1 x2 HS
      by_cases hstop : left = [] ∧ 0 < k
      · obtain ⟨rfl, hk0⟩ := hstop
        have hkz : (0 : Int) < (k : Int) := by omega
        have HR := Px.hid (show shapeV l = (0, false) by unfold shapeV; rw [HS1.out.2.1.eq, shape_stop hlt (.inl ⟨rfl, hk0⟩)])
        clear hk0
        go_wp2
        go_ret2
        rw [HR.out]
        exact ⟨rfl, HS1.out.1.same⟩
      · have HST := Px.hid hstop
        clear hstop
        have hforms : (k = 0 ∧ left = []) ∨ ∃ n rest, left = (n + 1) :: rest := by
          rcases HS1.out.2.1.top with rfl | h
          · exact .inl ⟨by have := HST.out; simp at this; omega, rfl⟩
          · exact .inr h
        have HF := Px.hid hforms
        clear hforms
        have hlen4 : left.length ≤ 4096 := by have := HS1.out.2.1.len; omega
        go_cut [23] (fun t23 wx => t23 = .bool false ∧ wx = WX)
        case first =>
          rcases HF.out with ⟨rfl, rfl⟩ | ⟨n, rest, rfl⟩
          · go_wp2_with fail
            go_meet
            exact ⟨rfl, rfl⟩
          · have hz0 : (((rest.length : Int) + 1) == 0) = false := by simp; omega
            have hk0 : (0 : Int) < (k : Int) := by have := HS1.out.2.1.len; simp at this; omega
            rw [List.length_cons]
            go_wp2_with fail
            go_meet
            exact ⟨rfl, rfl⟩
        case rest =>
          obtain ⟨rfl, hwc⟩ := hcut
          subst hwc
          go_upto_if 27 with fail
          go_cut [] (fun wx => Nums w wx (.slice la left.length lc) (E5.dec left) ∧ wx.heap[wr.heap.size]? = some (.cells #[.int .u8 x.tag.toNat, .int .i64 x.kids, S x.body] 63 (0, 0)))
          case first =>
            rcases HF.out with ⟨rfl, rfl⟩ | ⟨n, rest, rfl⟩
            · go_wp2_with fail
              go_meet
              exact ⟨HS1.out.1, HS1.out.2.2.2⟩
            · obtain ⟨g, cap, hve, hc1, hc2, hcell, hfz, hgl⟩ := HS1.out.1.top
              simp only [List.length_cons, Value.slice.injEq, true_and] at hve
              obtain ⟨rfl, rfl⟩ := hve
              unfold maxLen at hc2
              have hsm := HS1.out.2.1.small (n + 1) (by simp)
              have hk0 : (0 : Int) < (rest.length : Int) + 1 := by omega
              have hn1 : ((n + 1 : Nat) : Int) = (n : Int) + 1 := by omega
              rw [hn1] at hcell hsm
              have hset := HS1.out.1.set n
              have hne : g ≠ wr.heap.size := fun e => by have := HWR.out g rfl; omega
              have HSE := Px.hid (show Nums w (wc.setCell ⟨g, rest.length, none⟩ (.int .i64 (n : Nat))) (.slice (some ⟨g, 0, none⟩) (rest.length + 1) lc) (n :: rest) ∧ (wc.setCell ⟨g, rest.length, none⟩ (.int .i64 (n : Nat))).heap[wr.heap.size]? = some (.cells #[.int .u8 x.tag.toNat, .int .i64 x.kids, S x.body] 63 (0, 0)) from
                ⟨hset, (heap_setCell_other _ _ _ _ (fun e => hne e.symm)).trans HS1.out.2.2.2⟩)
              have hwr : IntKind.i64.wrap ((n : Int) + 1 - 1) = (n : Int) := by rw [show (n : Int) + 1 - 1 = n by omega]; exact IntWalk.i64_in _ ⟨by omega, by omega⟩
              have hwr2 : IntKind.i64.wrap (n : Int) = (n : Int) := IntWalk.i64_in _ ⟨by omega, by omega⟩
              clear hset hn1 hsm
              rw [List.length_cons]
              go_wp2_with fail
              go_meet
              exact HSE.out
          case rest =>
            obtain ⟨hnu, hbx⟩ := hcut
            have HN := Px.hid (And.intro hnu hbx)
            have y0 := cellOf hbx 0 rfl
            have y1 := cellOf hbx 1 rfl
            have y2 := cellOf hbx 2 rfl
            clear hnu hbx
            have htb : x.tag.toNat < 256 := UInt8.toNat_lt _
            go_upto_region 11 with fail
            go_cut [53] (fun t53 wx => t53 = .bool (wrongT x) ∧ wx = wc)
            case first =>
              rcases wrongT_ways x with ⟨te, hte, q1, q2⟩ | ⟨hte, q1, q2⟩ | ⟨hte, q0, ⟨q1, q3, q2⟩ | ⟨q1, q3, q2⟩ | ⟨q1, q3, q2⟩ | ⟨q1, q3, q2⟩⟩
              · have HE := Px.hid (And.intro hte q2)
                have hne : ¬ te = 0 := beq_eq_false_iff_ne.1 q1
                have hbn : (te != 0) = true := bne_iff_ne.2 hne
                clear hte q2
                go_wp2_with fail
                refine (tag_any _ htb _).mono ?_
                rintro r w2 ⟨rfl, hw2⟩
                subst hw2
                rw [← HE.out.1]
                go_wp2_with fail
                go_meet
                rw [HE.out.2]
                exact ⟨rfl, rfl⟩
              · have HE := Px.hid (And.intro hte q2)
                clear hte q2
                go_wp2_with fail
                refine (tag_any _ htb _).mono ?_
                rintro r w2 ⟨rfl, hw2⟩
                subst hw2
                rw [HE.out.1]
                go_wp2_with fail
                go_meet
                rw [HE.out.2]
                exact ⟨rfl, rfl⟩
              all_goals
                have HE := Px.hid (And.intro hte q2)
                have d1 : decide (x.kids < -1) = false := decide_eq_false q0
                first | have d2 := decide_eq_true q3 | have d2 := decide_eq_false q3
                first | have hbt := bit32_t _ htb q1 | have hbt := bit32_f _ htb q1
                clear hte q2 q1
                go_wp2_with fail
                refine (tag_any _ htb _).mono ?_
                rintro r w2 ⟨rfl, hw2⟩
                subst hw2
                rw [HE.out.1]
                go_wp2_with fail
                go_meet
                rw [HE.out.2]
                first
                  | exact ⟨rfl, rfl⟩
                  | (refine ⟨?_, rfl⟩; simp; omega)
            case rest =>
              obtain ⟨rfl, hwc2⟩ := hcut
              subst hwc2
              cases hWT : wrongT x with
              | true =>
                have HR := Px.hid (show shapeV l = (0, false) by unfold shapeV; rw [HS1.out.2.1.eq, shape_stop hlt (.inr (by rw [← HX.out.1, right_wrong, hWT]; rfl))])
                clear hWT
                go_wp2
                go_ret2
                rw [HR.out]
                exact ⟨rfl, HN.out.1.same⟩
              | false =>
                have HWT := Px.hid hWT
                clear hWT
                go_upto_region 13 with fail
                go_cut [74] (fun t74 wx => t74 = .bool (wrongB x) ∧ Same wc wx)
                case first =>
                  by_cases hlf : 0 ≤ x.kids
                  · have hlk : E5.leaf x = false := decide_eq_false (by omega)
                    by_cases hbe : x.body = []
                    · have HE := Px.hid (show wrongB x = false by unfold wrongB; rw [hlk, hbe]; rfl)
                      rw [hbe] at y2
                      clear hlk hbe
                      go_wp2_with fail
                      go_meet
                      rw [HE.out]
                      exact ⟨rfl, Same.refl _⟩
                    · have hie : x.body.isEmpty = false := by rw [List.isEmpty_eq_false_iff]; exact hbe
                      have hie2 : (!x.body.isEmpty) = true := by rw [hie]; rfl
                      have HE := Px.hid (show wrongB x = true by unfold wrongB; rw [hlk, hie]; rfl)
                      clear hlk
                      go_wp2_with fail
                      go_meet
                      rw [HE.out]
                      exact ⟨rfl, Same.refl _⟩
                  · have hlk : E5.leaf x = true := decide_eq_true (by omega)
                    have hlf2 : x.kids < 0 := by omega
                    have HE := Px.hid (show wrongB x = !R5.body x.tag.toNat x.body by unfold wrongB; rw [hlk]; rfl)
                    have HB := Px.hid (body_any x.tag.toNat x.body HX.out.2.2.2 wc (H.out.2.2.same HN.out.1.same))
                    clear hlk
                    go_wp2_with fail
                    refine HB.out.mono ?_
                    rintro r w2 ⟨rfl, hs2⟩
                    have HS2 := Px.hid hs2
                    clear hs2
                    go_wp2_with fail
                    go_meet
                    rw [HE.out]
                    exact ⟨rfl, HS2.out⟩
                case rest =>
                  obtain ⟨rfl, hsc⟩ := hcut
                  have HN2 := Px.hid (And.intro (HN.out.1.sm hsc) ((hsc.block _ (ltOf HN.out.2) (fun x => x)).trans HN.out.2))
                  clear hsc y0 y1 y2 HN
                  cases hWB : wrongB x with
                  | true =>
                    have HR := Px.hid (show shapeV l = (0, false) by unfold shapeV; rw [HS1.out.2.1.eq, shape_stop hlt (.inr (by rw [← HX.out.1, right_wrong, hWB, Bool.not_true, Bool.and_false]))])
                    clear hWB
                    go_wp2
                    go_ret2
                    rw [HR.out]
                    exact ⟨rfl, HN2.out.1.same⟩
                  | false =>
                    have HQ := Px.hid (show E5.shape true l [] 0 = E5.shape false (l.drop (k + 1)) (E5.pops (left2 x left)) (most2 x left most) from by
                      have hr : E5.right x = true := by rw [right_wrong, HWT.out, hWB]; rfl
                      have := HS1.out.2.1.eq.trans (shape_step (left := left) (most := most) hlt (fun e => by have := HST.out; simp [e] at this; exact this) (by rw [← HX.out.1]; exact hr))
                      rw [← HX.out.1] at this
                      exact this)
                    clear hWB
                    have y1 := cellOf HN2.out.2 1 rfl
                    have hdl : (E5.dec left).length = left.length := E5.dec_len left
                    have HDL := Px.hid hdl
                    have hmk : most ≤ k := HS1.out.2.1.most
                    clear hdl
                    go_upto_if 77 with fail
                    go_cut [4, 5] (fun v4 t5 wx => Nums w wx v4 (left2 x left) ∧ t5 = .int .i64 (most2 x left most : Nat))
                    case first =>
                      by_cases hlf : 0 ≤ x.kids
                      · have hlk : E5.leaf x = false := decide_eq_false (by omega)
                        have hkn : x.kids = ((E5.count x : Nat) : Int) := by unfold E5.count; omega
                        have HE := Px.hid (show left2 x left = E5.count x :: E5.dec left ∧ most2 x left most = max most (left.length + 1) by unfold left2 most2; rw [hlk]; exact ⟨rfl, rfl⟩)
                        rw [hkn] at y1
                        obtain ⟨cn, hcn⟩ : ∃ cn, cn = E5.count x := ⟨_, rfl⟩
                        rw [← hcn] at y1 HE
                        have hrow := HN2.out.1.row
                        rw [HDL.out] at hrow
                        obtain ⟨RL, hRL⟩ : ∃ RL, RL = (E5.dec left).reverse.flatMap cNum := ⟨_, rfl⟩
                        rw [← hRL] at hrow
                        have HO := Px.hid hrow
                        have HRL := Px.hid hRL
                        clear hrow hRL hlk hkn hcn
                        go_wp2_with (at_builtin; go_must (refine wpList_append_lies _ rfl _ _ _ rfl 0 3 i0 _ 1 8 Tryd.underlying78 hi0 hz0 hz1 hz2 rfl (by omega) (.slice la left.length lc) left.length RL rfl (HO.out.alloc _) ⟨wc.heap.size, 0, none⟩ 1 1 [.int .i64 (cn : Nat)] rfl rfl (World.news_of_block (cs := #[.int .i64 (cn : Nat)]) (t := 3) (fr := (0, 0)) (heap_alloc_new wc _)) (by simp [Value.oneCell']) (by omega) (by unfold maxLen; omega) (by omega) (by omega) (wc.heap.size + 1) (by simp) ?_))
                        intro gg cap WY hown1 hgrow hat hlt1
                        rw [HRL.out] at hown1
                        have HP := Px.hid (show Nums w WY (.slice (some ⟨gg, 0, none⟩) (left.length + 1) cap) (cn :: E5.dec left) from by
                          have h1 := HN2.out.1
                          have h2 := hown1
                          rw [← HDL.out] at h1 h2 ⊢
                          exact Nums.push h1 h2 (grown_alloc1 (w := wc) (by rw [← HDL.out] at hgrow; exact hgrow)) (hat.imp (fun e => by rw [HDL.out]; exact e) (fun e => by omega)))
                        clear hown1 hgrow hat
                        go_wp2_with fail
                        go_meet
                        rw [HE.out.1, HE.out.2]
                        exact ⟨HP.out, by go_num⟩
                      · have hlk : E5.leaf x = true := decide_eq_true (by omega)
                        have HE := Px.hid (show left2 x left = E5.dec left ∧ most2 x left most = most by unfold left2 most2; rw [hlk]; exact ⟨rfl, rfl⟩)
                        clear hlk
                        go_wp2_with fail
                        go_meet
                        rw [HE.out.1, HE.out.2]
                        exact ⟨HN2.out.1, rfl⟩
                    case rest =>
                      obtain ⟨hnu, rfl⟩ := hcut
                      obtain ⟨L2, hL2⟩ : ∃ L2, L2 = left2 x left := ⟨_, rfl⟩
                      obtain ⟨M2, hM2⟩ : ∃ M2, M2 = most2 x left most := ⟨_, rfl⟩
                      rw [← hL2, ← hM2] at HQ
                      rw [← hL2] at hnu
                      rw [← hM2]
                      have hl2 : L2.length ≤ k + 1 := by
                        rw [hL2]; unfold left2
                        have := HS1.out.2.1.len
                        have := HDL.out
                        split
                        · omega
                        · rw [List.length_cons]; omega
                      have hm2 : M2 ≤ k + 1 := by
                        rw [hM2]; unfold most2
                        have := HS1.out.2.1.len
                        split <;> omega
                      have hsm2 : ∀ c ∈ L2, (c : Int) ≤ 9223372036854775807 := by
                        have hd : ∀ c ∈ E5.dec left, (c : Int) ≤ 9223372036854775807 := by
                          have hs := HS1.out.2.1.small
                          cases left with
                          | nil => exact nofun
                          | cons n rest =>
                            intro c hc
                            rcases List.mem_cons.1 hc with rfl | hc
                            · have := hs n (by simp); omega
                            · exact hs c (by simp [hc])
                        rw [hL2]; unfold left2
                        split
                        · exact hd
                        · intro c hc
                          rcases List.mem_cons.1 hc with rfl | hc
                          · unfold E5.count; omega
                          · exact hd c hc
                      obtain ⟨va2, vc2, hve2⟩ := hnu.len
                      subst hve2
                      have HN := Px.hid (And.intro hnu (And.intro hl2 (And.intro hm2 (And.intro hsm2 HQ.out))))
                      clear hnu hl2 hsm2 hL2 hM2 HQ y1 HN2
                      go_wp2
                      obtain ⟨wo, rfl⟩ : ∃ wo : World, wo = wc := ⟨_, rfl⟩
                      go_loopg [4, 9] (L2.length + 1) (fun gk2 v4 t9 w2 => ∃ lf : List Nat, lf.length < gk2 ∧ t9 = .int .i64 (lf.length : Nat) ∧ Hid (Nums w w2 v4 lf ∧ E5.pops lf = E5.pops L2 ∧ lf.length ≤ L2.length ∧ ∀ c ∈ lf, (c : Int) ≤ 9223372036854775807))
                      case atStart => exact ⟨L2, by omega, rfl, Px.hid ⟨HN.out.1, rfl, Nat.le_refl _, HN.out.2.2.2.1⟩⟩
                      case round =>
                        obtain ⟨lf, hgl, rfl, HL⟩ := hrel
                        have HGL := Px.hid hgl
                        clear hgl
                        have hkm : (k : Int) < 9223372036854775807 := by omega
                        rcases hlf : lf with _ | ⟨ci, rs⟩
                        · rw [hlf] at HL
                          obtain ⟨a2, c2, hv2⟩ := HL.out.1.len
                          subst hv2
                          clear hlf HGL
                          go_wp2
                          go_roundg g'
                          case measure => omega
                          case rel =>
                            have hp : E5.pops ([] : List Nat) = E5.pops L2 := HL.out.2.1
                            refine ⟨k + 1, M2, [], by have := HG.out; omega, by omega, by go_num, rfl, Px.hid ⟨HL.out.1, ?_, Nat.zero_le _, HN.out.2.2.1, nofun, .inl rfl⟩⟩
                            rw [HN.out.2.2.2.2, ← hp]
                            rfl
                        · rw [hlf] at HL HGL
                          obtain ⟨g2, c2, rfl, hc1, hc2, hcell, hfz, hg2⟩ := HL.out.1.top
                          unfold maxLen at hc2
                          clear hlf
                          by_cases hc0 : ci = 0
                          · subst hc0
                            go_wp2
                            go_roundg (rs.length + 1)
                            case measure => have := HGL.out; simp at this; omega
                            case rel => exact ⟨rs, by omega, by go_num, Px.hid ⟨HL.out.1.pop, HL.out.2.1, Nat.le_of_succ_le HL.out.2.2.1, fun c hc => HL.out.2.2.2 c (by simp [hc])⟩⟩
                          · have hcz : ((ci : Int) == 0) = false := by simpa using hc0
                            have HC := Px.hid hc0
                            clear hc0
                            go_wp2
                            go_roundg g'
                            case measure => omega
                            case rel =>
                              have hp := HL.out.2.1
                              have e : E5.pops (ci :: rs) = ci :: rs := by unfold E5.pops; rw [if_neg HC.out]
                              refine ⟨k + 1, M2, ci :: rs, by have := HG.out; omega, by omega, by go_num, rfl, Px.hid ⟨HL.out.1, ?_, ?_, HN.out.2.2.1, HL.out.2.2.2, .inr ⟨ci - 1, rs, by rw [Nat.sub_add_cancel (Nat.one_le_iff_ne_zero.2 HC.out)]⟩⟩⟩
                              · rw [HN.out.2.2.2.2, ← hp, e]
                                rfl
                              · have := HL.out.2.2.1; have := HN.out.2.1; omega
    · have hlz : ¬ (k : Int) < (l.length : Int) := by omega
      have hkl : k = l.length := by omega
      have HR := Px.hid (show shapeV l = (most, !l.isEmpty && left.isEmpty) by
        unfold shapeV
        rw [HS.out.eq, hkl, List.drop_length, E5.shape])
      have HSM := Px.hid HS.out.nums.same
      clear hkl hlt HS
      rcases strEmptyA l with ⟨e1, e2⟩ | ⟨e1, e2⟩
      · have HE := Px.hid e1
        have z : ¬ (0 : Int) < (l.length : Int) := by omega
        clear e1
        go_wp2
        go_ret2
        rw [HR.out, HE.out]
        exact ⟨rfl, HSM.out⟩
      · have z : (0 : Int) < (l.length : Int) := by omega
        rcases strEmptyN left with ⟨e3, e4⟩ | ⟨e3, e4⟩
        · have HE := Px.hid (And.intro e1 e3)
          have z2 : ((left.length : Int) == 0) = true := beq_iff_eq.2 (by omega)
          clear e1 e3
          go_wp2
          go_ret2
          rw [HR.out, HE.out.1, HE.out.2]
          exact ⟨rfl, HSM.out⟩
        · have HE := Px.hid (And.intro e1 e3)
          have z2 : ((left.length : Int) == 0) = false := beq_eq_false_iff_ne.2 (by omega)
          clear e1 e3
          go_wp2
          go_ret2
          rw [HR.out, HE.out.1, HE.out.2]
          exact ⟨rfl, HSM.out⟩
end Go.Proofs.YtceffhkgnifmeaaDoor

/-! The walk over the program's der.sizes. -/
namespace Go.Proofs.YtceffhkgnifmeaaDoor
open Go.RowKit Go.Px Go.Px.R5

theorem zeros_flat : ∀ n : Nat, (List.replicate n 0).flatMap cNum = List.replicate n (Value.int .i64 0)
  | 0 => rfl
  | n + 1 => by rw [List.replicate_succ, List.flatMap_cons, zeros_flat n, List.replicate_succ]; rfl
theorem made_zeros (n : Nat) : (madeCells #[Value.int .i64 0] n).toList = (List.replicate n 0).flatMap cNum := by
  rw [zeros_flat]
  apply List.ext_getElem
  · simp [madeCells]
  · intro i h1 h2
    simp [madeCells, Nat.mod_one]
/-- What sizes hands back. -/
def SizeP (w : World) (l : List Px.Node) (b : Bytes) (e : Ending) (w' : World) : Prop :=
  ∃ sv, Same w w' ∧ ((262144 < b.length ∧ e = .returned (.tuple #[sv, .bool false])) ∨
    (b.length ≤ 262144 ∧ e = .returned (.tuple #[sv, .bool true]) ∧ Owns w' 3 1 cNum sv (E5.szR l).1))
theorem SizeP.long {w w' : World} {l : List Px.Node} {b : Bytes} {e : Ending} (sv : Value) (hs : Same w w') (hb : 262144 < b.length) (he : e = .returned (.tuple #[sv, .bool false])) : SizeP w l b e w' := ⟨sv, hs, .inl ⟨hb, he⟩⟩
theorem SizeP.ok {w w' : World} {l : List Px.Node} {b : Bytes} {e : Ending} (sv : Value) (hs : Same w w') (hb : b.length ≤ 262144) (he : e = .returned (.tuple #[sv, .bool true])) (ho : Owns w' 3 1 cNum sv (E5.szR l).1) : SizeP w l b e w' := ⟨sv, hs, .inr ⟨hb, he, ho⟩⟩
/-- What holds at the head of sizes' loop: so many stand ahead of it. -/
structure Siz (w wr : World) (ov v5 : Value) (l : List Px.Node) (k : Nat) : Prop where
  out : Owns wr 3 1 cNum ov (List.replicate k 0 ++ (E5.szR (l.drop k)).1)
  done : Nums w wr v5 (E5.szR (l.drop k)).2
  small : ∀ n ∈ (E5.szR (l.drop k)).2, n ≤ 262154
  len : (E5.szR (l.drop k)).2.length ≤ l.length - k
  ap : Apart ov.ownBlock v5.ownBlock
  outNew : ∀ g, ov.ownBlock = some g → w.heap.size ≤ g
theorem szR_drop : ∀ (l : List Px.Node) (j : Nat), (E5.szR l).1.drop j = (E5.szR (l.drop j)).1
  | [], j => by simp [E5.szR]
  | a :: r, 0 => rfl
  | a :: r, j + 1 => by
    rw [E5.szR_cons, List.drop_succ_cons, List.drop_succ_cons]
    exact szR_drop r j
theorem take_snoc_sum (D : List Nat) (c d : Nat) (rest : List Nat) (h : D.drop c = d :: rest) : (D.take (c + 1)).sum = (D.take c).sum + d ∧ D.drop (c + 1) = rest := by
  have hc : c < D.length := by
    rcases Nat.lt_or_ge c D.length with h1 | h1
    · exact h1
    · rw [List.drop_eq_nil_of_le h1] at h; cases h
  have h2 := List.drop_eq_getElem_cons hc
  rw [h2] at h
  simp only [List.cons.injEq] at h
  refine ⟨?_, h.2⟩
  rw [List.take_succ_eq_append_getElem hc, List.sum_append, h.1]
  simp
theorem sum_le (D : List Nat) (m : Nat) (h : ∀ n ∈ D, n ≤ m) : D.sum ≤ D.length * m := by
  induction D with
  | nil => simp
  | cons a D ih =>
    have h1 := h a (by simp)
    have h2 := ih (fun n hn => h n (by simp [hn]))
    rw [List.sum_cons, List.length_cons, Nat.add_mul]
    omega
set_option maxRecDepth 100000 in
set_option maxHeartbeats 8000000 in
theorem dsizes_any (v : Value) (l : List Px.Node) (w : World) (h : Lies w 3 cNode v l) (hn : l ≠ []) (hl : l.length ≤ 4096) (hw : ∀ a ∈ l, a.body.length ≤ 140737488355327) (b : Bytes) (o : Bool) (hel : E5.El 32 l b o) :
    Calls Tryd.prog 34 #[v] w (SizeP w l b) := by
  obtain ⟨va, vc, hv, hv1, hv2⟩ := h.slice
  subst hv
  have hll : 0 < l.length := List.length_pos_iff.2 hn
  obtain ⟨i0, hi0, hz0, hz1, hz2⟩ := info_parts Tryd.infoI64
  have hmk : ∀ W : World, (Instr.makeSlice 78 (.int .i64 (l.length : Nat)) (.int .i64 (l.length : Nat))).run Tryd.prog W = .ok (.slice (some ⟨W.heap.size, 0, none⟩) l.length l.length) (W.alloc (.cells (madeCells #[.int .i64 0] l.length) 3 (0, 0))) := fun W => by
    have := run_make (P := Tryd.prog) W 78 3 i0 (.int .i64 0) Tryd.underlying78 hi0 hz0 .i64 .i64 (l.length : Nat) (l.length : Nat) (by omega) (Int.le_refl _) (by rw [hz2]; omega) (by omega)
    rw [hz1, Int.toNat_natCast, Nat.mul_one] at this
    exact this
  have H := Px.hid (And.intro h (And.intro hw hel.whole))
  clear h hw hn hel
  go_enter Tryd.func34, Tryd.ntmps34
  go_wp2
  have HO := Px.hid (show Siz w (w.alloc (.cells (madeCells #[.int .i64 0] l.length) 3 (0, 0))) (.slice (some ⟨w.heap.size, 0, none⟩) l.length l.length) (.slice none 0 0) l l.length from by
    have hdr : l.drop l.length = [] := List.drop_length
    refine ⟨?_, ?_, ?_, ?_, nofun, ?_⟩
    · rw [hdr]
      have h1 := World.ownsRow_lit (base := 0) (e := 3) (size := 1) w (madeCells #[.int .i64 0] l.length) l.length (Nat.zero_le _) (by unfold maxLen; omega) (by rw [size_madeCells, Nat.mul_one])
      show Owns _ _ _ _ _ (List.replicate l.length 0 ++ [])
      rw [List.append_nil]
      unfold Owns
      rw [List.length_replicate, ← made_zeros]
      exact h1
    · rw [hdr]; exact ⟨owns_nil _ _ _ _, (Same.refl w).alloc _, nofun⟩
    · rw [hdr]; exact nofun
    · rw [hdr]; exact Nat.zero_le _
    · intro g hg
      simp only [Value.ownBlock, Option.some.injEq] at hg
      omega)
  clear hmk
  go_loopw [5, 6] (fun v5 ii wr => ∃ k : Nat, k ≤ l.length ∧ ii = .int .i64 ((k : Int) - 1) ∧ Hid (Siz w wr (.slice (some ⟨w.heap.size, 0, none⟩) l.length l.length) v5 l k)) (fun _ ii _ => (intOf ii + 1).toNat)
  case atStart => exact ⟨l.length, Nat.le_refl _, rfl, HO⟩
  case round =>
    clear HO
    obtain ⟨k, hk, rfl, HS⟩ := hrel
    cases k with
    | zero =>
      have hz : ¬ (0 : Int) ≤ ((0 : Nat) : Int) - 1 := by omega
      have hD : (E5.szR (l.drop 0)).2 = [b.length] := by rw [List.drop_zero]; exact H.out.2.2.1
      have hdn := HS.out.done
      rw [hD] at hdn
      obtain ⟨g, cap, hve, hc1, hc2, hcell, hfz, hgl⟩ := hdn.top
      simp only [List.length_nil, Nat.zero_add] at hve hc1 hcell
      rw [hve]
      unfold maxLen at hc2
      have hout := HS.out.out
      rw [List.replicate_zero, List.nil_append, List.drop_zero] at hout
      have HX := Px.hid (And.intro hdn.same hout)
      clear hdn hout hD hve hfz HS
      go_wp2_with fail
      go_region
      go_wp2
      go_ret2
      by_cases hb : b.length ≤ 262144
      · rw [decide_eq_true (show (b.length : Int) ≤ 262144 by omega)]
        exact SizeP.ok _ HX.out.1.drew hb rfl HX.out.2.drew
      · rw [decide_eq_false (show ¬ (b.length : Int) ≤ 262144 by omega)]
        exact SizeP.long _ HX.out.1.drew (by omega) rfl
    | succ j =>
      have ej : ((j + 1 : Nat) : Int) - 1 = (j : Int) := by omega
      have hjl : j < l.length := by omega
      obtain ⟨xb, xo, xc, hve, hxb, hcx⟩ := (Lies.same H.out.1 HS.out.done.same).cell j l[j] (by simp [hjl])
      simp only [Value.slice.injEq, true_and] at hve
      obtain ⟨rfl, rfl⟩ := hve
      have x1 := hcx 1 _ rfl
      have x2 := hcx 2 _ rfl
      rw [← Nat.add_assoc] at x1 x2
      obtain ⟨x, hx⟩ : ∃ x, x = l[j] := ⟨_, rfl⟩
      have hdj : l.drop j = x :: l.drop (j + 1) := by rw [hx]; exact List.drop_eq_getElem_cons hjl
      have hcnt := H.out.2.2.2.2.2.1 (l.take j) x (l.drop (j + 1)) (by rw [← hdj, List.take_append_drop])
      have hbl := H.out.2.1 x (by rw [hx]; exact List.getElem_mem _)
      have hszx : (ByteArray.mk x.body.toArray).size = x.body.length := size_S x.body
      rw [← hx] at x1 x2
      clear hcx hx
      obtain ⟨D, hD⟩ : ∃ D, D = (E5.szR (l.drop (j + 1))).2 := ⟨_, rfl⟩
      obtain ⟨LN, hLN⟩ : ∃ LN, LN = (E5.szR (l.drop (j + 1))).1 := ⟨_, rfl⟩
      obtain ⟨cn, hcn⟩ : ∃ cn, cn = E5.count x := ⟨_, rfl⟩
      have hmx : max x.kids 0 = (cn : Int) := by rw [hcn]; unfold E5.count; omega
      obtain ⟨hS1, hS2, hS3, hS4, hS5, hS6⟩ := HS.out
      rw [← hD] at hS2 hS3 hS4 hcnt
      rw [← hLN] at hS1
      rw [← hcn] at hcnt
      have hszj : (E5.szR (l.drop j)).1 = (x.body.length + (D.take cn).sum) :: LN ∧ (E5.szR (l.drop j)).2 = (x.body.length + (D.take cn).sum + E5.headN (x.body.length + (D.take cn).sum)) :: D.drop cn := by
        rw [hdj, E5.szR_cons, hD, hLN, hcn]
        exact ⟨rfl, rfl⟩
      have hDs : ∀ c, c ≤ cn → (D.take c).sum ≤ 1100000000 := fun c hc => by
        have h1 := sum_le (D.take c) 262154 (fun n hn => hS3 n (List.mem_of_mem_take hn))
        rw [List.length_take] at h1
        have h2 : min c D.length * 262154 ≤ 4096 * 262154 := Nat.mul_le_mul_right _ (by omega)
        omega
      have hcn4 : cn ≤ 4096 := by omega
      have HX := Px.hid (And.intro hS1 (And.intro hS2 (And.intro hS3 (And.intro hS4 (And.intro hS5 (And.intro hS6 (And.intro hszj (And.intro hcnt (And.intro hDs hbl)))))))))
      obtain ⟨bl, hblx⟩ : ∃ bl, bl = x.body.length := ⟨_, rfl⟩
      rw [← hblx] at hszx hbl
      have HBL := Px.hid hblx
      obtain ⟨va5, vc5, hve5⟩ := hS2.len
      subst hve5
      clear hS1 hS2 hS3 hS4 hS5 hS6 hszj hcnt hDs hD hLN hcn hdj HS hblx
      rw [ej]
      clear ej
      go_wp2
      go_loop [5, 7, 30] (fun v5 n c => ∃ (c' : Nat), c' ≤ cn ∧ c = .int .i64 (c' : Nat) ∧ n = .int .i64 ((bl + (D.take c').sum : Nat) : Int) ∧ Hid (Nums w wr v5 (D.drop c') ∧ Apart (some w.heap.size) v5.ownBlock)) (fun _ _ c => cn - (intOf c).toNat)
      case atStart => exact ⟨0, Nat.zero_le _, rfl, by simp, Px.hid ⟨HX.out.2.1, HX.out.2.2.2.2.1⟩⟩
      case round =>
        obtain ⟨c', hc', rfl, rfl, HN⟩ := hrel
        have hsum := HX.out.2.2.2.2.2.2.2.2.1 c' hc'
        obtain ⟨sm, hsm⟩ : ∃ sm, sm = bl + (D.take c').sum := ⟨_, rfl⟩
        rw [← hsm]
        have hsmb : sm ≤ 140740000000000 := by omega
        by_cases hlt : c' < cn
        · have hltz : (c' : Int) < (cn : Int) := by omega
          have hdd := List.drop_eq_getElem_cons (l := D) (i := c') (by have := HX.out.2.2.2.2.2.2.2.1; omega)
          obtain ⟨d, hd⟩ : ∃ d, d = D[c']'(by have := HX.out.2.2.2.2.2.2.2.1; omega) := ⟨_, rfl⟩
          have hdb : d ≤ 262154 := by rw [hd]; exact HX.out.2.2.1 _ (List.getElem_mem _)
          rw [← hd] at hdd
          have hts := take_snoc_sum D c' d _ hdd
          have hnu := HN.out.1
          rw [hdd] at hnu
          obtain ⟨g, cap, hve, hc1, hc2, hcell, hfz, hgl⟩ := hnu.top
          subst hve
          unfold maxLen at hc2
          obtain ⟨rs, hrs⟩ : ∃ rs, rs = D.drop (c' + 1) := ⟨_, rfl⟩
          rw [← hrs] at hnu hcell hfz hc1 ⊢
          have HE := Px.hid (And.intro hnu.pop (And.intro HN.out.2 (And.intro hrs (show sm + d = bl + (D.take (c' + 1)).sum by rw [hts.1, hsm]; omega))))
          clear hd hdd hts hnu hrs hsm hsum HN
          go_wp2
          go_round
          case rel => exact ⟨c' + 1, by omega, by go_num, by rw [← HE.out.2.2.2]; go_num, Px.hid ⟨by rw [← HE.out.2.2.1]; exact HE.out.1, HE.out.2.1⟩⟩
          case measure => simp [intOf]; omega
        · have hltz : ¬ (c' : Int) < (cn : Int) := by omega
          obtain rfl : c' = cn := by omega
          obtain ⟨va6, vc6, hve6⟩ := HN.out.1.len
          subst hve6
          have hszj : (E5.szR (l.drop j)).1 = sm :: LN ∧ (E5.szR (l.drop j)).2 = (sm + E5.headN sm) :: D.drop c' := by rw [hsm, HBL.out]; exact HX.out.2.2.2.2.2.2.1
          have HJ := Px.hid hszj
          clear hsm hlt hszj
          by_cases hbig : 262144 < sm
          · have hbz : (262144 : Int) < (sm : Int) := by omega
            have hbb : 262144 < b.length := by
              have h1 := H.out.2.2.2.2.1 sm (List.mem_of_mem_drop (i := j) (by rw [szR_drop, HJ.out.1]; simp))
              omega
            clear hbig
            go_wp2
            go_ret2
            exact SizeP.long _ HN.out.1.same hbb rfl
          · have hbz : ¬ (262144 : Int) < (sm : Int) := by omega
            have hget : (List.replicate (j + 1) 0 ++ LN)[j]? = some 0 := by
              rw [List.getElem?_append_left (by simp), List.getElem?_replicate, if_pos (by omega)]
            obtain ⟨g0, cap0, hve0, _, _, hcell0, hfz0⟩ := HX.out.1.at cNum_len hget
            simp only [Value.slice.injEq, Option.some.injEq, Addr.mk.injEq, and_true] at hve0
            have hg0 := hve0.1
            subst hg0
            clear hve0
            have k0 := hcell0 0 _ rfl
            have f0 := hfz0 j
            rw [Nat.mul_one, Nat.add_zero] at k0
            have hset := owns_setAt cNum_len HX.out.1 hget 0 (by decide) (.int .i64 (sm : Nat)) (show cNum sm = _ from rfl)
            rw [Nat.mul_one, Nat.add_zero] at hset
            have hl3 : (List.replicate (j + 1) 0 ++ LN).set j sm = List.replicate j 0 ++ (sm :: LN) := by
              rw [List.replicate_succ', List.append_assoc, List.set_append_right _ _ (by simp)]
              simp
            rw [hl3] at hset
            have hnb : (Value.slice va6 (D.drop c').length vc6).ownBlock ≠ some w.heap.size := fun e => HN.out.2 _ rfl e
            have HW := Px.hid (show Owns (wr.setCell ⟨w.heap.size, j, none⟩ (.int .i64 (sm : Nat))) 3 1 cNum (.slice (some ⟨w.heap.size, 0, none⟩) l.length l.length) (List.replicate j 0 ++ (sm :: LN)) ∧ Nums w (wr.setCell ⟨w.heap.size, j, none⟩ (.int .i64 (sm : Nat))) (.slice va6 (D.drop c').length vc6) (D.drop c') from
              ⟨hset, HN.out.1.own.setCell (p := ⟨w.heap.size, j, none⟩) hnb _, HN.out.1.same.setCell (p := ⟨w.heap.size, j, none⟩) (.inr (Nat.le_refl _)) _, HN.out.1.new⟩)
            have hhl := headN_le sm
            obtain ⟨hd, hhd⟩ : ∃ hd, hd = E5.headN sm := ⟨_, rfl⟩
            rw [← hhd] at hhl
            have HHD := Px.hid hhd
            have hwl : w.heap.size < wr.heap.size := (HX.out.1.lt rfl)
            clear hset hget hcell0 hfz0 hl3 hnb hbig hhd
            go_upto_region 15 with fail
            obtain ⟨W1, hW1⟩ : ∃ W1, W1 = wr.setCell ⟨w.heap.size, j, none⟩ (.int .i64 (sm : Nat)) := ⟨_, rfl⟩
            rw [← hW1] at HW ⊢
            clear hW1 k0 f0
            have hrow := HW.out.2.row
            obtain ⟨RL, hRL⟩ : ∃ RL, RL = (D.drop c').reverse.flatMap cNum := ⟨_, rfl⟩
            rw [← hRL] at hrow
            have HRO := Px.hid hrow
            have HRL := Px.hid hRL
            have hdl : (D.drop c').length ≤ 4096 := by rw [List.length_drop]; have := HX.out.2.2.2.1; omega
            obtain ⟨DL, hDL⟩ : ∃ DL, DL = (D.drop c').length := ⟨_, rfl⟩
            rw [← hDL] at hdl HRO ⊢
            have HDL := Px.hid hDL
            clear hrow hRL hDL
            go_wp2_with fail
            refine (dhead_any sm (by omega) _).mono ?_
            rintro r w2x ⟨rfl, hw2x⟩
            subst hw2x
            rw [← HHD.out]
            go_wp2_with (at_builtin; go_must (refine wpList_append_lies _ rfl _ _ _ rfl 0 3 i0 _ 1 8 Tryd.underlying78 hi0 hz0 hz1 hz2 rfl (by omega) (.slice va6 DL vc6) DL RL rfl (HRO.out.alloc _) ⟨W1.heap.size, 0, none⟩ 1 1 [.int .i64 ((sm : Int) + hd)] rfl rfl (World.news_of_block (cs := #[.int .i64 ((sm : Int) + hd)]) (t := 3) (fr := (0, 0)) (heap_alloc_new W1 _)) (by simp [Value.oneCell']) (by omega) (by unfold maxLen; omega) (by omega) (by omega) (W1.heap.size + 1) (by simp) ?_))
            intro gg cap WY hown1 hgrow hat hlt1
            rw [HRL.out, show (sm : Int) + hd = ((sm + hd : Nat) : Int) by omega] at hown1
            have HP := Px.hid (show Siz w WY (.slice (some ⟨w.heap.size, 0, none⟩) l.length l.length) (.slice (some ⟨gg, 0, none⟩) (DL + 1) cap) l j from by
              have h1 := HW.out.2
              have h2 := hown1
              have h3 := grown_alloc1 (w := W1) hgrow
              rw [HDL.out] at h2 h3 hat ⊢
              have hnums := Nums.push (n := sm + hd) h1 h2 h3 (hat.imp id (fun e => by omega))
              refine ⟨?_, ?_, ?_, ?_, ?_, HX.out.2.2.2.2.2.1⟩
              · rw [HJ.out.1]
                exact HW.out.1.grown h3 (fun g hg => by
                  simp only [Value.ownBlock, Option.some.injEq] at hg
                  subst hg
                  exact HN.out.2 _ rfl)
              · rw [HJ.out.2, ← HHD.out]; exact hnums
              · rw [HJ.out.2, ← HHD.out]
                intro m hm
                rcases List.mem_cons.1 hm with rfl | hm
                · omega
                · exact HX.out.2.2.1 m (List.mem_of_mem_drop hm)
              · rw [HJ.out.2, List.length_cons, List.length_drop]
                have := HX.out.2.2.2.1
                omega
              · intro g hg e
                simp only [Value.ownBlock, Option.some.injEq] at hg e
                subst hg
                rcases hat with q | q
                · exact HN.out.2 _ rfl (by rw [q, e])
                · have := HW.out.1.lt (k := w.heap.size) rfl
                  omega)
            clear hown1 hgrow hat
            go_wp2
            go_roundw
            case rel =>
              exact ⟨j, by omega, rfl, HP⟩
            case measure => simp [intOf]
end Go.Proofs.YtceffhkgnifmeaaDoor

/-! What the walk over the program's der.Encode rests on: bytes that grow, appends of strings, the bytes told so far; the walk over ordered. -/
namespace Go.Px
open Go.RowKit
theorem flat_get {α : Type} {c : α → List Value} {sz : Nat} (hc : ∀ a, (c a).length = sz) (hs : 0 < sz) : ∀ (l : List α) (j : Nat) (u : Value), (l.flatMap c)[j]? = some u → ∃ x, l[j / sz]? = some x ∧ (c x)[j % sz]? = some u
  | [], j, u, h => by simp at h
  | a :: t, j, u, h => by
    rw [List.flatMap_cons] at h
    by_cases hj : j < sz
    · rw [List.getElem?_append_left (by rw [hc]; exact hj)] at h
      exact ⟨a, by rw [Nat.div_eq_of_lt hj]; rfl, by rw [Nat.mod_eq_of_lt hj]; exact h⟩
    · rw [List.getElem?_append_right (by rw [hc]; omega), hc] at h
      obtain ⟨x, h1, h2⟩ := flat_get hc hs t (j - sz) u h
      have e : j = (j - sz) + sz := by omega
      have e1 : j / sz = (j - sz) / sz + 1 := by
        conv => lhs; rw [e]
        exact Nat.add_div_right _ hs
      have e2 : j % sz = (j - sz) % sz := by
        conv => lhs; rw [e]
        exact Nat.add_mod_right _ _
      exact ⟨x, by rw [e1]; exact h1, by rw [e2]; exact h2⟩
/-- What lies somewhere, as what an append takes. -/
theorem Lies.src {α : Type} {P : Program} {w : World} {sz : Nat} {c : α → List Value} {v : Value} {l : List α} {tx e' : TypeId} (h : Lies w sz c v l) (hc : ∀ a, (c a).length = sz) (hs : 0 < sz) (hk : P.underlying tx = some (.slice e')) (h1 : ∀ u ∈ l.flatMap c, u.oneCell' = true) :
    Src P sz tx v l.length (l.flatMap c) w := by
  obtain ⟨a, cap, hv, _, _⟩ := h.slice
  cases l with
  | nil =>
    subst hv
    cases a with
    | none => exact Src.ofNil w hk cap
    | some ad => exact Src.ofSlice w hk ad 0 cap [] (by simp) (fun j u hu => by simp at hu) (fun u hu => by cases hu)
  | cons x t =>
    obtain ⟨b, off, cap2, hv2, _, _⟩ := h.cell 0 x rfl
    rw [hv2]
    refine Src.ofSlice w hk ⟨b, off, none⟩ _ _ _ (flat_len hc _) (fun j u hu => ?_) h1
    obtain ⟨y, h2, h3⟩ := flat_get hc hs _ j u hu
    obtain ⟨b', off', cap3, hv3, _, hcell⟩ := h.cell _ y h2
    rw [hv2] at hv3
    simp only [Value.slice.injEq, Option.some.injEq, Addr.mk.injEq, and_true, true_and] at hv3
    obtain ⟨⟨rfl, rfl⟩, _⟩ := hv3
    have := hcell _ u h3
    have e : j / sz * sz + j % sz = j := by rw [Nat.mul_comm]; exact Nat.div_add_mod j sz
    rw [e] at this
    have hadd : (⟨b, off, none⟩ : Addr).add j = ⟨b, off + j, none⟩ := by unfold Addr.add; split <;> simp_all
    rw [hadd]
    exact this
/-- An append onto an empty slice of the call's own. -/
theorem run_append_src0 (P : Program) (w : World) (t tx ty : TypeId) (e : TypeId) (i : TypeInfo) (z : Value) (size bytes : Nat) (ht : P.underlying t = some (.slice e)) (hi : P.info? e = some i) (hz : i.zero = some z)
    (hsize : i.size = size) (hby : i.bytes = bytes) (hzs : z.cells.size = size) (b : Nat) (hb : w.heap[b]? = some (.cells #[] e (0, 0)))
    (x : Value) (m : Nat) (news : List Value) (hs : Src P size tx x m news w) (h63 : m ≤ maxLen) (hbytes : m * bytes ≤ 140737488355328) :
    ∃ g cap w', (Builtin.append_ #[t, tx] ty #[.slice (some ⟨b, 0, none⟩) 0 0, x]).run P w = .ok (.slice (some ⟨g, 0, none⟩) m cap) w' ∧
      w'.ownsRow 0 e size (.slice (some ⟨g, 0, none⟩) m cap) m news ∧ w.grownBy w' none ∧ (g = b ∨ g = w.heap.size) := by
  subst hsize
  subst hby
  by_cases hm : m = 0
  · subst hm
    have hnl : news = [] := List.eq_nil_of_length_eq_zero (by rw [hs.newsLen]; simp)
    subst hnl
    have hr := run_append_room_src (P := P) w t tx ty e i ht hi b 0 0 0 x 0 [] hs (Nat.le_refl _) (fun j hj => absurd hj (Nat.not_lt_zero j)) (fun j hj => absurd hj (Nat.not_lt_zero j))
    exact ⟨b, 0, w, hr, ⟨by simp, .inr ⟨b, 0, #[], rfl, Nat.zero_le _, hb, Nat.le_refl _, Nat.zero_le _, by simp, by simp⟩⟩, ⟨rfl, rfl, rfl, Nat.le_refl _, fun _ _ _ => rfl⟩, .inl rfl⟩
  · have hr := run_append_grow_src (P := P) w t tx ty e i z ht hi hz (some ⟨b, 0, none⟩) 0 0 [] (run_firstCells_some w.drew i.size 0 ⟨b, 0, none⟩ 0 0 [] (by simp) (fun j u hu => by simp at hu)) x m news hs (by omega) (by unfold maxLen at h63; omega) (growslice_fits (by omega) (by rw [Nat.zero_add]; exact hbytes))
    simp only [Nat.zero_add, List.nil_append] at hr
    refine ⟨w.heap.size, _, _, hr, ⟨hs.newsLen, .inr ⟨w.heap.size, _, _, rfl, Nat.zero_le _, heap_alloc_new w.drew _, grownCap_ge w m 0 e, grownCap_le_maxLen w m 0 e h63, ?_, ?_⟩⟩, ⟨rfl, rfl, rfl, by simp, fun k hk _ => heap_alloc_old w.drew _ hk⟩, .inr rfl⟩
    · have hge := grownCap_ge w m 0 e
      simp only [Array.size_append, List.size_toArray, size_zeroCells, hzs, hs.newsLen, ← Nat.add_mul]
      congr 1
      omega
    · simp only [Array.toList_append]
      rw [← hs.newsLen]
      exact List.take_left
theorem wp_append_src0 {P : Program} {w : World} {o : Oper} {a : Act} {K : Act → World → Prop} {Q : Exit → Act → World → Prop} (s x : Operand) (t tx : TypeId)
    (ho : o.op = .call { callee := .builtin .append, args := #[s, x], argTypes := #[t, tx] })
    (e : TypeId) (i : TypeInfo) (z : Value) (size bytes : Nat) (ht : P.underlying t = some (.slice e)) (hi : P.info? e = some i) (hz : i.zero = some z)
    (hsize : i.size = size) (hby : i.bytes = bytes) (hzs : z.cells.size = size) (b : Nat) (hs : a.eval s = .slice (some ⟨b, 0, none⟩) 0 0) (hb : w.heap[b]? = some (.cells #[] e (0, 0)))
    (vx : Value) (m : Nat) (news : List Value) (hx : a.eval x = vx) (hsrc : Src P size tx vx m news w) (h63 : m ≤ maxLen) (hbytes : m * bytes ≤ 140737488355328)
    (h : ∀ g cap w', w'.ownsRow 0 e size (.slice (some ⟨g, 0, none⟩) m cap) m news → w.grownBy w' none → (g = b ∨ g = w.heap.size) → K (a.put o.dst (.slice (some ⟨g, 0, none⟩) m cap)) w') : o.wp P a w K Q := by
  obtain ⟨g, cap, w', hr, h2, h3, h4⟩ := run_append_src0 P w t tx o.type e i z size bytes ht hi hz hsize hby hzs b hb vx m news hsrc h63 hbytes
  unfold Oper.wp execOp
  simp only [ho, resolve, invoke, builtin, Sem.run_bind, Sem.run_pure, Result.andThen_ok, List.map_toArray, List.map_cons, List.map_nil, hs, hx, hr]
  exact h g cap w' h2 h3 h4
theorem wpList_append_src0 {P : Program} {w : World} {ops : Array Oper} {rest : List Oper} {o : Oper} {a : Act} {Q : Exit → Act → World → Prop} (hgd : o.guard = none) (s x : Operand) (t tx : TypeId)
    (ho : o.op = .call { callee := .builtin .append, args := #[s, x], argTypes := #[t, tx] })
    (e : TypeId) (i : TypeInfo) (z : Value) (size bytes : Nat) (ht : P.underlying t = some (.slice e)) (hi : P.info? e = some i) (hz : i.zero = some z)
    (hsize : i.size = size) (hby : i.bytes = bytes) (hzs : z.cells.size = size) (b : Nat) (hs : a.eval s = .slice (some ⟨b, 0, none⟩) 0 0) (hb : w.heap[b]? = some (.cells #[] e (0, 0)))
    (vx : Value) (m : Nat) (news : List Value) (hx : a.eval x = vx) (hsrc : Src P size tx vx m news w) (h63 : m ≤ maxLen) (hbytes : m * bytes ≤ 140737488355328)
    (h : ∀ g cap w', w'.ownsRow 0 e size (.slice (some ⟨g, 0, none⟩) m cap) m news → w.grownBy w' none → (g = b ∨ g = w.heap.size) → wpList P ops Q rest (a.put o.dst (.slice (some ⟨g, 0, none⟩) m cap)) w') : wpList P ops Q (o :: rest) a w :=
  wpList_plain hgd fun _ hK => wp_append_src0 s x t tx ho e i z size bytes ht hi hz hsize hby hzs b hs hb vx m news hx hsrc h63 hbytes fun g cap w' h2 h3 h4 => hK _ _ (h g cap w' h2 h3 h4)
theorem wpList_append_src {P : Program} {w : World} {ops : Array Oper} {rest : List Oper} {o : Oper} {a : Act} {Q : Exit → Act → World → Prop} (hgd : o.guard = none) (s x : Operand) (t tx : TypeId)
    (ho : o.op = .call { callee := .builtin .append, args := #[s, x], argTypes := #[t, tx] })
    (e : TypeId) (i : TypeInfo) (z : Value) (size bytes : Nat) (ht : P.underlying t = some (.slice e)) (hi : P.info? e = some i) (hz : i.zero = some z)
    (hsize : i.size = size) (hby : i.bytes = bytes) (hzs : z.cells.size = size)
    (v : Value) (n : Nat) (xs : List Value) (hs : a.eval s = v) (hown : w.ownsRow 0 e size v n xs)
    (vx : Value) (m : Nat) (news : List Value) (hx : a.eval x = vx) (hsrc : Src P size tx vx m news w)
    (hn : 0 < n) (h63 : n + m ≤ maxLen) (hbytes : (n + m) * bytes ≤ 140737488355328)
    (h : ∀ g cap w', w'.ownsRow 0 e size (.slice (some ⟨g, 0, none⟩) (n + m) cap) (n + m) (xs ++ news) → w.grownBy w' v.ownBlock → (v.ownBlock = some g ∨ g = w.heap.size) → wpList P ops Q rest (a.put o.dst (.slice (some ⟨g, 0, none⟩) (n + m) cap)) w') : wpList P ops Q (o :: rest) a w :=
  wpList_plain hgd fun _ hK => wp_append_src s x t tx ho e i z size bytes ht hi hz hsize hby hzs v n xs hs hown vx m news hx hsrc hn h63 hbytes fun g cap w' h2 h3 h4 => hK _ _ (h g cap w' h2 h3 h4)
end Go.Px
namespace Go.Proofs.YtceffhkgnifmeaaDoor
open Go.RowKit Go.Px Go.Px.R5

theorem Tryd.sizeU8 (w : World) : (Go.sizeOf 5).run Tryd.prog w = .ok 1 w := by kernel_rfl
theorem Tryd.infoU8 : (Tryd.prog.info? 5).map (fun i => (i.zero, i.size, i.bytes)) = some (some (.int .u8 0), 1, 1) := by kernel_rfl
/-- A new string of bytes of the call's own: what it holds. -/
theorem Owns.str {w : World} {v : Value} {l : List UInt8} (h : Owns w 5 1 cByte v l) : (convert 42 9 v).run Tryd.prog w = .ok (S l) w := by
  obtain ⟨sv, hs, hc⟩ := h.bytesTo (P := Tryd.prog) (p := 0) (Nat.zero_le _) (t := 42) (dst := 9) (by kernel_rfl) (by kernel_rfl) (by kernel_rfl) Tryd.sizeU8
  have hc0 := hc 0
  have hs0 := hs w
  rcases h.2 with ⟨rfl, h0⟩ | ⟨g, cap, cur, rfl, _, hg, hc1, hc2, _⟩
  · rw [run_convert_bytes_nil _ 42 5 Tryd.underlying42 Tryd.underlying5 0 0 9 Tryd.underlying9, List.length_eq_zero_iff.1 h0]
    rfl
  · have hcell : ∀ j, (hj : j < l.length) → w.cell? ⟨g, 0 + j, none⟩ = some (.int .u8 (l[j].toNat)) := by
      intro j hj
      obtain ⟨g', cap', hv, _, _, hc, _⟩ := h.at cByte_len (j := j) (a := l[j]) (by simp [hj])
      simp only [Value.slice.injEq, Option.some.injEq, Addr.mk.injEq, and_true, true_and] at hv
      obtain ⟨rfl, rfl⟩ := hv
      have := hc 0 _ rfl
      simpa using this
    rw [run_convert_bytes_arg w 42 5 Tryd.underlying42 Tryd.underlying5 g 0 l.length cap (l.map fun c => ((c.toNat : Nat) : Int)) (by simp) ?_ 9 Tryd.underlying9, strOf_bytes]
    intro i hi
    rw [hcell i hi]
    simp [List.getD, hi]
theorem owns_one (w : World) (c : Nat) (hc : c < 256) : Owns (w.alloc (.cells #[.int .u8 (c : Int)] 5 (0, 0))) 5 1 cByte (.slice (some ⟨w.heap.size, 0, none⟩) 1 1) [UInt8.ofNat c] := by
  refine ⟨rfl, .inr ⟨w.heap.size, 1, #[.int .u8 (c : Int)], rfl, Nat.zero_le _, heap_alloc_new w _, Nat.le_refl _, by unfold maxLen; omega, rfl, ?_⟩⟩
  have : (UInt8.ofNat c).toNat = c := by simp; omega
  simp [cByte, this]
/-- A slice of bytes of the call's own that has grown. -/
def Grown (w : World) (v : Value) (l : Bytes) (v' : Value) (w' : World) : Prop :=
  Owns w' 5 1 cByte v' l ∧ Fr (fun k => v.ownBlock = some k) w w' ∧ ∀ g, v'.ownBlock = some g → v.ownBlock = some g ∨ w.heap.size ≤ g
theorem grown_mk {w w1 : World} {va : Option Addr} {l : Bytes} {vc gg cap : Nat} {c : UInt8}
    (hown1 : w1.ownsRow 0 5 1 (.slice (some ⟨gg, 0, none⟩) (l.length + 1) cap) (l.length + 1) (l.flatMap cByte ++ cByte c)) (hg : w.grownBy w1 (Value.slice va l.length vc).ownBlock) (hat : (Value.slice va l.length vc).ownBlock = some gg ∨ w.heap.size ≤ gg) :
    Grown w (.slice va l.length vc) (l ++ [c]) (.slice (some ⟨gg, 0, none⟩) (l.length + 1) cap) w1 := by
  refine ⟨owns_append hown1, Fr.grown (Fr.refl _ w) hg (fun k e => .inl e), fun g hg => ?_⟩
  simp only [Value.ownBlock, Option.some.injEq] at hg
  subst hg
  exact hat
theorem Grown.trans {w w1 w2 : World} {v v1 v2 : Value} {l l2 : Bytes} (h : Grown w v l v1 w1) (k : Grown w1 v1 l2 v2 w2) : Grown w v l2 v2 w2 :=
  ⟨k.1, Fr.step h.2.1 (fun b hb => h.2.2 b hb) k.2.1, fun g hg => by
    rcases k.2.2 g hg with e | e
    · exact h.2.2 g e
    · exact .inr (Nat.le_trans h.2.1.size e)⟩
theorem bytes_S (l : Bytes) : byteCells ⟨l.toArray⟩ = l.flatMap cByte := by
  unfold byteCells
  induction l with
  | nil => rfl
  | cons a t ih => simpa [cByte] using ih
theorem Grown.app {w w1 w2 : World} {v v1 : Value} {l t : Bytes} {g cap : Nat} (h : Grown w v l v1 w1) (hown : w2.ownsRow 0 5 1 (.slice (some ⟨g, 0, none⟩) (l.length + t.length) cap) (l.length + t.length) (l.flatMap cByte ++ t.flatMap cByte))
    (hg : w1.grownBy w2 v1.ownBlock) (hat : v1.ownBlock = some g ∨ g = w1.heap.size) : Grown w v (l ++ t) (.slice (some ⟨g, 0, none⟩) (l.length + t.length) cap) w2 := by
  refine h.trans ⟨?_, Fr.grown (Fr.refl _ w1) hg (fun k e => .inl e), fun g' hg' => ?_⟩
  · unfold Owns
    rw [List.length_append, List.flatMap_append]
    exact hown
  · simp only [Value.ownBlock, Option.some.injEq] at hg'
    subst hg'
    exact hat.imp id (fun e => by omega)

/-- What an encoding hands back. -/
def Tells (w : World) (d : Bytes × Int) (r : Ending) (w' : World) : Prop := r = .returned (.tuple #[S d.1, .int .i64 d.2]) ∧ Same w w'
theorem tells_of {w w' : World} {d : Bytes × Int} {r : Ending} {s : Bytes} {e : Int} (h : d = (s, e)) (hr : r = .returned (.tuple #[S s, .int .i64 e])) (hs : Same w w') : Tells w d r w' := by
  subst h; exact ⟨hr, hs⟩
/-! The ways of Encode -/
theorem shapeV_no {l : List Px.Node} (hl : l.length ≤ 4096) (h : (shapeV l).2 = false) : E5.Enc l ([], 9) := by
  unfold shapeV at h
  cases hs : E5.shape true l [] 0 with
  | none => exact E5.enc_shape hl (.inr (.inl hs))
  | some r =>
    obtain ⟨m, left⟩ := r
    rw [hs] at h
    simp only at h
    cases l with
    | nil => exact E5.enc_shape hl (.inl rfl)
    | cons a t =>
      cases left with
      | nil => simp at h
      | cons c r => exact E5.enc_shape hl (.inr (.inr ⟨m, c, r, hs⟩))
theorem shapeV_ok {l : List Px.Node} (h : (shapeV l).2 = true) : E5.shape true l [] 0 = some ((shapeV l).1, []) ∧ l ≠ [] := by
  unfold shapeV at h ⊢
  cases hs : E5.shape true l [] 0 with
  | none => rw [hs] at h; cases h
  | some r =>
    obtain ⟨m, left⟩ := r
    rw [hs] at h
    simp only [Bool.and_eq_true, Bool.not_eq_true', List.isEmpty_iff] at h
    obtain ⟨h1, h2⟩ := h
    subst h2
    exact ⟨rfl, by rintro rfl; simp at h1⟩
theorem enc_read {l : List Px.Node} {b : Bytes} {o : Bool} (hl : l.length ≤ 4096) (h : E5.El 32 l b o) (hb : b.length ≤ 262144) :
    ((R5.decode b E5.encLim).2.2 = 0 ∧ E5.Enc l (b, 0)) ∨ (¬ (R5.decode b E5.encLim).2.2 = 0 ∧ E5.Enc l ([], 9)) := by
  have hd := E5.decode_of_el (lim := E5.encLim) E5.encLim_may (show E5.El (32 : Int).toNat l b o from h) (show (l.length : Int) ≤ 4096 by omega) (show (b.length : Int) ≤ 262144 by omega)
  cases o with
  | false =>
    rw [if_neg (by simp)] at hd
    exact .inl ⟨by rw [hd], .ok b hl h hb⟩
  | true =>
    rw [if_pos rfl] at hd
    exact .inr ⟨by rw [hd]; decide, .out b hl h hb⟩
/-! The bytes told so far -/
theorem emit_split : ∀ (l : List Px.Node) (ks : List Nat) (k : Nat), l.length = ks.length → E5.emit l ks = E5.emit (l.take k) (ks.take k) ++ E5.emit (l.drop k) (ks.drop k)
  | [], ks, k, h => by
    have : ks = [] := List.eq_nil_of_length_eq_zero h.symm
    subst this
    simp [E5.emit]
  | a :: r, [], k, h => by simp at h
  | a :: r, n :: ks, 0, h => by simp [E5.emit]
  | a :: r, n :: ks, k + 1, h => by
    simp only [List.length_cons, Nat.add_right_cancel_iff] at h
    rw [List.take_succ_cons, List.take_succ_cons, List.drop_succ_cons, List.drop_succ_cons, E5.emit_cons, E5.emit_cons, emit_split r ks k h, List.append_assoc]
theorem emit_step (l : List Px.Node) (ks : List Nat) (k : Nat) (h : l.length = ks.length) (hk : k < l.length) :
    E5.emit (l.take (k + 1)) (ks.take (k + 1)) = E5.emit (l.take k) (ks.take k) ++ (l[k].tag :: (E5.lenB (ks[k]'(by omega)) ++ l[k].body)) := by
  have h2 := emit_split (l.take (k + 1)) (ks.take (k + 1)) k (by rw [List.length_take, List.length_take]; omega)
  rw [h2, List.take_take, List.take_take, Nat.min_eq_left (Nat.le_succ k)]
  congr 1
  have e1 : (l.take (k + 1)).drop k = [l[k]] := by
    rw [List.drop_take, Nat.add_sub_cancel_left, List.drop_eq_getElem_cons hk]
    rfl
  have e2 : (ks.take (k + 1)).drop k = [ks[k]'(by omega)] := by
    rw [List.drop_take, Nat.add_sub_cancel_left, List.drop_eq_getElem_cons (by omega)]
    rfl
  rw [e1, e2, E5.emit_cons]
  show _ ++ [] = _
  rw [List.append_nil]
theorem emit_part (l : List Px.Node) (ks : List Nat) (k : Nat) (h : l.length = ks.length) : (E5.emit (l.take k) (ks.take k)).length ≤ (E5.emit l ks).length := by
  conv => rhs; rw [emit_split l ks k h]
  rw [List.length_append]
  omega
theorem lenB_small {n : Nat} (h : n < 128) : E5.lenB n = [UInt8.ofNat n] := if_pos h
theorem lenB_far {n : Nat} (h : ¬ n < 128) : E5.lenB n = UInt8.ofNat (128 + E5.dgN 8 n) :: E5.beD (E5.dgN 8 n) n := by
  unfold E5.lenB
  rw [if_neg h, E5.beN_dg, E5.beN_beD, List.append_nil, List.length_nil, Nat.zero_add]
theorem dg_small {n : Nat} (h : n ≤ 262144) : E5.dgN 8 n ≤ 3 := by
  rw [E5.dgN_more 7 n (by omega), E5.dgN_more 6 n (by omega), E5.dgN_more 5 n (by omega), E5.dgN_more 4 n (by omega), E5.dgN_more 3 n (by omega)]
  exact E5.dgN_le 3 n
theorem dg_pos {n : Nat} (h : ¬ n < 128) : 1 ≤ E5.dgN 8 n := by
  unfold E5.dgN
  rw [if_neg (by omega)]
  omega
set_option maxHeartbeats 1000000 in
theorem ordered_any (s : Bytes) (hs : s.length ≤ 140737488355327) (w : World) (hT : Tabs w) :
    Calls Tryd.prog 36 #[S s] w fun e w' => e = .returned (.bool ((R5.decode s E5.encLim).2.2 == 0)) ∧ Same w w' := by
  have hd : Calls Tryd.prog 14 #[S s, .agg #[.int .i64 32, .int .i64 4096, .int .i64 262144, .int .i64 1]] w (Gives w (R5.decode s E5.encLim)) := decode_any s E5.encLim hs w hT
  have HD := Px.hid hd
  obtain ⟨d, hdd⟩ : ∃ d, d = R5.decode s E5.encLim := ⟨_, rfl⟩
  rw [← hdd] at HD ⊢
  clear hd hdd hs hT
  go_enter Tryd.func36, Tryd.ntmps36
  go_wp2_with fail
  refine HD.out.mono ?_
  rintro e w2 ⟨vo, rfl, hvo, hs2, _⟩
  have HS := Px.hid hs2
  clear hvo hs2
  go_wp2
  go_ret
  exact ⟨rfl, HS.out⟩
end Go.Proofs.YtceffhkgnifmeaaDoor

/-! The walk over the program's der.Encode. -/
namespace Go.Proofs.YtceffhkgnifmeaaDoor
open Go.RowKit Go.Px Go.Px.R5

def EncP (w : World) (l : List Px.Node) (e : Ending) (w' : World) : Prop := ∃ d, E5.Enc l d ∧ Tells w d e w'
theorem EncP.mk {w w' : World} {l : List Px.Node} {e : Ending} (s : Bytes) (c : Int) (h1 : E5.Enc l (s, c)) (h2 : e = .returned (.tuple #[S s, .int .i64 c])) (h3 : Same w w') : EncP w l e w' := ⟨_, h1, h2, h3⟩
set_option maxRecDepth 100000 in
set_option maxHeartbeats 8000000 in
theorem dencode_any (v : Value) (l : List Px.Node) (w : World) (h : Lies w 3 cNode v l) (hw : ∀ a ∈ l, -9223372036854775808 ≤ a.kids ∧ a.kids ≤ 9223372036854775807 ∧ a.body.length ≤ 140737488355327) (hT : Tabs w) :
    Calls Tryd.prog 17 #[v] w (EncP w l) := by
  obtain ⟨va, vc, hv, hv1, hv2⟩ := h.slice
  subst hv
  have hvm : l.length ≤ 9223372036854775807 := by unfold maxLen at hv2; omega
  have H := Px.hid (And.intro h (And.intro hw hT))
  clear h hw hT hv2
  by_cases hmany : 4096 < l.length
  · have hz : (4096 : Int) < (l.length : Int) := by omega
    have HR := Px.hid (E5.Enc.many hmany)
    clear hmany
    go_enter Tryd.func17, Tryd.ntmps17
    go_wp2
    go_ret2
    exact EncP.mk _ _ HR.out rfl (Same.refl w)
  · have hz : ¬ (4096 : Int) < (l.length : Int) := by omega
    have hl : l.length ≤ 4096 := by omega
    clear hmany hvm
    obtain ⟨i0, hi0, hz0, hz1, hz2⟩ := info_parts Tryd.infoU8
    have hsh := dshape_any _ l w H.out.1 hl H.out.2.1 H.out.2.2
    obtain ⟨m, hm⟩ : ∃ m, m = (shapeV l).1 := ⟨_, rfl⟩
    rw [← hm] at hsh
    cases hok : (shapeV l).2
    · rw [hok] at hsh
      have HSH := Px.hid (And.intro hsh (shapeV_no hl hok))
      clear hsh hok hm
      go_enter Tryd.func17, Tryd.ntmps17
      go_wp2_with fail
      refine HSH.out.1.mono ?_
      rintro e w1 ⟨rfl, hs⟩
      have HS := Px.hid hs
      clear hs
      go_wp2
      go_ret2
      exact EncP.mk _ _ HSH.out.2 rfl HS.out
    · rw [hok] at hsh
      obtain ⟨hshp, hne⟩ := shapeV_ok hok
      rw [← hm] at hshp
      by_cases h32 : 32 < m
      · have hz32 : (32 : Int) < (m : Int) := by omega
        have HSH := Px.hid (And.intro hsh (E5.Enc.deep m hl hshp hne h32))
        clear hsh hok hm h32 hshp hne
        go_enter Tryd.func17, Tryd.ntmps17
        go_wp2_with fail
        refine HSH.out.1.mono ?_
        rintro e w1 ⟨rfl, hs⟩
        have HS := Px.hid hs
        clear hs
        go_wp2
        go_ret2
        exact EncP.mk _ _ HSH.out.2 rfl HS.out
      · have hz32 : ¬ (32 : Int) < (m : Int) := by omega
        obtain ⟨b, o, hel⟩ := E5.el_of_shape hne hshp (Nat.le_of_not_lt h32)
        have hszs := dsizes_any (.slice va l.length vc) l
        have HSH := Px.hid (And.intro hsh (And.intro (fun W hW => dsizes_any (.slice va l.length vc) l W hW hne hl (fun a ha => (H.out.2.1 a ha).2.2) b o hel) (And.intro hel hel.whole)))
        clear hsh hok hm h32 hshp hne hel hszs
        go_enter Tryd.func17, Tryd.ntmps17
        go_wp2_with fail
        refine HSH.out.1.mono ?_
        rintro e w1 ⟨rfl, hs⟩
        have HS := Px.hid hs
        clear hs
        go_wp2_with fail
        refine (HSH.out.2.1 w1 (Lies.same H.out.1 HS.out)).mono ?_
        rintro e w2 ⟨sv, hs2, ⟨hb, rfl⟩ | ⟨hb, rfl, ho⟩⟩
        · have HS2 := Px.hid (And.intro (HS.out.trans hs2) (E5.Enc.long b o hl HSH.out.2.2.1 hb))
          clear hs2 hb
          go_wp2
          go_ret2
          exact EncP.mk _ _ HS2.out.2 rfl HS2.out.1
        · obtain ⟨sa, sc, hsv, _⟩ := ho.len
          rw [E5.szR_len] at hsv
          subst hsv
          obtain ⟨ks, hks⟩ : ∃ ks, ks = (E5.szR l).1 := ⟨_, rfl⟩
          have hkl : l.length = ks.length := by rw [hks, E5.szR_len]
          have hkb : ∀ n ∈ ks, n ≤ 262144 := fun n hn => by rw [hks] at hn; exact Nat.le_trans (HSH.out.2.2.2.2.2.1 n hn) hb
          have hem : E5.emit l ks = b := by rw [hks]; exact HSH.out.2.2.2.2.1
          rw [← hks] at ho
          have HS2 := Px.hid (And.intro (HS.out.trans hs2) (And.intro ho (And.intro hkl (And.intro hkb (And.intro hem hb)))))
          clear hs2 ho hkl hkb hem hb hks HS
          go_wp2
          go_loopw [7, 33] (fun v7 i wr => ∃ k : Nat, k ≤ l.length ∧ i = .int .i64 (k : Nat) ∧ Hid (Owns wr 5 1 cByte v7 (E5.emit (l.take k) (ks.take k)) ∧ Same w2 wr ∧ (∀ g, v7.ownBlock = some g → w2.heap.size ≤ g))) (fun _ i _ => l.length - (intOf i).toNat)
          case atStart => exact ⟨0, Nat.zero_le _, rfl, Px.hid ⟨owns_nil _ _ _ _, Same.refl _, nofun⟩⟩
          case round =>
            obtain ⟨k, hk, rfl, HL⟩ := hrel
            by_cases hlt : k < l.length
            · have hlz : (k : Int) < (l.length : Int) := by omega
              obtain ⟨xb, xo, xc, hve, hxb, hcx⟩ := (Lies.same H.out.1 (HS2.out.1.trans HL.out.2.1)).cell k l[k] (by simp [hlt])
              simp only [Value.slice.injEq, true_and] at hve
              obtain ⟨rfl, rfl⟩ := hve
              have x0 := hcx 0 _ rfl
              have x1 := hcx 1 _ rfl
              have x2 := hcx 2 _ rfl
              rw [← Nat.add_assoc] at x0 x1 x2
              rw [Nat.add_zero] at x0
              obtain ⟨x, hx⟩ : ∃ x, x = l[k] := ⟨_, rfl⟩
              have hkk : k < ks.length := by have := HS2.out.2.2.1; omega
              obtain ⟨n, hn⟩ : ∃ n, n = ks[k] := ⟨_, rfl⟩
              have hnb : n ≤ 262144 := by rw [hn]; exact HS2.out.2.2.2.1 _ (List.getElem_mem _)
              have hstep := emit_step l ks k HS2.out.2.2.1 hlt
              have hpart := emit_part l ks (k + 1) HS2.out.2.2.1
              rw [HS2.out.2.2.2.2.1] at hpart
              rw [← hx, ← hn] at hstep
              have hkget : ks[k]? = some n := by rw [hn]; exact List.getElem?_eq_getElem hkk
              have hbody := (H.out.2.1 x (by rw [hx]; exact List.getElem_mem _)).2.2
              rw [← hx] at x0 x1 x2
              have hszx : (ByteArray.mk x.body.toArray).size = x.body.length := size_S x.body
              obtain ⟨LB, hLB⟩ : ∃ LB, LB = E5.emit (l.take k) (ks.take k) := ⟨_, rfl⟩
              rw [← hLB] at hstep
              have hlen := congrArg List.length hstep
              simp only [List.length_append, List.length_cons] at hlen
              have hLBl : LB.length + x.body.length + (E5.lenB n).length + 1 ≤ 262144 := by have := HS2.out.2.2.2.2.2; omega
              have hown := HL.out.1
              rw [← hLB] at hown
              obtain ⟨ga, gc, hgv, _⟩ := hown.len
              subst hgv
              have HX := Px.hid (And.intro hown (And.intro hstep (And.intro hkget hLBl)))
              have hb1 : LB.length ≤ 262144 := by omega
              have hb2 : x.body.length ≤ 262144 := by omega
              clear hcx hx hn hkk hstep hpart hkget hlen hLB hown hLBl
              go_upto_region 15 with fail
              obtain ⟨WX, hWX⟩ : ∃ WX, WX = wr.alloc (.cells #[.int .u8 x.tag.toNat, .int .i64 x.kids, .string ⟨x.body.toArray⟩] 63 (0, 0)) := ⟨_, rfl⟩
              rw [← hWX]
              have hsX : Same wr WX := by rw [hWX]; exact (Same.refl wr).alloc _
              have hbX : WX.heap[wr.heap.size]? = some (.cells #[.int .u8 x.tag.toNat, .int .i64 x.kids, S x.body] 63 (0, 0)) := by rw [hWX]; exact heap_alloc_new wr _
              have y0 := cellOf hbX 0 rfl
              have HW := Px.hid (And.intro hsX (And.intro hbX (Owns.same HX.out.1 hsX)))
              have hwl : wr.heap.size < WX.heap.size := ltOf hbX
              clear hWX hsX hbX x0 x1 x2
              go_wp2_with (at_builtin; go_must (refine wpList_append_lies _ rfl _ _ _ rfl 0 5 i0 _ 1 1 Tryd.underlying42 hi0 hz0 hz1 hz2 rfl (by omega) (.slice ga LB.length gc) LB.length (LB.flatMap cByte) rfl (Owns.alloc HW.out.2.2 _) ⟨WX.heap.size, 0, none⟩ 1 1 [.int .u8 x.tag.toNat] rfl rfl (World.news_of_block (cs := #[.int .u8 x.tag.toNat]) (t := 5) (fr := (0, 0)) (heap_alloc_new WX _)) (by simp [Value.oneCell']) (by omega) (by unfold maxLen; omega) (by omega) (by omega) (WX.heap.size + 1) (by simp) ?_))
              intro gg cap W1 hown1 hgrow hat hlt1
              have hG1 : Grown WX (.slice ga LB.length gc) (LB ++ [x.tag]) (.slice (some ⟨gg, 0, none⟩) (LB.length + 1) cap) W1 := grown_mk hown1 (grown_alloc1 (w := WX) hgrow) (hat.imp id (fun e => by omega))
              have hvb : (Value.slice ga LB.length gc).ownBlock ≠ some wr.heap.size := fun e => by have := HX.out.1.lt e; omega
              have hbX1 := (hG1.2.1.block wr.heap.size hwl hvb).trans HW.out.2.1
              have hsv1 : Owns W1 3 1 cNum (.slice sa l.length sc) ks := by
                have h1 : Owns WX 3 1 cNum (.slice sa l.length sc) ks := Owns.same HS2.out.2.1 (HL.out.2.1.trans HW.out.1)
                refine h1.fr hG1.2.1 (fun g hg e => ?_)
                have h2 := HL.out.2.2 g e
                have h3 := HS2.out.2.1.lt hg
                omega
              obtain ⟨sg, sc2, hsve, _, _, hscell, _⟩ := hsv1.at cNum_len HX.out.2.2.1
              simp only [Value.slice.injEq] at hsve
              have hsg := hsve.1
              subst hsg
              clear hsve
              have kc := hscell 0 _ rfl
              rw [Nat.mul_one, Nat.add_zero] at kc
              have hL1 : (LB ++ [x.tag]).length = LB.length + 1 := by simp
              obtain ⟨L1, hL1e⟩ : ∃ L1, L1 = LB ++ [x.tag] := ⟨_, rfl⟩
              rw [← hL1e] at hG1 hL1
              rw [← hL1] at hG1 ⊢
              have hb3 : L1.length ≤ 262145 := by omega
              have h1pos : 0 < L1.length := by omega
              have HG1 := Px.hid (And.intro hG1 (And.intro hbX1 (And.intro hsv1 hL1e)))
              clear hown1 hgrow hat hG1 hvb hbX1 hsv1 hscell y0 hL1e hL1
              go_upto_if 48 with fail
              go_cut [7] (fun t7 wx => Grown W1 (.slice (some ⟨gg, 0, none⟩) L1.length cap) (L1 ++ E5.lenB n) t7 wx)
              case first =>
                have HO1 := Px.hid HG1.out.1.1
                by_cases h128 : n < 128
                · have hz128 : (n : Int) < 128 := by omega
                  have hwc : IntKind.u8.wrap (n : Int) = n := by rw [IntKind.wrap_u8]; omega
                  have hcb : [Value.int .u8 (n : Int)] = cByte (UInt8.ofNat n) := by
                    unfold cByte
                    rw [UInt8.toNat_ofNat', Nat.mod_eq_of_lt (by omega)]
                  have HCB := Px.hid (And.intro hcb (lenB_small h128))
                  clear h128 hcb
                  go_wp2_with (at_builtin; go_must (refine wpList_append_lies _ rfl _ _ _ rfl 0 5 i0 _ 1 1 Tryd.underlying42 hi0 hz0 hz1 hz2 rfl (by omega) (.slice (some ⟨gg, 0, none⟩) L1.length cap) L1.length (L1.flatMap cByte) rfl (Owns.alloc HO1.out _) ⟨W1.heap.size, 0, none⟩ 1 1 [.int .u8 (n : Int)] rfl rfl (World.news_of_block (cs := #[.int .u8 (n : Int)]) (t := 5) (fr := (0, 0)) (heap_alloc_new W1 _)) (by simp [Value.oneCell']) (by omega) (by unfold maxLen; omega) (by omega) (by omega) (W1.heap.size + 1) (by simp) ?_))
                  intro g3 cap3 W3 hown3 hgrow3 hat3 hlt3
                  rw [HCB.out.1] at hown3
                  have HV := Px.hid (show Grown W1 (.slice (some ⟨gg, 0, none⟩) L1.length cap) (L1 ++ [UInt8.ofNat n]) (.slice (some ⟨g3, 0, none⟩) (L1.length + 1) cap3) W3 from grown_mk hown3 (grown_alloc1 (w := W1) hgrow3) (hat3.imp id (fun e => by omega)))
                  clear hown3 hgrow3 hat3
                  go_wp2_with fail
                  go_meet
                  rw [HCB.out.2]
                  exact HV.out
                · have hz128 : ¬ (n : Int) < 128 := by omega
                  have hd3 := dg_small hnb
                  have hd1 := dg_pos h128
                  have hfar := lenB_far h128
                  have hhn : E5.headN n = E5.dgN 8 n + 2 := by rw [headN_eq, if_neg h128, Nat.add_comm]
                  obtain ⟨D, hD⟩ : ∃ D, D = E5.dgN 8 n := ⟨_, rfl⟩
                  rw [← hD] at hd3 hd1 hfar hhn
                  have hwc : IntKind.u8.wrap (128 + (D : Int)) = 128 + D := by rw [IntKind.wrap_u8]; omega
                  have hcb : [Value.int .u8 (128 + (D : Int))] = cByte (UInt8.ofNat (128 + D)) := by
                    unfold cByte
                    rw [UInt8.toNat_ofNat', Nat.mod_eq_of_lt (by omega)]
                    congr 2
                  have HF := Px.hid (And.intro hfar (And.intro hhn hcb))
                  clear h128 hD hfar hhn hcb
                  go_wp2_with fail
                  refine (dhead_any n hnb _).mono ?_
                  rintro r w3x ⟨rfl, hw3x⟩
                  subst hw3x
                  rw [HF.out.2.1]
                  have hpc : ((D + 2 : Nat) : Int) = (D : Int) + 2 := by omega
                  rw [hpc]
                  clear hpc
                  go_wp2_with (at_builtin; go_must (refine wpList_append_lies _ rfl _ _ _ rfl 0 5 i0 _ 1 1 Tryd.underlying42 hi0 hz0 hz1 hz2 rfl (by omega) (.slice (some ⟨gg, 0, none⟩) L1.length cap) L1.length (L1.flatMap cByte) rfl (Owns.alloc HO1.out _) ⟨W1.heap.size, 0, none⟩ 1 1 [.int .u8 (128 + (D : Int))] rfl rfl (World.news_of_block (cs := #[.int .u8 (128 + (D : Int))]) (t := 5) (fr := (0, 0)) (heap_alloc_new W1 _)) (by simp [Value.oneCell']) (by omega) (by unfold maxLen; omega) (by omega) (by omega) (W1.heap.size + 1) (by simp) ?_))
                  intro g3 cap3 W3 hown3 hgrow3 hat3 hlt3
                  rw [HF.out.2.2] at hown3
                  have HV := Px.hid (show Grown W1 (.slice (some ⟨gg, 0, none⟩) L1.length cap) (L1 ++ [UInt8.ofNat (128 + D)]) (.slice (some ⟨g3, 0, none⟩) (L1.length + 1) cap3) W3 from grown_mk hown3 (grown_alloc1 (w := W1) hgrow3) (hat3.imp id (fun e => by omega)))
                  clear hown3 hgrow3 hat3
                  go_wp2
                  go_loopw [7, 11] (fun v i wl => ∃ (m : Nat) (L : Bytes), m ≤ D ∧ i = .int .i64 ((m : Int) - 1) ∧ L.length ≤ 262200 - m ∧ Hid (Grown W1 (.slice (some ⟨gg, 0, none⟩) L1.length cap) L v wl ∧ L ++ E5.beD m n = L1 ++ E5.lenB n)) (fun _ i _ => (intOf i + 1).toNat)
                  case atStart => exact ⟨D, L1 ++ [UInt8.ofNat (128 + D)], Nat.le_refl _, by go_num, by simp; omega, Px.hid ⟨HV.out, by rw [HF.out.1, List.append_assoc]; rfl⟩⟩
                  case round =>
                    clear HV
                    obtain ⟨m, L, hm1, rfl, hll, HO⟩ := hrel
                    obtain ⟨xa, xc2, hvl, _⟩ := HO.out.1.1.len
                    subst hvl
                    by_cases hm0 : 1 ≤ m
                    · have z1 : (0 : Int) ≤ (m : Int) - 1 := by omega
                      have z2 : (1 : Int) ≤ (m : Int) := by omega
                      obtain ⟨q, hq⟩ : ∃ q, q = m - 1 := ⟨_, rfl⟩
                      have hsh : (n : Int) / 2 ^ (8 * (m - 1)) % 256 = ((n / 256 ^ q % 256 : Nat) : Int) := by
                        have e : 8 * (m - 1) = 8 * q := by omega
                        rw [e, show (256 : Nat) = 2 ^ 8 by rfl, ← Nat.pow_mul]
                        push_cast
                        rfl
                      have hqb : E5.beD m n = UInt8.ofNat (n / 256 ^ q % 256) :: E5.beD q n := by rw [show m = q + 1 by omega]; rfl
                      have hqv : (UInt8.ofNat (n / 256 ^ q % 256)).toNat = n / 256 ^ q % 256 := by simp
                      have hq1 : ((m : Int) - 1) = (q : Int) := by omega
                      obtain ⟨c, hc⟩ : ∃ c, c = UInt8.ofNat (n / 256 ^ q % 256) := ⟨_, rfl⟩
                      rw [← hc] at hqb hqv
                      rw [← hqv] at hsh
                      have HQ := Px.hid (And.intro hqb (And.intro hq hq1))
                      clear hqb hqv hc hq hq1
                      go_wp2_with (at_builtin; go_must (refine wpList_append_lies _ rfl _ _ _ rfl 0 5 i0 _ 1 1 Tryd.underlying42 hi0 hz0 hz1 hz2 rfl (by omega) (.slice xa L.length xc2) L.length (L.flatMap cByte) rfl (Owns.alloc HO.out.1.1 _) ⟨wr.heap.size, 0, none⟩ 1 1 [.int .u8 c.toNat] rfl rfl (World.news_of_block (cs := #[.int .u8 c.toNat]) (t := 5) (fr := (0, 0)) (heap_alloc_new wr _)) (by simp [Value.oneCell']) (by omega) (by unfold maxLen; omega) (by omega) (by omega) (wr.heap.size + 1) (by simp) ?_))
                      intro g4 cap4 W4 hown4 hgrow4 hat4 hlt4
                      have HV := Px.hid (show Grown wr (.slice xa L.length xc2) (L ++ [c]) (.slice (some ⟨g4, 0, none⟩) (L.length + 1) cap4) W4 from grown_mk hown4 (grown_alloc1 (w := wr) hgrow4) (hat4.imp id (fun e => by omega)))
                      clear hown4 hgrow4 hat4
                      go_wp2
                      go_roundw
                      case rel =>
                        refine ⟨q, L ++ [c], by have := HQ.out.2.1; omega, ?_, by have := HQ.out.2.1; simp; omega, Px.hid ⟨HO.out.1.trans HV.out, ?_⟩⟩
                        · have := HQ.out.2.2; go_num
                        · rw [List.append_assoc, ← HO.out.2, HQ.out.1]; rfl
                      case measure => simp [intOf]; omega
                    · have z1 : ¬ (0 : Int) ≤ (m : Int) - 1 := by omega
                      have z2 : ¬ (1 : Int) ≤ (m : Int) := by omega
                      have HE := Px.hid (show L = L1 ++ E5.lenB n by have := HO.out.2; rw [show m = 0 by omega] at this; simpa [E5.beD] using this)
                      go_wp2_with fail
                      go_meet
                      rw [← HE.out]
                      exact HO.out.1
              case rest =>
                have hcut0 := hcut
                obtain ⟨ga2, gc2, hgv2, _⟩ := hcut0.1.len
                subst hgv2
                obtain ⟨L2, hL2⟩ : ∃ L2, L2 = L1 ++ E5.lenB n := ⟨_, rfl⟩
                rw [← hL2] at hcut hcut0 ⊢
                have hL2l : L2.length ≤ 262160 ∧ 0 < L2.length := by
                  rw [hL2, List.length_append]
                  have := E5.lenB_le n
                  omega
                have hgne : (Value.slice (some ⟨gg, 0, none⟩) L1.length cap).ownBlock ≠ some wr.heap.size := fun e => by
                  rcases HG1.out.1.2.2 _ e with q | q
                  · have := HX.out.1.lt q; omega
                  · omega
                have hbX2 := (hcut.2.1.block wr.heap.size (ltOf HG1.out.2.1) hgne).trans HG1.out.2.1
                have y2 := cellOf hbX2 2 rfl
                have hsrc : ∀ W, Src Tryd.prog 1 9 (S x.body) x.body.length (x.body.flatMap cByte) W := fun W => by
                  have := Src.ofString (P := Tryd.prog) (w := W) Tryd.underlying9 ⟨x.body.toArray⟩
                  rw [size_S, bytes_S] at this
                  exact this
                have hl2a := hL2l.1
                have hl2b := hL2l.2
                have HGC := Px.hid (And.intro hcut (And.intro hL2 (And.intro hsrc hcut.1)))
                clear hcut hcut0 hL2 hL2l hgne hbX2 hsrc kc
                go_upto_region 25 with fail
                go_wp2_with (at_builtin; go_must (refine wpList_append_src rfl _ _ 42 9 rfl 5 i0 _ 1 1 Tryd.underlying42 hi0 hz0 hz1 hz2 rfl (.slice ga2 L2.length gc2) L2.length (L2.flatMap cByte) rfl HGC.out.2.2.2 (S x.body) x.body.length (x.body.flatMap cByte) rfl (HGC.out.2.2.1 _) hl2b (by unfold maxLen; omega) (by omega) ?_))
                intro g5 cap5 W5 hown5 hgrow5 hat5
                have HFN := Px.hid (show Grown WX (.slice ga LB.length gc) (E5.emit (l.take (k + 1)) (ks.take (k + 1))) (.slice (some ⟨g5, 0, none⟩) (L2.length + x.body.length) cap5) W5 from by
                  have h1 := HG1.out.1.trans HGC.out.1
                  have h2 := Grown.app h1 hown5 hgrow5 hat5
                  rw [HX.out.2.1]
                  rw [show LB ++ x.tag :: (E5.lenB n ++ x.body) = L2 ++ x.body by rw [HGC.out.2.1, HG1.out.2.2.2]; simp]
                  exact h2)
                clear hown5 hgrow5 hat5 y2
                go_wp2
                go_roundw
                case rel =>
                  refine ⟨k + 1, by omega, by go_num, Px.hid ⟨HFN.out.1, ?_, fun g hg => ?_⟩⟩
                  · exact Fr.toSame (F := fun k => (Value.slice ga LB.length gc).ownBlock = some k) (Fr.trans ((HL.out.2.1.trans HW.out.1).fr _) HFN.out.2.1 (fun _ _ e => e)) (fun k e => HL.out.2.2 k e)
                  · rcases HFN.out.2.2 g hg with e | e
                    · exact HL.out.2.2 g e
                    · exact Nat.le_trans (HL.out.2.1.trans HW.out.1).size e
                case measure => simp [intOf]; omega
            · have hlz : ¬ (k : Int) < (l.length : Int) := by omega
              have hke : k = l.length := by omega
              have hown := HL.out.1
              rw [hke, List.take_length, show ks.take l.length = ks by rw [HS2.out.2.2.1]; exact List.take_length, HS2.out.2.2.2.2.1] at hown
              obtain ⟨la, lc, hv6, _⟩ := hown.len
              subst hv6
              have hstr := Owns.str hown
              have hstr2 := fun W (hW : Same wr W) => Owns.str (Owns.same hown hW)
              have HO := Px.hid (And.intro (ordered_any b (by have := HS2.out.2.2.2.2.2; omega) wr (H.out.2.2.same (HS2.out.1.trans HL.out.2.1))) (And.intro (HS2.out.1.trans HL.out.2.1) hstr2))
              have hways := enc_read hl HSH.out.2.2.1 HS2.out.2.2.2.2.2
              obtain ⟨d, hd⟩ : ∃ d, d = (R5.decode b E5.encLim).2.2 := ⟨_, rfl⟩
              rw [← hd] at hways HO
              clear hlt hke hown hstr2 hd HL
              go_wp2_with fail
              refine HO.out.1.mono ?_
              rintro r w3 ⟨rfl, hs3⟩
              have HS3 := Px.hid (HO.out.2.1.trans hs3)
              have hstr3 := HO.out.2.2 w3 hs3
              clear hs3 hstr
              rcases hways with ⟨he, henc⟩ | ⟨he, henc⟩
              · have HE := Px.hid henc
                have hb : (d == 0) = true := beq_iff_eq.2 he
                clear henc he
                rw [hb]
                clear hb
                go_wp2
                go_ret2
                exact EncP.mk _ _ HE.out rfl HS3.out
              · have HE := Px.hid henc
                have hb : (d == 0) = false := beq_eq_false_iff_ne.2 he
                clear henc he
                rw [hb]
                clear hb
                go_wp2
                go_ret2
                exact EncP.mk _ _ HE.out rfl HS3.out
end Go.Proofs.YtceffhkgnifmeaaDoor

/-! The walks over the statements of layer 15: wakes, DerReads, DerOneWay. -/
namespace Go.Proofs.YtceffhkgnifmeaaDoor
open Go.RowKit Go.Px Go.Px.R5

/-- The greatest limits. -/
def most : Lim := ⟨32, 4096, 262144, 4096⟩
theorem most_may : most.may = true := by decide
theorem most_any (w : World) : Calls Tryd.prog 20 #[] w fun e w' => e = .returned (limV most) ∧ Same w w' := by
  go_enter Tryd.func20, Tryd.ntmps20
  go_wp2
  exact bodyPost_ret (v := limV most) (by simp [results, Tryd.results20, go_sem, limV, most]) rfl ⟨rfl, (Fr.refl _ w).alloc _⟩
def limObj (l : Lim) : Obj := .cells #[.int .i64 l.d, .int .i64 l.i, .int .i64 l.b, .int .i64 l.r] 23 (0, 0)
def LimIn (w0 w : World) (b : Nat) (l : Lim) : Prop := Same w0 w ∧ w.heap[b]? = some (limObj l)
theorem LimIn.same {w0 w w' : World} {b : Nat} {l : Lim} (h : LimIn w0 w b l) (hs : Same w w') : LimIn w0 w' b l := ⟨h.1.trans hs, (hs.block b (ltOf h.2) (fun x => x)).trans h.2⟩
theorem LimIn.boxed (w : World) (l : Lim) : LimIn w (w.alloc (.cells #[.int .i64 l.d, .int .i64 l.i, .int .i64 l.b, .int .i64 l.r] 23 (0, 0))) w.heap.size l := ⟨(Fr.refl _ w).alloc _, heap_alloc_new w _⟩
theorem LimIn.cells {w0 w : World} {b : Nat} {l : Lim} (h : LimIn w0 w b l) : w.cell? ⟨b, 0, none⟩ = some (.int .i64 l.d) ∧ w.cell? ⟨b, 1, none⟩ = some (.int .i64 l.i) ∧ w.cell? ⟨b, 2, none⟩ = some (.int .i64 l.b) ∧ w.cell? ⟨b, 3, none⟩ = some (.int .i64 l.r) :=
  ⟨cellOf h.2 0 rfl, cellOf h.2 1 rfl, cellOf h.2 2 rfl, cellOf h.2 3 rfl⟩
theorem Tabs.lim {w w' : World} {b : Nat} {l : Lim} (h : Tabs w) (hz : LimIn w w' b l) : Tabs w' := h.same hz.1
set_option maxRecDepth 100000 in
set_option maxHeartbeats 2000000 in
theorem same_any (w : World) (va vb : Value) (l : List Px.Node) (ha : Owns w 63 3 cNode va l) (hb : Owns w 63 3 cNode vb l) :
    Calls Tryd.prog 16 #[va, vb] w fun r w' => r = .returned (.bool true) ∧ Same w w' := by
  obtain ⟨aa, ac, hva, hac1, hac2, _⟩ := ha.len
  obtain ⟨ba, bc, hvb, _, _, _⟩ := hb.len
  subst hva hvb
  have HA := Px.hid (And.intro ha hb)
  have hlm : l.length ≤ maxLen := Nat.le_trans hac1 hac2
  unfold maxLen at hlm
  clear ha hb hac1 hac2
  go_enter Tryd.func16, Tryd.ntmps16
  go_wp2
  go_loopw [5] (fun i wr => ∃ k : Nat, k ≤ l.length ∧ i = .int .i64 (k : Nat) ∧ Same w wr) (fun i _ => l.length - (intOf i).toNat)
  case atStart => exact ⟨0, Nat.zero_le _, rfl, Same.refl w⟩
  case round =>
    obtain ⟨k, hk, rfl, hs⟩ := hrel
    by_cases hlt : k < l.length
    · have hltz : (k : Int) < (l.length : Int) := by omega
      obtain ⟨g1, p1, e1, _, _, c1, _⟩ := (Owns.same HA.out.1 hs).at cNode_len (j := k) (a := l[k]) (by simp [hlt])
      obtain ⟨g2, p2, e2, _, _, c2, _⟩ := (Owns.same HA.out.2 hs).at cNode_len (j := k) (a := l[k]) (by simp [hlt])
      simp only [Value.slice.injEq, true_and] at e1 e2
      obtain ⟨rfl, rfl⟩ := e1
      obtain ⟨rfl, rfl⟩ := e2
      have x0 := c1 0 _ rfl
      have x1 := c1 1 _ rfl
      have x2 := c1 2 _ rfl
      have y0 := c2 0 _ rfl
      have y1 := c2 1 _ rfl
      have y2 := c2 2 _ rfl
      have HS := Px.hid hs
      clear c1 c2 hs HA
      obtain ⟨kd, hkd⟩ : ∃ kd, kd = l[k].tag.toNat := ⟨_, rfl⟩
      obtain ⟨nm, hnm⟩ : ∃ nm, nm = l[k].kids := ⟨_, rfl⟩
      obtain ⟨tx, htx⟩ : ∃ tx, tx = l[k].body := ⟨_, rfl⟩
      rw [← hkd] at x0 y0
      rw [← hnm] at x1 y1
      rw [← htx] at x2 y2
      clear hkd hnm htx
      rw [Nat.add_zero] at x0 y0
      go_wp2_with fail
      go_quiet (fail)
      go_wp2
      go_roundw
      case rel => exact ⟨k + 1, by omega, by go_num, (HS.out.drewN nq)⟩
      case measure => simp [intOf]; omega
    · have hltz : ¬ (k : Int) < (l.length : Int) := by omega
      have HS := Px.hid hs
      clear hs
      go_wp2
      go_ret
      exact ⟨rfl, HS.out⟩

/-- What Encode needs of a list. -/
def Wf (l : List Px.Node) : Prop := ∀ a ∈ l, -9223372036854775808 ≤ a.kids ∧ a.kids ≤ 9223372036854775807 ∧ a.body.length ≤ 140737488355327
theorem mem_sum {l : List Px.Node} {a : Px.Node} (h : a ∈ l) : a.body.length ≤ (l.map (fun a => a.body.length)).sum := by
  induction l with
  | nil => cases h
  | cons b t ih =>
    rw [List.map_cons, List.sum_cons]
    rcases List.mem_cons.1 h with rfl | h
    · omega
    · have := ih h; omega
theorem kids_of_shape : ∀ (l : List Px.Node) (f : Bool) (left : List Nat) (most m : Nat), E5.shape f l left most = some (m, []) → left.sum ≤ l.length ∧ ∀ a ∈ l, a.kids ≤ (l.length : Int)
  | [], f, left, most, m, h => by
    unfold E5.shape at h
    simp only [Option.some.injEq, Prod.mk.injEq] at h
    rw [h.2]
    exact ⟨Nat.le_refl _, nofun⟩
  | a :: r, f, left, most, m, h => by
    have hp : ∀ st : List Nat, (E5.pops st).sum = st.sum := by
      intro st
      induction st with
      | nil => rfl
      | cons n t ih =>
        unfold E5.pops
        split
        · rename_i h0; rw [ih, h0, List.sum_cons, Nat.zero_add]
        · rfl
    have hd : left.sum ≤ (E5.dec left).sum + 1 := by
      cases left with
      | nil => exact Nat.zero_le _
      | cons n t => show (n :: t).sum ≤ ((n - 1) :: t).sum + 1; rw [List.sum_cons, List.sum_cons]; omega
    unfold E5.shape at h
    split at h
    · cases h
    · split at h
      · rename_i hl
        obtain ⟨h1, h2⟩ := kids_of_shape r _ _ _ _ h
        rw [hp] at h1
        refine ⟨by rw [List.length_cons]; omega, fun b hb => ?_⟩
        rw [List.length_cons]
        rcases List.mem_cons.1 hb with rfl | hb
        · unfold E5.leaf at hl
          simp only [decide_eq_true_eq] at hl
          omega
        · have := h2 b hb; omega
      · obtain ⟨h1, h2⟩ := kids_of_shape r _ _ _ _ h
        rw [hp, List.sum_cons] at h1
        refine ⟨by rw [List.length_cons]; omega, fun b hb => ?_⟩
        rw [List.length_cons]
        rcases List.mem_cons.1 hb with rfl | hb
        · have : b.kids ≤ (E5.count b : Int) := by unfold E5.count; omega
          omega
        · have := h2 b hb; omega
theorem decode_wf {s : Bytes} {lim : Lim} (h : (R5.decode s lim).2.2 = 0) : Wf (R5.decode s lim).1 := by
  obtain ⟨hm, _, h1, h2, h3, _⟩ := E5.decode_sound h
  have hmay := E5.may_of hm
  obtain ⟨m, k1, k2, k3⟩ := E5.shape_of_el h1
  intro a ha
  have hk := (kids_of_shape _ _ _ _ _ k1).2 a ha
  have hr := E5.right_kids (E5.shape_right _ _ _ _ _ k1 a ha)
  have hb := mem_sum ha
  have hw := h1.whole.2.2.2.2.1
  exact ⟨by omega, by omega, by omega⟩
/-- A decoding's list, as it lies. -/
theorem Gives.len {w w' : World} {d : List Px.Node × Int × Int} {r : Ending} (h : Gives w d r w') : ∃ a c, r = .returned (.tuple #[.slice a d.1.length c, .int .i64 d.2.1, .int .i64 d.2.2]) ∧ Owns w' 63 3 cNode (.slice a d.1.length c) d.1 ∧ Same w w' := by
  obtain ⟨vo, rfl, h1, h2, _⟩ := h
  obtain ⟨a, c, hv, _⟩ := h1.len
  subst hv
  exact ⟨a, c, rfl, h1, h2⟩
def wakeA : Bytes := [48, 3, 4, 1, 97]
def wakeB : Bytes := [4, 129, 5]
def wakeL : List Px.Node := [⟨48, 1, []⟩, ⟨4, -1, [97]⟩]
theorem wakeA_dec : R5.decode wakeA most = (wakeL, 0, 0) := by decide +kernel
theorem wakeB_dec : (R5.decode wakeB most).2 = (2, 9) := by decide +kernel
theorem wakeL_lies (w : World) : Lies (w.alloc (.cells #[.int .u8 48, .int .i64 1, .string ⟨#[]⟩, .int .u8 4, .int .i64 (-1), .string ⟨#[97]⟩] 63 (0, 0))) 3 cNode (.slice (some ⟨w.heap.size, 0, none⟩) 2 2) wakeL := by
  refine ⟨⟨_, _, rfl, Nat.le_refl _, by unfold maxLen; decide⟩, fun j x hj => ?_⟩
  refine ⟨w.heap.size, 0, 2, rfl, by simp, fun i u hu => ?_⟩
  have hb := heap_alloc_new w (.cells #[.int .u8 48, .int .i64 1, .string ⟨#[]⟩, .int .u8 4, .int .i64 (-1), .string ⟨#[97]⟩] 63 (0, 0))
  have hj2 : j = 0 ∨ j = 1 := by
    have := (List.getElem?_eq_some_iff.1 hj).1
    simp [wakeL] at this
    omega
  rcases hj2 with rfl | rfl
  · simp [wakeL] at hj
    subst hj
    have hi : i = 0 ∨ i = 1 ∨ i = 2 := by
      have := (List.getElem?_eq_some_iff.1 hu).1
      simp [cNode] at this
      omega
    rcases hi with rfl | rfl | rfl <;> exact cellOf hb _ hu
  · simp [wakeL] at hj
    subst hj
    have hi : i = 0 ∨ i = 1 ∨ i = 2 := by
      have := (List.getElem?_eq_some_iff.1 hu).1
      simp [cNode] at this
      omega
    rcases hi with rfl | rfl | rfl <;> exact cellOf hb _ hu
theorem enc_wake {d : Bytes × Int} (h : E5.Enc wakeL d) : d = (wakeA, 0) := by
  have h2 := E5.enc_of_decode (s := wakeA) (lim := most) (by rw [wakeA_dec])
  rw [wakeA_dec] at h2
  exact h.det h2
set_option maxRecDepth 100000 in
set_option maxHeartbeats 1000000 in
theorem wakes15_any (w : World) (hT : Tabs w) : Calls Tryd.prog 13 #[] w fun e w' => e = .returned (.bool true) ∧ Same w w' := by
  have HT := Px.hid hT
  clear hT
  go_enter Tryd.func13, Tryd.ntmps13
  go_wp2_with fail
  have hen : Calls Tryd.prog 17 #[.slice (some ⟨w.heap.size, 0, none⟩) 2 2] (w.alloc (.cells #[.int .u8 48, .int .i64 1, .string ⟨#[]⟩, .int .u8 4, .int .i64 (-1), .string ⟨#[97]⟩] 63 (0, 0))) _ :=
    dencode_any _ wakeL _ (wakeL_lies w) (by decide) (HT.out.same ((Same.refl w).alloc _))
  refine hen.mono ?_
  clear hen
  rintro e w1 ⟨d, henc, rfl, hs⟩
  obtain rfl := enc_wake henc
  have HS := Px.hid (Same.trans ((Same.refl w).alloc _) hs)
  clear hs henc
  unfold wakeA
  go_wp2_with fail
  refine (most_any _).mono ?_
  rintro e w2 ⟨rfl, hs⟩
  have HS := Px.hid (HS.out.trans hs)
  clear hs
  go_wp2_with fail
  refine (decode_any wakeA most (by decide) _ (HT.out.same HS.out)).mono ?_
  intro e w3 hg
  obtain ⟨a, c, rfl, ho, hs⟩ := hg.len
  rw [wakeA_dec] at ho
  rw [wakeA_dec]
  have HO := Px.hid ho
  have HS := Px.hid (HS.out.trans hs)
  clear ho hs hg
  go_wp2_with fail
  refine (most_any _).mono ?_
  rintro e w4 ⟨rfl, hs⟩
  have HO := Px.hid (Owns.same HO.out hs)
  have HS := Px.hid (HS.out.trans hs)
  clear hs
  go_wp2_with fail
  refine (decode_any wakeB most (by decide) _ (HT.out.same HS.out)).mono ?_
  intro e w5 hg
  obtain ⟨a2, c2, rfl, _, hs⟩ := hg.len
  rw [wakeB_dec]
  have HO := Px.hid (Owns.same HO.out hs)
  have HS := Px.hid (HS.out.trans hs)
  clear hs hg
  obtain ⟨g, cap, hve, _, _, hcell, _⟩ := HO.out.at cNode_len (j := 1) (a := ⟨4, -1, [97]⟩) rfl
  simp only [Value.slice.injEq] at hve
  have hva := hve.1
  subst hva
  clear hve
  have y2 := hcell 2 _ rfl
  clear hcell
  have hl2 : wakeL.length = 2 := rfl
  go_wp2
  go_ret
  exact ⟨rfl, HS.out⟩
/-- What was there stands, and the tables. -/
structure On (w w' : World) (b : Nat) (lim : Lim) : Prop where
  lim : LimIn w w' b lim
  tabs : Tabs w'
theorem On.sm {w w1 w2 : World} {b : Nat} {lim : Lim} (h : On w w1 b lim) (hs : Same w1 w2) : On w w2 b lim := ⟨h.lim.same hs, h.tabs.same hs⟩
theorem On.boxed {w : World} (lim : Lim) (h : Tabs w) : On w (w.alloc (.cells #[.int .i64 lim.d, .int .i64 lim.i, .int .i64 lim.b, .int .i64 lim.r] 23 (0, 0))) w.heap.size lim := ⟨LimIn.boxed w lim, h.lim (LimIn.boxed w lim)⟩
end Go.Proofs.YtceffhkgnifmeaaDoor
