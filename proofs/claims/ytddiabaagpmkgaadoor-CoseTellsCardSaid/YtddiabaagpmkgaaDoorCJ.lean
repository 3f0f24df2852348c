/-
 Several texts in one: An envelope among a statement's arguments, as plain data.
-/
import Derived.Test.YtddiabaagpmkgaaDoorCK
import Derived.Test.YtddiabaagpmkgaaDoorCF
import Derived.Deep.Slices
import Derived.Deep.Fields
import Derived.ChangeSame
/-! An envelope among a statement's arguments, as plain data. -/
namespace Go.Proofs.YtddiabaagpmkgaaDoor
open Go.ChangeShapes Go.WideShapes Go.ChangeAt Go.RowKit Go.Px Go.Px.Co Go.Shelf Go.Lib

theorem exists_list {α : Type} (p : Nat → α → Prop) : ∀ n : Nat, (∀ i, i < n → ∃ x, p i x) → ∃ l : List α, l.length = n ∧ ∀ (i : Nat) (x : α), l[i]? = some x → p i x
 | 0, _ => ⟨[], rfl, fun i x h => by simp at h⟩
 | n + 1, h => by
  obtain ⟨l, hl, hp⟩ := exists_list p n (fun i hi => h i (by omega))
  obtain ⟨x, hx⟩ := h n (Nat.lt_succ_self n)
  refine ⟨l ++ [x], by simp [hl], fun i y hy => ?_⟩
  by_cases hi : i < n
  ·rw [List.getElem?_append_left (by omega)] at hy
   exact hp i y hy
  ·rw [List.getElem?_append_right (by omega)] at hy
   have h0 : i - l.length = 0 := by
    rcases Nat.eq_zero_or_pos (i - l.length) with e | e
    ·exact e
    ·rw [List.getElem?_eq_none (by simp; omega)] at hy; cases hy
   rw [h0] at hy
   simp only [List.getElem?_cons_zero, Option.some.injEq] at hy
   obtain rfl := hy
   obtain rfl : i = n := by omega
   exact hx
theorem weights_all {H : Type} {P : Program} {e : TypeId} {n : Nat} : ∀ {elems : List (DataW H)} {d : DataW H}, d ∈ elems → n ∈ d.weights P e → n ∈ DataW.weightsAll P e elems
 | x :: r, d, h, hn => by
  unfold DataW.weightsAll
  rcases List.mem_cons.1 h with rfl | h
  ·exact List.mem_append_left _ hn
  ·exact List.mem_append_right _ (weights_all h hn)
theorem rec_cells : Tryd.prog.cellsOf 59 = 9 ∧ Tryd.prog.cellsOf 27 = 9 ∧ Tryd.prog.cellsOf 3 = 1 ∧ Tryd.prog.cellsOf 25 = 1 ∧ Tryd.prog.cellsOf 9 = 1 := ⟨by kernel_rfl, by kernel_rfl, by kernel_rfl, by kernel_rfl, by kernel_rfl⟩
def InI (n : Int) : Prop := -9223372036854775808 ≤ n ∧ n ≤ 9223372036854775807
def RecIn (r : Rec) : Prop := InI r.way ∧ InI r.size ∧ InI r.kind ∧ InI r.rounds
def RecD {H : Type} (r : Rec) (d : DataW H) : Prop := ∃ d0 d1 d2 d6 : DataW H, d = .agg [d0, d1, d2, .lit (.string r.name), .lit (.string r.key), .lit (.string r.salt), d6, .lit (.string r.iv), .lit (.string r.loose)]
set_option maxRecDepth 100000 in
set_option maxHeartbeats 2000000 in
theorem open_rec {H : Type} {enc : TypeId × Value → H} {w : World} {base : Nat} {sp : Nat → Bool} {held : Bool} {n : Nat} {cs : List Value} {x : DataW H × List MemPlace} (h : DataW.trod enc Tryd.prog w base sp held n 59 cs = some x) :
  ∃ a : Rec, cs = cRec a ∧ RecIn a ∧ RecD a x.1 := by
 obtain ⟨ys, n', _, hxe, hlen, hyl, hf⟩ := DataW.trod_struct Tryd.underlying59 h
 obtain ⟨hc3, _, e0, _, e2⟩ := rec_cells
 rw [hc3] at hlen
 match cs, hlen, ys, hyl, hxe with
 | [c0, c1, c2, c3, c4, c5, c6, c7, c8], _, [y0, y1, y2, y3, y4, y5, y6, y7, y8], _, hxe =>
  have h0 : DataW.trod enc Tryd.prog w base sp held n' 3 (([c0, c1, c2, c3, c4, c5, c6, c7, c8].drop 0).take (Tryd.prog.cellsOf 3)) = some y0 := hf 0 _ rfl
  have h1 : DataW.trod enc Tryd.prog w base sp held n' 3 (([c0, c1, c2, c3, c4, c5, c6, c7, c8].drop 1).take (Tryd.prog.cellsOf 3)) = some y1 := hf 1 _ rfl
  have h2 : DataW.trod enc Tryd.prog w base sp held n' 3 (([c0, c1, c2, c3, c4, c5, c6, c7, c8].drop 2).take (Tryd.prog.cellsOf 3)) = some y2 := hf 2 _ rfl
  have h3 : DataW.trod enc Tryd.prog w base sp held n' 9 (([c0, c1, c2, c3, c4, c5, c6, c7, c8].drop 3).take (Tryd.prog.cellsOf 9)) = some y3 := hf 3 _ rfl
  have h4 : DataW.trod enc Tryd.prog w base sp held n' 9 (([c0, c1, c2, c3, c4, c5, c6, c7, c8].drop 4).take (Tryd.prog.cellsOf 9)) = some y4 := hf 4 _ rfl
  have h5 : DataW.trod enc Tryd.prog w base sp held n' 9 (([c0, c1, c2, c3, c4, c5, c6, c7, c8].drop 5).take (Tryd.prog.cellsOf 9)) = some y5 := hf 5 _ rfl
  have h6 : DataW.trod enc Tryd.prog w base sp held n' 3 (([c0, c1, c2, c3, c4, c5, c6, c7, c8].drop 6).take (Tryd.prog.cellsOf 3)) = some y6 := hf 6 _ rfl
  have h7 : DataW.trod enc Tryd.prog w base sp held n' 9 (([c0, c1, c2, c3, c4, c5, c6, c7, c8].drop 7).take (Tryd.prog.cellsOf 9)) = some y7 := hf 7 _ rfl
  have h8 : DataW.trod enc Tryd.prog w base sp held n' 9 (([c0, c1, c2, c3, c4, c5, c6, c7, c8].drop 8).take (Tryd.prog.cellsOf 9)) = some y8 := hf 8 _ rfl
  rw [e0] at h0 h1 h2 h6
  rw [e2] at h3 h4 h5 h7 h8
  obtain ⟨a0, q0, _, w0⟩ := DataW.trod_int (x := y0) Tryd.underlying3 h0
  obtain ⟨a1, q1, _, w1⟩ := DataW.trod_int (x := y1) Tryd.underlying3 h1
  obtain ⟨a2, q2, _, w2⟩ := DataW.trod_int (x := y2) Tryd.underlying3 h2
  obtain ⟨s3, q3, r3, _⟩ := DataW.trod_string (x := y3) Tryd.underlying9 h3
  obtain ⟨s4, q4, r4, _⟩ := DataW.trod_string (x := y4) Tryd.underlying9 h4
  obtain ⟨s5, q5, r5, _⟩ := DataW.trod_string (x := y5) Tryd.underlying9 h5
  obtain ⟨a6, q6, _, w6⟩ := DataW.trod_int (x := y6) Tryd.underlying3 h6
  obtain ⟨s7, q7, r7, _⟩ := DataW.trod_string (x := y7) Tryd.underlying9 h7
  obtain ⟨s8, q8, r8, _⟩ := DataW.trod_string (x := y8) Tryd.underlying9 h8
  simp only [List.drop_zero, List.drop_succ_cons, List.take_succ_cons, List.take_zero, List.cons.injEq, and_true] at q0 q1 q2 q3 q4 q5 q6 q7 q8
  refine ⟨⟨a0, a1, a2, s3.data.toList, s4.data.toList, s5.data.toList, a6, s7.data.toList, s8.data.toList⟩, ?_, ⟨int_range w0, int_range w1, int_range w2, int_range w6⟩, y0.1, y1.1, y2.1, y6.1, ?_⟩
  ·rw [q0, q1, q2, q3, q4, q5, q6, q7, q8]
   unfold cRec
   simp only [← mk_S]
  ·rw [hxe, r3, r4, r5, r7, r8]
   rfl
/-- A slice of recipients in memory. -/
def RecsD {H : Type} (l : List Rec) (d : DataW H) : Prop := l = [] ∨ ∃ elems spare, d = .slice elems spare ∧ elems.length = l.length ∧ ∀ (i : Nat) (a : Rec), l[i]? = some a → ∃ e ∈ elems, RecD a e
set_option maxRecDepth 100000 in
theorem open_recs {H : Type} {enc : TypeId × Value → H} {w : World} {base : Nat} {held : Bool} {fuel : Nat} {v : Value} {x : DataW H × List MemPlace} (hf : DataW.trod enc Tryd.prog w base (fun _ => true) held fuel 25 [v] = some x) :
  ∃ l : List Rec, Lies w 9 cRec v l ∧ (∀ a ∈ l, RecIn a) ∧ RecsD l x.1 := by
 have hc3 := rec_cells.1
 rcases Go.Deep.open_slice Tryd.underlying25 hf with ⟨hcs, _⟩ | ⟨a, len', cap', m, n, D, Pl, hcs, _, hl, hm, hmm, hx, hi⟩
 ·simp only [List.cons.injEq, and_true] at hcs
  subst hcs
  exact ⟨[], ⟨⟨none, 0, rfl, Nat.le_refl _, Nat.zero_le _⟩, fun j x h => by simp at h⟩, fun a ha => (nomatch ha), .inl rfl⟩
 ·simp only [List.cons.injEq, and_true] at hcs
  subst hcs
  simp only [if_true] at hmm
  rw [hc3] at hi
  obtain ⟨l, hll, hp⟩ := exists_list (fun i x => (∀ j u, (cRec x)[j]? = some u → w.cell? (a.add (i * 9 + j)) = some u) ∧ RecIn x ∧ RecD x (D i)) len' (fun i hil => by
   obtain ⟨cs', hc, ht⟩ := hi i (by omega)
   obtain ⟨x, rfl, h1, h2⟩ := open_rec ht
   obtain ⟨_, _, hat⟩ := World.cells?_some hc
   refine ⟨x, fun j u hu => ?_, h1, h2⟩
   have hj : j < 9 := by
    rcases Nat.lt_or_ge j 9 with e | e
    ·exact e
    ·rw [List.getElem?_eq_none (show (cRec x).length ≤ j from e)] at hu; cases hu
   rw [← Go.Deep.add_add, hat j hj]
   exact hu)
  refine ⟨l, ⟨⟨some a, cap', by rw [hll], by omega, hm⟩, fun j x hj => ?_⟩, fun x hx => ?_, .inr ⟨_, _, congrArg Prod.fst hx, by simp [hll], fun i x hix => ?_⟩⟩
  ·obtain ⟨hcell, _, _⟩ := hp j x hj
   obtain ⟨b, off, spot⟩ := a
   have h0 := hcell 0 _ rfl
   have hspot : spot = none := by
    have hl0 : 0 < l.length := Nat.lt_of_le_of_lt (Nat.zero_le _) (List.getElem?_eq_some_iff.1 hj).1
    have h00 := (hp 0 l[0] (List.getElem?_eq_getElem hl0)).1 0 _ rfl
    exact World.cell?_spot (show w.cell? ⟨b, off, spot⟩ = some _ from h00)
   subst hspot
   refine ⟨b, off, cap', by rw [hll], ?_, fun i u hu => ?_⟩
   ·have := World.block_lt_of_cell? w _ h0
    rw [Go.WideShapes.add_plain] at this
    exact this
   ·have := hcell i u hu
    rw [Go.WideShapes.add_plain] at this
    exact this
  ·obtain ⟨j, hj, rfl⟩ := List.getElem_of_mem hx
   exact (hp j _ (List.getElem?_eq_getElem hj)).2.1
  ·obtain ⟨_, _, hd⟩ := hp i x hix
   have hil : i < l.length := (List.getElem?_eq_some_iff.1 hix).1
   exact ⟨_, List.mem_map.2 ⟨i, List.mem_range.2 (by omega), rfl⟩, hd⟩
/-- An envelope's data. -/
def EnvD {H : Type} (x : Env) (d : DataW H) : Prop := ∃ d0 d1 d2 : DataW H, d = .agg [d0, d1, d2, .lit (.string x.header), .lit (.string x.loose), .lit (.string x.aad), .lit (.string x.iv), .lit (.string x.cipher), .lit (.string x.tag)] ∧ RecsD x.to d2
/-- An envelope as an argument. -/
structure EnvArg (w : World) (v : Value) (x : Env) (vto : Value) : Prop where
 eq : v = .agg (envC x vto)
 rcs : Lies w 9 cRec vto x.to
 ints : InI x.fmt ∧ InI x.alg ∧ ∀ a ∈ x.to, RecIn a
set_option maxRecDepth 100000 in
set_option maxHeartbeats 2000000 in
theorem open_env {H : Type} {enc : TypeId × Value → H} {w : World} {base b0 : Nat} {held : Bool} {r : Reach} {v : Value} {d : DataW H} {ps : List MemPlace} (hv : Value.okWide Tryd.prog w r b0 27 v) (h : DataW.Trod enc Tryd.prog w base (fun _ => true) held 27 v d ps) :
  ∃ (x : Env) (vto : Value), EnvArg w v x vto ∧ EnvD x d := by
 obtain ⟨cs, rfl, hcs⟩ := okWide_struct Tryd.underlying27 hv
 obtain ⟨fuel, hf0⟩ := h
 obtain ⟨_, hc9, e0, e1, e2⟩ := rec_cells
 obtain ⟨cl⟩ := cs
 have hf0 : DataW.trod enc Tryd.prog w base (fun _ => true) held fuel 27 cl = some (d, ps) := by simpa [Value.cells] using hf0
 obtain ⟨ys, n', _, hxe, hlen, hyl, hf⟩ := DataW.trod_struct Tryd.underlying27 hf0
 rw [hc9] at hlen
 match cl, hlen, ys, hyl, hxe with
 | [c0, c1, c2, c3, c4, c5, c6, c7, c8], _, [y0, y1, y2, y3, y4, y5, y6, y7, y8], _, hxe =>
  have h0 : DataW.trod enc Tryd.prog w base (fun _ => true) held n' 3 (([c0, c1, c2, c3, c4, c5, c6, c7, c8].drop 0).take (Tryd.prog.cellsOf 3)) = some y0 := hf 0 _ rfl
  have h1 : DataW.trod enc Tryd.prog w base (fun _ => true) held n' 3 (([c0, c1, c2, c3, c4, c5, c6, c7, c8].drop 1).take (Tryd.prog.cellsOf 3)) = some y1 := hf 1 _ rfl
  have h2 : DataW.trod enc Tryd.prog w base (fun _ => true) held n' 25 (([c0, c1, c2, c3, c4, c5, c6, c7, c8].drop 2).take (Tryd.prog.cellsOf 25)) = some y2 := hf 2 _ rfl
  have h3 : DataW.trod enc Tryd.prog w base (fun _ => true) held n' 9 (([c0, c1, c2, c3, c4, c5, c6, c7, c8].drop 3).take (Tryd.prog.cellsOf 9)) = some y3 := hf 3 _ rfl
  have h4 : DataW.trod enc Tryd.prog w base (fun _ => true) held n' 9 (([c0, c1, c2, c3, c4, c5, c6, c7, c8].drop 4).take (Tryd.prog.cellsOf 9)) = some y4 := hf 4 _ rfl
  have h5 : DataW.trod enc Tryd.prog w base (fun _ => true) held n' 9 (([c0, c1, c2, c3, c4, c5, c6, c7, c8].drop 5).take (Tryd.prog.cellsOf 9)) = some y5 := hf 5 _ rfl
  have h6 : DataW.trod enc Tryd.prog w base (fun _ => true) held n' 9 (([c0, c1, c2, c3, c4, c5, c6, c7, c8].drop 6).take (Tryd.prog.cellsOf 9)) = some y6 := hf 6 _ rfl
  have h7 : DataW.trod enc Tryd.prog w base (fun _ => true) held n' 9 (([c0, c1, c2, c3, c4, c5, c6, c7, c8].drop 7).take (Tryd.prog.cellsOf 9)) = some y7 := hf 7 _ rfl
  have h8 : DataW.trod enc Tryd.prog w base (fun _ => true) held n' 9 (([c0, c1, c2, c3, c4, c5, c6, c7, c8].drop 8).take (Tryd.prog.cellsOf 9)) = some y8 := hf 8 _ rfl
  rw [e0] at h0 h1
  rw [e1] at h2
  rw [e2] at h3 h4 h5 h6 h7 h8
  obtain ⟨a0, q0, _, w0⟩ := DataW.trod_int (x := y0) Tryd.underlying3 h0
  obtain ⟨a1, q1, _, w1⟩ := DataW.trod_int (x := y1) Tryd.underlying3 h1
  obtain ⟨l, hl1, hl2, hl3⟩ := open_recs (x := y2) (v := c2) (by simpa using h2)
  obtain ⟨s3, q3, r3, _⟩ := DataW.trod_string (x := y3) Tryd.underlying9 h3
  obtain ⟨s4, q4, r4, _⟩ := DataW.trod_string (x := y4) Tryd.underlying9 h4
  obtain ⟨s5, q5, r5, _⟩ := DataW.trod_string (x := y5) Tryd.underlying9 h5
  obtain ⟨s6, q6, r6, _⟩ := DataW.trod_string (x := y6) Tryd.underlying9 h6
  obtain ⟨s7, q7, r7, _⟩ := DataW.trod_string (x := y7) Tryd.underlying9 h7
  obtain ⟨s8, q8, r8, _⟩ := DataW.trod_string (x := y8) Tryd.underlying9 h8
  simp only [List.drop_zero, List.drop_succ_cons, List.take_succ_cons, List.take_zero, List.cons.injEq, and_true] at q0 q1 q3 q4 q5 q6 q7 q8
  refine ⟨⟨a0, a1, l, s3.data.toList, s4.data.toList, s5.data.toList, s6.data.toList, s7.data.toList, s8.data.toList⟩, c2, ⟨?_, hl1, int_range w0, int_range w1, hl2⟩, y0.1, y1.1, y2.1, ?_, hl3⟩
  ·rw [q0, q1, q3, q4, q5, q6, q7, q8]
   unfold envC
   simp only [← mk_S]
  ·have hd : d = .agg [y0.1, y1.1, y2.1, y3.1, y4.1, y5.1, y6.1, y7.1, y8.1] := congrArg Prod.fst hxe
   rw [hd, r3, r4, r5, r6, r7, r8]
/-- Within the reach. -/
structure EnvReach (x : Env) : Prop where
 rcs : x.to.length * 112 ≤ 140737488351232
 tx : x.header.length ≤ 140737488351232 ∧ x.loose.length ≤ 140737488351232 ∧ x.aad.length ≤ 140737488351232 ∧ x.iv.length ≤ 140737488351232 ∧ x.cipher.length ≤ 140737488351232 ∧ x.tag.length ≤ 140737488351232
 rc : ∀ a ∈ x.to, a.name.length ≤ 140737488351232 ∧ a.key.length ≤ 140737488351232 ∧ a.salt.length ≤ 140737488351232 ∧ a.iv.length ≤ 140737488351232 ∧ a.loose.length ≤ 140737488351232
theorem env_reach {H : Type} {ts : List TypeId} {ds : List (DataW H)} {d : DataW H} {x : Env} (hsz : (DataW.weightsEach Tryd.prog ts ds).all (· ≤ reachBytes) = true) {j : Nat} (ht : ts[j]? = some 27) (hd : ds[j]? = some d) (h : EnvD x d) : EnvReach x := by
 obtain ⟨d0, d1, d2, rfl, hr⟩ := h
 have hw : ∀ n ∈ DataW.weights Tryd.prog 27 (DataW.agg [d0, d1, d2, .lit (.string x.header), .lit (.string x.loose), .lit (.string x.aad), .lit (.string x.iv), .lit (.string x.cipher), .lit (.string x.tag)]), n ≤ 140737488351232 := fun n hn => by
  have := List.all_eq_true.1 hsz _ (DataW.weights_mem_each ht hd _ hn)
  have h2 : n ≤ reachBytes := by simpa using this
  exact h2
 have hrec : ∀ n ∈ DataW.weights Tryd.prog 25 d2, n ≤ 140737488351232 := fun n hn => hw n (by
  unfold DataW.weights
  rw [Tryd.underlying27]
  simp [DataW.weightsEach, hn])
 have hs : ∀ s ∈ [x.header, x.loose, x.aad, x.iv, x.cipher, x.tag], s.length ≤ 140737488351232 := fun s hs => hw _ (by
  unfold DataW.weights
  rw [Tryd.underlying27]
  simp only [List.mem_cons, List.not_mem_nil, or_false] at hs
  rcases hs with rfl | rfl | rfl | rfl | rfl | rfl <;> simp [DataW.weightsEach, DataW.weights])
 refine ⟨?_, ⟨hs _ (by simp), hs _ (by simp), hs _ (by simp), hs _ (by simp), hs _ (by simp), hs _ (by simp)⟩, fun a ha => ?_⟩
 ·rcases hr with e | ⟨elems, spare, rfl, he, _⟩
  ·rw [e]; simp
  ·have := hrec ((elems.length + spare.length) * Tryd.prog.bytesOf 59) (by
    unfold DataW.weights
    rw [Tryd.underlying25]
    exact List.mem_cons_self)
   rw [show Tryd.prog.bytesOf 59 = 112 by kernel_rfl, he] at this
   omega
 ·rcases hr with e | ⟨elems, spare, rfl, he, hm⟩
  ·rw [e] at ha; cases ha
  ·obtain ⟨i, hi, rfl⟩ := List.getElem_of_mem ha
   obtain ⟨e, hmem, r0, r1, r2, r6, rfl⟩ := hm i _ (List.getElem?_eq_getElem hi)
   have hall : ∀ s ∈ [x.to[i].name, x.to[i].key, x.to[i].salt, x.to[i].iv, x.to[i].loose], s.length ≤ 140737488351232 := fun s hs => hrec _ (by
    unfold DataW.weights
    rw [Tryd.underlying25]
    refine List.mem_cons_of_mem _ (List.mem_append_left _ (weights_all hmem ?_))
    unfold DataW.weights
    rw [Tryd.underlying59]
    simp only [List.mem_cons, List.not_mem_nil, or_false] at hs
    rcases hs with rfl | rfl | rfl | rfl | rfl <;> simp [DataW.weightsEach, DataW.weights])
   exact ⟨hall _ (by simp), hall _ (by simp), hall _ (by simp), hall _ (by simp), hall _ (by simp)⟩
end Go.Proofs.YtddiabaagpmkgaaDoor
