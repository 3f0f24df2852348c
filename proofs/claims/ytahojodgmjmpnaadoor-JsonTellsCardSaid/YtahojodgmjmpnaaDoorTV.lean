/-
  Several texts in one: A list of values among a statement's arguments, as plain data.
-/
import Derived.Test.YtahojodgmjmpnaaDoorTQ
import Derived.Test.YtahojodgmjmpnaaDoorTT
import Derived.Deep.Slices
import Derived.Deep.Fields
import Derived.ChangeSame
/-! A list of values among a statement's arguments, as plain data. -/
namespace Go.Proofs.YtahojodgmjmpnaaDoor
open Go.ChangeShapes Go.WideShapes Go.ChangeAt Go.RowKit Go.Px Go.Shelf Go.Lib

theorem exists_list {α : Type} (p : Nat → α → Prop) : ∀ n : Nat, (∀ i, i < n → ∃ x, p i x) → ∃ l : List α, l.length = n ∧ ∀ (i : Nat) (x : α), l[i]? = some x → p i x
  | 0, _ => ⟨[], rfl, fun i x h => by simp at h⟩
  | n + 1, h => by
    obtain ⟨l, hl, hp⟩ := exists_list p n (fun i hi => h i (by omega))
    obtain ⟨x, hx⟩ := h n (Nat.lt_succ_self n)
    refine ⟨l ++ [x], by simp [hl], fun i y hy => ?_⟩
    by_cases hi : i < n
    · rw [List.getElem?_append_left (by omega)] at hy
      exact hp i y hy
    · rw [List.getElem?_append_right (by omega)] at hy
      have h0 : i - l.length = 0 := by
        rcases Nat.eq_zero_or_pos (i - l.length) with e | e
        · exact e
        · rw [List.getElem?_eq_none (by simp; omega)] at hy; cases hy
      rw [h0] at hy
      simp only [List.getElem?_cons_zero, Option.some.injEq] at hy
      obtain rfl := hy
      obtain rfl : i = n := by omega
      exact hx
theorem val_cells : Tryd.prog.cellsOf 58 = 3 ∧ Tryd.prog.cellsOf 3 = 1 ∧ Tryd.prog.cellsOf 9 = 1 := ⟨by kernel_rfl, by kernel_rfl, by kernel_rfl⟩
set_option maxRecDepth 100000 in
theorem open_val {H : Type} {enc : TypeId × Value → H} {w : World} {base : Nat} {sp : Nat → Bool} {held : Bool} {n : Nat} {cs : List Value} {x : DataW H × List MemPlace} (h : DataW.trod enc Tryd.prog w base sp held n 58 cs = some x) :
    ∃ a : Val, cs = cVal a ∧ ((-9223372036854775808 ≤ a.kind ∧ a.kind ≤ 9223372036854775807) ∧ (-9223372036854775808 ≤ a.kids ∧ a.kids ≤ 9223372036854775807)) ∧ ∃ d0 d1, x.1 = .agg [d0, d1, .lit (.string a.text)] := by
  obtain ⟨ys, n', _, hxe, hlen, hyl, hf⟩ := DataW.trod_struct Tryd.underlying58 h
  obtain ⟨hc3, e1, e2⟩ := val_cells
  rw [hc3] at hlen
  match cs, hlen, ys, hyl, hxe with
  | [c0, c1, c2], _, [y0, y1, y2], _, hxe =>
    have h0 : DataW.trod enc Tryd.prog w base sp held n' 3 (([c0, c1, c2].drop 0).take (Tryd.prog.cellsOf 3)) = some y0 := hf 0 _ rfl
    have h1 : DataW.trod enc Tryd.prog w base sp held n' 3 (([c0, c1, c2].drop 1).take (Tryd.prog.cellsOf 3)) = some y1 := hf 1 _ rfl
    have h2 : DataW.trod enc Tryd.prog w base sp held n' 9 (([c0, c1, c2].drop 2).take (Tryd.prog.cellsOf 9)) = some y2 := hf 2 _ rfl
    rw [e1] at h0
    rw [e1] at h1
    rw [e2] at h2
    obtain ⟨a, ea, _, wa⟩ := DataW.trod_int (x := y0) Tryd.underlying3 h0
    obtain ⟨b, eb, _, wb⟩ := DataW.trod_int (x := y1) Tryd.underlying3 h1
    obtain ⟨s, es, hy2, ws⟩ := DataW.trod_string (x := y2) Tryd.underlying9 h2
    simp only [List.drop_zero, List.drop_succ_cons, List.take_succ_cons, List.take_zero, List.cons.injEq, and_true] at ea eb es
    refine ⟨⟨a, b, s.data.toList⟩, ?_, ⟨int_range wa, int_range wb⟩, y0.1, y1.1, ?_⟩
    · rw [ea, eb, es]
      unfold cVal
      rw [← mk_S]
    · rw [hxe, hy2]
      rfl
set_option maxRecDepth 100000 in
theorem open_vals {H : Type} {enc : TypeId × Value → H} {w : World} {base b0 : Nat} {held : Bool} {r : Reach} {v : Value} {d : DataW H} {ps : List MemPlace} (hv : Value.okWide Tryd.prog w r b0 25 v) (h : DataW.Trod enc Tryd.prog w base (fun _ => true) held 25 v d ps) :
    ∃ l : List Val, ValsAt w v l ∧ (l = [] ∨ ∃ elems spare, d = .slice elems spare ∧ elems.length = l.length ∧ ∀ (i : Nat) (a : Val), l[i]? = some a → ∃ d0 d1, .agg [d0, d1, .lit (.string a.text)] ∈ elems) := by
  obtain ⟨a0, len, cap, rfl⟩ := okWide_slice Tryd.underlying25 hv
  obtain ⟨fuel, hf⟩ := h
  have hc3 := val_cells.1
  rcases Go.Deep.open_slice Tryd.underlying25 hf with ⟨hcs, _⟩ | ⟨a, len', cap', m, n, D, Pl, hcs, _, hl, hm, hmm, hx, hi⟩
  · simp [Value.cells] at hcs
    obtain ⟨rfl, rfl, rfl⟩ := hcs
    exact ⟨[], ⟨⟨⟨none, 0, rfl, Nat.le_refl _, Nat.zero_le _⟩, fun j x h => by simp at h⟩, fun a ha => by cases ha⟩, .inl rfl⟩
  · simp [Value.cells] at hcs
    obtain ⟨rfl, rfl, rfl⟩ := hcs
    simp only [if_true] at hmm
    simp only [Prod.mk.injEq] at hx
    rw [hc3] at hi
    obtain ⟨l, hll, hp⟩ := exists_list (fun i x => (∀ j u, (cVal x)[j]? = some u → w.cell? (a.add (i * 3 + j)) = some u) ∧ ((-9223372036854775808 ≤ x.kind ∧ x.kind ≤ 9223372036854775807) ∧ (-9223372036854775808 ≤ x.kids ∧ x.kids ≤ 9223372036854775807)) ∧ ∃ d0 d1, D i = .agg [d0, d1, .lit (.string x.text)]) len (fun i hil => by
      obtain ⟨cs', hc, ht⟩ := hi i (by omega)
      obtain ⟨x, rfl, h1, h2⟩ := open_val ht
      obtain ⟨_, _, hat⟩ := World.cells?_some hc
      refine ⟨x, fun j u hu => ?_, h1, h2⟩
      have hj : j < 3 := by
        rcases Nat.lt_or_ge j 3 with e | e
        · exact e
        · rw [List.getElem?_eq_none (show (cVal x).length ≤ j from e)] at hu; cases hu
      rw [← Go.Deep.add_add, hat j hj]
      exact hu)
    refine ⟨l, ⟨⟨⟨some a, cap, by rw [hll], by omega, hm⟩, fun j x hj => ?_⟩, fun x hx => ?_⟩, .inr ⟨_, _, hx.1, by simp [hll], fun i x hix => ?_⟩⟩
    · obtain ⟨hcell, _, _⟩ := hp j x hj
      obtain ⟨b, off, spot⟩ := a
      have h0 := hcell 0 _ rfl
      have hspot : spot = none := by
        have hl0 : 0 < l.length := Nat.lt_of_le_of_lt (Nat.zero_le _) (List.getElem?_eq_some_iff.1 hj).1
        have h00 := (hp 0 l[0] (List.getElem?_eq_getElem hl0)).1 0 _ rfl
        exact World.cell?_spot (show w.cell? ⟨b, off, spot⟩ = some _ from h00)
      subst hspot
      refine ⟨b, off, cap, by rw [hll], ?_, fun i u hu => ?_⟩
      · have := World.block_lt_of_cell? w _ h0
        rw [Go.WideShapes.add_plain] at this
        exact this
      · have := hcell i u hu
        rw [Go.WideShapes.add_plain] at this
        exact this
    · obtain ⟨j, hj, rfl⟩ := List.getElem_of_mem hx
      exact (hp j _ (List.getElem?_eq_getElem hj)).2.1
    · obtain ⟨_, _, d0, d1, e⟩ := hp i x hix
      have hil : i < l.length := (List.getElem?_eq_some_iff.1 hix).1
      exact ⟨d0, d1, List.mem_map.2 ⟨i, List.mem_range.2 (by omega), e⟩⟩
theorem weights_all {H : Type} {P : Program} {e : TypeId} {n : Nat} : ∀ {elems : List (DataW H)} {d : DataW H}, d ∈ elems → n ∈ d.weights P e → n ∈ DataW.weightsAll P e elems
  | x :: r, d, h, hn => by
    unfold DataW.weightsAll
    rcases List.mem_cons.1 h with rfl | h
    · exact List.mem_append_left _ hn
    · exact List.mem_append_right _ (weights_all h hn)
theorem vals_reach {H : Type} {ts : List TypeId} {ds : List (DataW H)} {d : DataW H} {l : List Val} (hsz : (DataW.weightsEach Tryd.prog ts ds).all (· ≤ reachBytes) = true) {j : Nat} (ht : ts[j]? = some 25) (hd : ds[j]? = some d) (h : l = [] ∨ ∃ elems spare, d = .slice elems spare ∧ elems.length = l.length ∧ ∀ (i : Nat) (a : Val), l[i]? = some a → ∃ d0 d1, .agg [d0, d1, .lit (.string a.text)] ∈ elems) : l.length * 32 ≤ 140737488351232 ∧ ∀ a ∈ l, a.text.length ≤ 140737488351232 := by
  rcases h with rfl | ⟨elems, spare, rfl, he, hm⟩
  · exact ⟨by simp, nofun⟩
  · refine ⟨?_, fun a ha => ?_⟩
    · have := sized_slice hsz ht hd Tryd.underlying25
      rw [show Tryd.prog.bytesOf 58 = 32 by kernel_rfl, he] at this
      have h2 : (l.length + spare.length) * 32 ≤ 140737488351232 := this
      omega
    · obtain ⟨i, hi, rfl⟩ := List.getElem_of_mem ha
      obtain ⟨d0, d1, hmem⟩ := hm i _ (List.getElem?_eq_getElem hi)
      have hw : l[i].text.length ∈ DataW.weights Tryd.prog 25 (DataW.slice elems spare) := by
        unfold DataW.weights
        rw [Tryd.underlying25]
        refine List.mem_cons_of_mem _ (List.mem_append_left _ (weights_all hmem ?_))
        unfold DataW.weights
        rw [Tryd.underlying58]
        simp [DataW.weightsEach, DataW.weights]
      have := List.all_eq_true.1 hsz _ (DataW.weights_mem_each ht hd _ hw)
      have h2 : l[i].text.length ≤ reachBytes := by simpa using this
      exact h2
end Go.Proofs.YtahojodgmjmpnaaDoor
