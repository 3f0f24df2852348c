/-
  Plain lemmas on the model's heap: an append of whatever source (a string, too) onto a slice of the call's own. No program is named here.
-/
import Derived.Test.YtddiabaagpmkgaaDoorHeap
import Derived.Deep.AppendSrc
import Derived.Deep.Upon
namespace Go.Px
open Go.RowKit

/-- A row of cells is stored into a block that is known whole. -/
theorem setCells_block (g : Nat) (T : TypeId) : ∀ (vs : List Value) (o : Nat) (w : World) (cur : Array Value), w.heap[g]? = some (.cells cur T (0, 0)) → o + vs.length ≤ cur.size →
    ∃ cur', (w.setCells g o vs).heap[g]? = some (.cells cur' T (0, 0)) ∧ cur'.size = cur.size ∧ cur'.toList.take (o + vs.length) = cur.toList.take o ++ vs ∧ w.grownBy (w.setCells g o vs) (some g)
  | [], o, w, cur, h, _ => ⟨cur, h, rfl, by rw [List.length_nil, Nat.add_zero, List.append_nil], ⟨rfl, rfl, rfl, Nat.le_refl _, fun _ _ _ => rfl⟩⟩
  | v :: r, o, w, cur, h, hl => by
    simp only [List.length_cons] at hl
    have h1 := heap_setCell_same w g o _ _ v h
    obtain ⟨cur', k1, k2, k3, k4⟩ := setCells_block g T r (o + 1) (w.setCell ⟨g, o, none⟩ v) _ h1 (by simp; omega)
    refine ⟨cur', k1, by rw [k2]; simp, ?_, ?_⟩
    · rw [List.length_cons, show o + (r.length + 1) = o + 1 + r.length by omega, k3]
      have hol : o < cur.toList.length := by rw [Array.length_toList]; omega
      have e : (cur.setIfInBounds o v).toList.take (o + 1) = cur.toList.take o ++ [v] := by
        rw [Array.toList_setIfInBounds, List.take_succ_eq_append_getElem (by rw [List.length_set]; exact hol), List.getElem_set_self, List.take_set_of_le (Nat.le_refl _)]
      rw [e, List.append_assoc]
      rfl
    · refine ⟨k4.os, k4.tape, k4.output, by rw [← show (w.setCell ⟨g, o, none⟩ v).heap.size = w.heap.size by simp [World.setCell]]; exact k4.size, fun k hk hne => ?_⟩
      have := k4.block k (by simpa [World.setCell] using hk) hne
      rw [show w.setCells g o (v :: r) = (w.setCell ⟨g, o, none⟩ v).setCells g (o + 1) r from rfl, this]
      exact heap_setCell_other w ⟨g, o, none⟩ k v (fun e => hne (by rw [e]))

/-- THE LAW: whatever is appended onto a slice that is nil or the call's own. -/
theorem run_append_src (P : Program) (w : World) (t tx ty : TypeId) (e : TypeId) (i : TypeInfo) (z : Value) (size bytes : Nat) (ht : P.underlying t = some (.slice e)) (hi : P.info? e = some i) (hz : i.zero = some z)
    (hsize : i.size = size) (hby : i.bytes = bytes) (hzs : z.cells.size = size)
    (v : Value) (n : Nat) (xs : List Value) (hown : w.ownsRow 0 e size v n xs)
    (x : Value) (m : Nat) (news : List Value) (hs : Src P size tx x m news w)
    (hn : 0 < n) (h63 : n + m ≤ maxLen) (hbytes : (n + m) * bytes ≤ 140737488355328) :
    ∃ g cap w', (Builtin.append_ #[t, tx] ty #[v, x]).run P w = .ok (.slice (some ⟨g, 0, none⟩) (n + m) cap) w' ∧
      w'.ownsRow 0 e size (.slice (some ⟨g, 0, none⟩) (n + m) cap) (n + m) (xs ++ news) ∧ w.grownBy w' v.ownBlock ∧ (v.ownBlock = some g ∨ g = w.heap.size) := by
  subst hsize
  subst hby
  have hlen : (xs ++ news).length = (n + m) * i.size := by rw [List.length_append, hown.1, hs.newsLen, Nat.add_mul]
  rcases hown.2 with ⟨_, h0⟩ | ⟨g, cap, cur, rfl, _, hg, hnc, hcm, hcs, htake⟩
  · omega
  · by_cases hroom : n + m ≤ cap
    · have hfit : n * i.size + news.length ≤ cur.size := by rw [hs.newsLen, hcs, ← Nat.add_mul]; exact Nat.mul_le_mul_right _ hroom
      have hr := run_append_room_src (P := P) w t tx ty e i ht hi g 0 n cap x m news hs hroom
        (fun j hj => by simp only [World.cell?, hg]; rw [Array.getElem?_eq_getElem (by omega)]; rfl) (fun j _ => by simp [World.frozen?, hg])
      obtain ⟨cur', k1, k2, k3, k4⟩ := setCells_block g e news (0 + n * i.size) w cur hg (by omega)
      refine ⟨g, cap, _, hr, ⟨hlen, .inr ⟨g, cap, cur', rfl, Nat.zero_le _, k1, hroom, hcm, k2.trans hcs, ?_⟩⟩, k4, .inl rfl⟩
      rw [← hlen, List.length_append, hown.1]
      rw [Nat.zero_add] at k3
      rw [k3, htake]
    · have holds : ∀ j u, xs[j]? = some u → w.drew.cell? ((⟨g, 0, none⟩ : Addr).add j) = some u := hown.cells (g := g) rfl
      have hr := run_append_grow_src (P := P) w t tx ty e i z ht hi hz (some ⟨g, 0, none⟩) n cap xs (run_firstCells_some w.drew i.size n ⟨g, 0, none⟩ n cap xs hown.1 holds) x m news hs (by omega) (by unfold maxLen at h63; omega) (growslice_fits (by omega) hbytes)
      refine ⟨w.heap.size, _, _, hr, ⟨hlen, .inr ⟨w.heap.size, _, _, rfl, Nat.zero_le _, heap_alloc_new w.drew _, grownCap_ge w (n + m) cap e, grownCap_le_maxLen w (n + m) cap e h63, ?_, ?_⟩⟩, ⟨rfl, rfl, rfl, by simp, fun k hk _ => heap_alloc_old w.drew _ hk⟩, .inr rfl⟩
      · have hge := grownCap_ge w (n + m) cap e
        simp only [Array.size_append, List.size_toArray, size_zeroCells, hzs, hlen, ← Nat.add_mul]
        congr 1
        omega
      · simp only [Array.toList_append]
        rw [← hlen]
        exact List.take_left

/-- At an operation. -/
theorem wp_append_src {P : Program} {w : World} {o : Oper} {a : Act} {K : Act → World → Prop} {Q : Exit → Act → World → Prop} (s x : Operand) (t tx : TypeId)
    (ho : o.op = .call { callee := .builtin .append, args := #[s, x], argTypes := #[t, tx] })
    (e : TypeId) (i : TypeInfo) (z : Value) (size bytes : Nat) (ht : P.underlying t = some (.slice e)) (hi : P.info? e = some i) (hz : i.zero = some z)
    (hsize : i.size = size) (hby : i.bytes = bytes) (hzs : z.cells.size = size)
    (v : Value) (n : Nat) (xs : List Value) (hs : a.eval s = v) (hown : w.ownsRow 0 e size v n xs)
    (vx : Value) (m : Nat) (news : List Value) (hx : a.eval x = vx) (hsrc : Src P size tx vx m news w)
    (hn : 0 < n) (h63 : n + m ≤ maxLen) (hbytes : (n + m) * bytes ≤ 140737488355328)
    (h : ∀ g cap w', w'.ownsRow 0 e size (.slice (some ⟨g, 0, none⟩) (n + m) cap) (n + m) (xs ++ news) → w.grownBy w' v.ownBlock → (v.ownBlock = some g ∨ g = w.heap.size) → K (a.put o.dst (.slice (some ⟨g, 0, none⟩) (n + m) cap)) w') : o.wp P a w K Q := by
  obtain ⟨g, cap, w', hr, h2, h3, h4⟩ := run_append_src P w t tx o.type e i z size bytes ht hi hz hsize hby hzs v n xs hown vx m news hsrc hn h63 hbytes
  unfold Oper.wp execOp
  simp only [ho, resolve, invoke, builtin, Sem.run_bind, Sem.run_pure, Result.andThen_ok, List.map_toArray, List.map_cons, List.map_nil, hs, hx, hr]
  exact h g cap w' h2 h3 h4
/-- At a step of a region that draws its order. -/
theorem step_append_src {P : Program} {w : World} {ops : Array Oper} {o : Oper} {a : Act} {K : Act → World → Prop} {Q : Exit → Act → World → Prop} {E : Prop} (hgd : o.guard = none) (s x : Operand) (t tx : TypeId)
    (ho : o.op = .call { callee := .builtin .append, args := #[s, x], argTypes := #[t, tx] })
    (e : TypeId) (i : TypeInfo) (z : Value) (size bytes : Nat) (ht : P.underlying t = some (.slice e)) (hi : P.info? e = some i) (hz : i.zero = some z)
    (hsize : i.size = size) (hby : i.bytes = bytes) (hzs : z.cells.size = size)
    (v : Value) (n : Nat) (xs : List Value) (hs : a.eval s = v) (hown : w.ownsRow 0 e size v n xs)
    (vx : Value) (m : Nat) (news : List Value) (hx : a.eval x = vx) (hsrc : Src P size tx vx m news w)
    (hn : 0 < n) (h63 : n + m ≤ maxLen) (hbytes : (n + m) * bytes ≤ 140737488355328)
    (h : ∀ g cap w', w'.ownsRow 0 e size (.slice (some ⟨g, 0, none⟩) (n + m) cap) (n + m) (xs ++ news) → w.grownBy w' v.ownBlock → (v.ownBlock = some g ∨ g = w.heap.size) → K (a.put o.dst (.slice (some ⟨g, 0, none⟩) (n + m) cap)) w') :
    if Region.wanted o (yielded ops a.tmps) = true then Oper.wp P o a w K Q else E := by
  have hw : Region.wanted o (yielded ops a.tmps) = true := by simp [Region.wanted, hgd]
  rw [if_pos hw]
  exact wp_append_src s x t tx ho e i z size bytes ht hi hz hsize hby hzs v n xs hs hown vx m news hx hsrc hn h63 hbytes h

/-! What lies somewhere as a row, the call's own or not -/
/-- A slice that reads as this list. -/
structure Lies {α : Type} (w : World) (sz : Nat) (c : α → List Value) (v : Value) (l : List α) : Prop where
  slice : ∃ a cap, v = .slice a l.length cap ∧ l.length ≤ cap ∧ cap ≤ maxLen
  cell : ∀ (j : Nat) (x : α), l[j]? = some x → ∃ b off cap, v = .slice (some ⟨b, off, none⟩) l.length cap ∧ b < w.heap.size ∧ ∀ i u, (c x)[i]? = some u → w.cell? ⟨b, off + (j * sz + i), none⟩ = some u
section
variable {α : Type} {w w' : World} {T sz : Nat} {c : α → List Value} {v : Value} {l : List α}
theorem Lies.keep (h : Lies w sz c v l) (hs : w.heap.size ≤ w'.heap.size) (hb : ∀ k, v.ownBlock = some k → w'.heap[k]? = w.heap[k]?) : Lies w' sz c v l :=
  ⟨h.slice, fun j x hj => by
    obtain ⟨b, off, cap, h1, h2, h3⟩ := h.cell j x hj
    refine ⟨b, off, cap, h1, Nat.lt_of_lt_of_le h2 hs, fun i u hu => ?_⟩
    exact (World.cell?_of_block (w := w) (hb b (by rw [h1]; rfl))).trans (h3 i u hu)⟩
theorem Owns.lies (h : Owns w T sz c v l) (hc : ∀ a, (c a).length = sz) : Lies w sz c v l := by
  obtain ⟨a, cap, h1, h2, h3, _⟩ := h.len
  refine ⟨⟨a, cap, h1, h2, h3⟩, fun j x hj => ?_⟩
  obtain ⟨g, cap2, k1, k2, k3, k4, k5⟩ := h.at hc hj
  exact ⟨g, 0, cap2, k1, h.lt (by rw [k1]; rfl), fun i u hu => by rw [Nat.zero_add]; exact k4 i u hu⟩
end
end Go.Px
