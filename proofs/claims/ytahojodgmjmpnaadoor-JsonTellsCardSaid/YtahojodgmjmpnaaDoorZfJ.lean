/-
  A string's bytes as a row that is new, and a byte more onto it (its end is frozen: it is no row of the call's own as the library means it); the walk over the reference's begins.
-/
import Derived.Test.YtahojodgmjmpnaaDoorZdJ
import Derived.Test.YtahojodgmjmpnaaDoorUtfJ
import Derived.Lib.ConvBytes
import Derived.Deep.AppendSrc
namespace Go.Proofs.YtahojodgmjmpnaaDoor
open Go.RowKit Go.Px

/-- A row of bytes with room behind it, of which no place is frozen. -/
def RowT (w : World) (g cap : Nat) (l : Bytes) : Prop :=
  ∃ cur fz, w.heap[g]? = some (.cells cur 5 fz) ∧ 0 < l.length ∧ l.length ≤ cap ∧ cap ≤ maxLen ∧ cur.size = cap ∧ cur.toList.take l.length = l.flatMap cByte ∧ ∀ i, i < cap → w.frozen? ⟨g, i, none⟩ = false
theorem RowT.lt {w : World} {g cap : Nat} {l : Bytes} (h : RowT w g cap l) : g < w.heap.size := by
  obtain ⟨cur, fz, h1, _⟩ := h
  exact (Array.getElem?_eq_some_iff.1 h1).1
theorem RowT.keep {w w' : World} {g cap : Nat} {l : Bytes} (h : RowT w g cap l) (hk : w'.heap[g]? = w.heap[g]?) : RowT w' g cap l := by
  obtain ⟨cur, fz, h1, h2, h3, h4, h5, h6, h7⟩ := h
  exact ⟨cur, fz, hk.trans h1, h2, h3, h4, h5, h6, fun i hi => (World.frozen?_of_block (w := w) (a := ⟨g, i, none⟩) hk).trans (h7 i hi)⟩
theorem RowT.cell {w : World} {g cap : Nat} {l : Bytes} (h : RowT w g cap l) (j : Nat) (hj : j < l.length) : w.cell? ⟨g, j, none⟩ = some (.int .u8 ((l.getD j 0).toNat : Nat)) := by
  obtain ⟨cur, fz, h1, h2, h3, h4, h5, h6, h7⟩ := h
  have e : cur.toList[j]? = some (.int .u8 ((l.getD j 0).toNat : Nat)) := by
    have e1 : (cur.toList.take l.length)[j]? = cur.toList[j]? := List.getElem?_take_of_lt hj
    rw [← e1, h6]
    have hm : l.flatMap cByte = l.map (fun c => Value.int .u8 (c.toNat : Nat)) := by
      clear h6 e1 hj h2 h3 h1 h5 h7
      induction l with
      | nil => rfl
      | cons a t ih => rw [List.flatMap_cons, ih]; rfl
    rw [hm, List.getElem?_map, List.getD_eq_getElem?_getD, List.getElem?_eq_getElem hj]
    rfl
  simp only [World.cell?, h1]
  rw [← Array.getElem?_toList]
  exact e
theorem RowT.str {w : World} {g cap : Nat} {l : Bytes} (h : RowT w g cap l) : (convert 62 9 (.slice (some ⟨g, 0, none⟩) l.length cap)).run Tryd.prog w = .ok (S l) w := by
  rw [run_convert_bytes_arg w 62 5 (by kernel_rfl) (by kernel_rfl) g 0 l.length cap (l.map fun c => ((c.toNat : Nat) : Int)) (by simp) ?_ 9 (by kernel_rfl), strOf_bytes]
  intro i hi
  rw [Nat.zero_add, h.cell i hi]
  simp [List.getD, hi]
/-- A string as a new row of bytes. -/
theorem conv_str (l : Bytes) (h0 : 0 < l.length) (h1 : l.length ≤ 1000000) (w : World) :
    ∃ cap W, (convert 9 62 (S l)).run Tryd.prog w = .ok (.slice (some ⟨w.heap.size, 0, none⟩) l.length cap) W ∧ RowT W w.heap.size cap l ∧ Same w W := by
  have hsz : (ByteArray.mk l.toArray).size = l.length := size_S l
  have hr := Go.Lib.run_convert_string_bytes (P := Tryd.prog) w 9 62 5 ⟨l.toArray⟩ (u := .string) (by kernel_rfl) (by kernel_rfl) (by kernel_rfl)
  rw [hsz] at hr
  refine ⟨_, _, hr, ?_, ?_⟩
  · have hge := grownCap_ge w l.length 0 5
    have hle := grownCap_le_maxLen w l.length 0 5 (by unfold maxLen; omega)
    have hcs : (Go.Lib.bytesCells w 5 ⟨l.toArray⟩).size = grownCap w l.length 0 5 := by
      simp [Go.Lib.bytesCells, ByteArray.size]
      omega
    refine ⟨_, _, Go.Lib.bytesWorld_at_new w 5 ⟨l.toArray⟩, h0, hge, hle, hcs, ?_, fun i hi => ?_⟩
    · have e : l.flatMap cByte = l.map (fun c => Value.int .u8 (c.toNat : Nat)) := by
        clear hr hge hle hcs hsz h0 h1
        induction l with
        | nil => rfl
        | cons a t ih => rw [List.flatMap_cons, ih]; rfl
      rw [e]
      simp [Go.Lib.bytesCells]
    · simp only [World.frozen?, Go.Lib.bytesWorld_at_new]
      rw [hcs]
      simp
      omega
  · exact ⟨rfl, rfl, rfl, by rw [Go.Lib.bytesWorld_size]; omega, fun k hk _ => Go.Lib.bytesWorld_at_old w _ _ k hk⟩
theorem flat_map (l : Bytes) : l.flatMap cByte = l.map (fun c => Value.int .u8 (c.toNat : Nat)) := by
  induction l with
  | nil => rfl
  | cons a t ih => rw [List.flatMap_cons, ih]; rfl
/-- A byte more. -/
theorem RowT.push {w : World} {g cap : Nat} {l : Bytes} (h : RowT w g cap l) (hl : l.length ≤ 1000000) (c : UInt8) (ad : Nat) (ty : TypeId) (hc : w.cell? ⟨ad, 0, none⟩ = some (.int .u8 (c.toNat : Nat))) :
    ∃ g' cap' w', (Builtin.append_ #[62, 62] ty #[.slice (some ⟨g, 0, none⟩) l.length cap, .slice (some ⟨ad, 0, none⟩) 1 1]).run Tryd.prog w = .ok (.slice (some ⟨g', 0, none⟩) (l.length + 1) cap') w' ∧
      RowT w' g' cap' (l ++ [c]) ∧ Fr (fun k => k = g) w w' ∧ (g' = g ∨ g' = w.heap.size) := by
  have hcell := h.cell
  obtain ⟨cur, fz, h1, h2, h3, h4, h5, h6, h7⟩ := h
  obtain ⟨i0, hi0, hz0, hz1, hz2⟩ := info_parts Tryd.infoU8
  have hsrc : Src Tryd.prog i0.size 62 (.slice (some ⟨ad, 0, none⟩) 1 1) 1 [.int .u8 (c.toNat : Nat)] w := by
    rw [hz1]
    refine Src.ofSlice w Tryd.underlying62 ⟨ad, 0, none⟩ 1 1 _ (by simp) (fun j u hu => ?_) (fun u hu => ?_)
    · match j, hu with
      | 0, hu => cases hu; exact hc
      | j + 1, hu => simp at hu
    · rw [List.mem_singleton.1 hu]; rfl
  by_cases hroom : l.length + 1 ≤ cap
  · have hr := run_append_room_src (P := Tryd.prog) w 62 62 ty 5 i0 Tryd.underlying62 hi0 g 0 l.length cap _ 1 _ hsrc hroom
      (fun j hj => by
        have hj0 : j = 0 := by simpa using hj
        subst hj0
        rw [hz1]
        simp only [World.cell?, h1]
        rw [Array.getElem?_eq_getElem (by omega)]
        rfl)
      (fun j hj => by
        have hj0 : j = 0 := by simpa using hj
        subst hj0
        rw [hz1]
        have := h7 (0 + l.length * 1 + 0) (by omega)
        exact this)
    rw [hz1, show 0 + l.length * 1 = l.length by omega] at hr
    have hset : (w.setCells g l.length [.int .u8 (c.toNat : Nat)]) = w.setCell ⟨g, l.length, none⟩ (.int .u8 (c.toNat : Nat)) := rfl
    rw [hset] at hr
    have hb : (w.setCell ⟨g, l.length, none⟩ (.int .u8 (c.toNat : Nat))).heap[g]? = some (.cells (cur.setIfInBounds l.length (.int .u8 (c.toNat : Nat))) 5 fz) := by
      simp [World.setCell, Array.getElem?_modify, h1]
    refine ⟨g, cap, _, hr, ⟨_, fz, hb, by simp, by simpa using hroom, h4, by simpa using h5, ?_, fun i hi => ?_⟩, (Fr.refl (fun k => k = g) w).setCell (p := ⟨g, l.length, none⟩) (.inl rfl) _, .inl rfl⟩
    · rw [List.flatMap_append, List.length_append, List.length_singleton, ← h6]
      have hcl : cur.toList.length = cap := by rw [← h5]; exact Array.length_toList
      have hol : l.length < cur.toList.length := by omega
      rw [Array.toList_setIfInBounds, List.take_succ_eq_append_getElem (by rw [List.length_set]; exact hol), List.getElem_set_self, List.take_set_of_le (Nat.le_refl _)]
      rfl
    · have h8 := h7 i hi
      simp only [World.frozen?, hb, h1] at h8 ⊢
      exact h8
  · have holds : ∀ j u, (l.flatMap cByte)[j]? = some u → w.drew.cell? ((⟨g, 0, none⟩ : Addr).add j) = some u := fun j u hu => by
      rw [flat_map, List.getElem?_map] at hu
      cases hl2 : l[j]? with
      | none => rw [hl2] at hu; simp at hu
      | some a =>
        rw [hl2] at hu
        have hj : j < l.length := (List.getElem?_eq_some_iff.1 hl2).1
        have hc2 := hcell j hj
        rw [List.getD_eq_getElem?_getD, hl2] at hc2
        have e : (⟨g, 0, none⟩ : Addr).add j = ⟨g, j, none⟩ := by simp [Addr.add_lit]
        rw [e]
        rw [← hu]
        exact hc2
    have hr := run_append_grow_src (P := Tryd.prog) w 62 62 ty 5 i0 (.int .u8 0) Tryd.underlying62 hi0 hz0 (some ⟨g, 0, none⟩) l.length cap (l.flatMap cByte)
      (run_firstCells_some w.drew i0.size l.length ⟨g, 0, none⟩ l.length cap _ (by rw [hz1, flat_len cByte_len]) holds) _ 1 _ hsrc (by omega) (by omega) (growslice_fits (by omega) (by rw [hz2]; omega))
    have hge := grownCap_ge w (l.length + 1) cap 5
    have hle := grownCap_le_maxLen w (l.length + 1) cap 5 (by unfold maxLen; omega)
    refine ⟨w.heap.size, _, _, hr, ⟨_, (0, 0), heap_alloc_new w.drew _, by simp, by simpa using hge, hle, ?_, ?_, fun i _ => freeOf (heap_alloc_new w.drew _) i⟩, ((Fr.refl _ w).drew).alloc _, .inr rfl⟩
    · rw [Array.size_append, size_zeroCells, List.size_toArray, List.length_append, flat_len cByte_len]
      show l.length * 1 + 1 + (grownCap w (l.length + 1) cap 5 - (l.length + 1)) * 1 = _
      omega
    · have e : (l ++ [c]).length = (l.flatMap cByte ++ [Value.int .u8 (c.toNat : Nat)]).length := by rw [List.length_append, List.length_append, flat_len cByte_len, Nat.mul_one]; rfl
      rw [Array.toList_append, e, List.flatMap_append]
      exact List.take_left
end Go.Proofs.YtahojodgmjmpnaaDoor
