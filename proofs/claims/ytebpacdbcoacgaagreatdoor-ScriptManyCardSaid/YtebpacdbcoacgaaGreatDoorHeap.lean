/-
  Plain lemmas on the model's heap: what changes (Fr), what a slice of the call's own holds (Owns). No program is named here.
-/
import Derived.WalkKit
import Derived.Deep.AppendLies
import Derived.WalkSmall
namespace Go.Px
open Go.RowKit

theorem or_byte (n c : Nat) (hc : c < 256) (h : n * 256 + c < 18446744073709551616) : bits .or .u64 ((n : Int) * 256) (c : Int) = ((n * 256 + c : Nat) : Int) := by
  have e : ((n : Int) * 256) = ((n * 256 : Nat) : Int) := by omega
  rw [e, u64_or_nat (n * 256) c (Nat.lt_of_le_of_lt (Nat.le_add_right _ _) h) (Nat.lt_of_le_of_lt (Nat.le_add_left _ _) h)]
  have := Nat.shiftLeft_add_eq_or_of_lt (show c < 2 ^ 8 by simpa using hc) n
  rw [Nat.shiftLeft_eq] at this
  rw [← this]
theorem hid {p : Prop} (h : p) : Hid p := h

/-- From w to w' only blocks of F have changed (and blocks were made). -/
structure Fr (F : Nat → Prop) (w w' : World) : Prop where
  os : w'.os = w.os
  tape : w'.tape = w.tape
  output : w'.output = w.output
  size : w.heap.size ≤ w'.heap.size
  block : ∀ k, k < w.heap.size → ¬ F k → w'.heap[k]? = w.heap[k]?

section
variable {F G H : Nat → Prop} {w w1 w2 : World}
theorem Fr.refl (F : Nat → Prop) (w : World) : Fr F w w := ⟨rfl, rfl, rfl, Nat.le_refl _, fun _ _ _ => rfl⟩
theorem Fr.trans (h : Fr F w w1) (k : Fr G w1 w2) (hg : ∀ b, b < w.heap.size → G b → F b) : Fr F w w2 :=
  ⟨k.os.trans h.os, k.tape.trans h.tape, k.output.trans h.output, Nat.le_trans h.size k.size, fun b hb hn => (k.block b (Nat.lt_of_lt_of_le hb h.size) (fun x => hn (hg b hb x))).trans (h.block b hb hn)⟩
theorem Fr.mono (h : Fr F w w1) (hg : ∀ b, F b → G b) : Fr G w w1 := ⟨h.os, h.tape, h.output, h.size, fun b hb hn => h.block b hb (fun x => hn (hg b x))⟩
theorem Fr.drew (h : Fr F w w1) : Fr F w w1.drew := ⟨h.os, h.tape, h.output, h.size, h.block⟩
theorem Fr.drewN (h : Fr F w w1) (n : Nat) : Fr F w (w1.drewN n) := ⟨h.os, h.tape, h.output, h.size, h.block⟩
theorem Fr.alloc (h : Fr F w w1) (o : Obj) : Fr F w (w1.alloc o) :=
  ⟨h.os, h.tape, h.output, by have := h.size; simp; omega, fun b hb hn => (Below.heap_alloc w1 o b (Nat.lt_of_lt_of_le hb h.size)).trans (h.block b hb hn)⟩
theorem Fr.setCell (h : Fr F w w1) {p : Addr} (hp : F p.block ∨ w.heap.size ≤ p.block) (u : Value) : Fr F w (w1.setCell p u) :=
  ⟨h.os, h.tape, h.output, by have := h.size; simpa [World.setCell] using this, fun b hb hn => (heap_setCell_other w1 p b u (fun e => by subst e; rcases hp with hp | hp; exact hn hp; omega)).trans (h.block b hb hn)⟩
theorem Fr.grown (h : Fr F w w1) {row : Option Nat} (hg : w1.grownBy w2 row) (hr : ∀ k, row = some k → F k ∨ w.heap.size ≤ k) : Fr F w w2 :=
  ⟨hg.os.trans h.os, hg.tape.trans h.tape, hg.output.trans h.output, Nat.le_trans h.size hg.size, fun b hb hn => (hg.block b (Nat.lt_of_lt_of_le hb h.size) (fun e => by rcases hr b e.symm with x | x; exact hn x; omega)).trans (h.block b hb hn)⟩
theorem Fr.below (h : Below w.heap.size w w1) : Fr F w w1 := ⟨h.os, h.tape, h.output, h.size, fun b hb _ => h.block b hb⟩
theorem Fr.toBelow (h : Fr F w w1) (B : Nat) (hB : ∀ k, F k → B ≤ k) (hw : B ≤ w.heap.size) : Below B w w1 :=
  ⟨h.os, h.tape, h.output, h.size, fun b hb => h.block b (by omega) (fun x => by have := hB b x; omega)⟩
theorem Fr.cell (h : Fr F w w1) {p : Addr} (hp : p.block < w.heap.size) (hn : ¬ F p.block) : w1.cell? p = w.cell? p := World.cell?_of_block (w := w) (h.block _ hp hn)
theorem Fr.frozen (h : Fr F w w1) {p : Addr} (hp : p.block < w.heap.size) (hn : ¬ F p.block) : w1.frozen? p = w.frozen? p := World.frozen?_of_block (w := w) (h.block _ hp hn)
end

/-- What was owned before, or is new. -/
def Fresh (w : World) (F F' : Nat → Prop) : Prop := ∀ k, F' k → F k ∨ w.heap.size ≤ k
theorem Fresh.refl (w : World) (F : Nat → Prop) : Fresh w F F := fun _ h => .inl h
theorem Fresh.trans {w w1 : World} {F F1 F2 : Nat → Prop} (h : Fresh w F F1) (hs : w.heap.size ≤ w1.heap.size) (k : Fresh w1 F1 F2) : Fresh w F F2 := fun b hb => by
  rcases k b hb with x | x
  · exact h b x
  · exact .inr (Nat.le_trans hs x)
theorem Fr.step {w w1 w2 : World} {F F1 : Nat → Prop} (h : Fr F w w1) (hf : Fresh w F F1) (k : Fr F1 w1 w2) : Fr F w w2 := h.trans k fun b hb x => by
  rcases hf b x with y | y
  · exact y
  · omega

/-! Blocks that are known whole -/
theorem cellOf {w : World} {b : Nat} {cs : Array Value} {T : TypeId} {z : Nat × Nat} (h : w.heap[b]? = some (.cells cs T z)) (i : Nat) {v : Value} (hv : cs[i]? = some v) : w.cell? ⟨b, i, none⟩ = some v := by
  simp [World.cell?, h, hv]
theorem freeOf {w : World} {b : Nat} {cs : Array Value} {T : TypeId} (h : w.heap[b]? = some (.cells cs T (0, 0))) (i : Nat) : w.frozen? ⟨b, i, none⟩ = false := by
  simp [World.frozen?, h]
theorem ltOf {w : World} {b : Nat} {o : Obj} (h : w.heap[b]? = some o) : b < w.heap.size := (Array.getElem?_eq_some_iff.1 h).1

theorem frozen_alloc_some {w : World} {a : Addr} {o : Obj} (h : (w.cell? a).isSome = true) : (w.alloc o).frozen? a = w.frozen? a := by
  obtain ⟨u, hu⟩ := Option.isSome_iff_exists.1 h
  exact World.frozen?_of_block (w := w) (Below.heap_alloc w o _ (World.block_lt_of_cell? w a hu))

theorem cell_alloc {w : World} {a : Addr} {o : Obj} {v : Value} (h : w.cell? a = some v) : (w.alloc o).cell? a = some v :=
  (World.cell?_of_block (w := w) (Below.heap_alloc w o _ (World.block_lt_of_cell? w a h))).trans h
/-- Behind an append whose elements were laid in a block of their own first: another block's cell. -/
theorem grown_cell {w w1 : World} {o : Obj} {row : Option Nat} (hg : ((w.alloc o).drew).grownBy w1 row) {a : Addr} {v : Value} (hc : w.cell? a = some v) (hne : row ≠ some a.block) : w1.cell? a = some v :=
  hg.cell (show (w.alloc o).cell? a = some v from cell_alloc hc) (Ne.symm hne)
theorem grown_free {w w1 : World} {o : Obj} {row : Option Nat} (hg : ((w.alloc o).drew).grownBy w1 row) {a : Addr} {v : Value} (hc : w.cell? a = some v) (hf : w.frozen? a = false) (hne : row ≠ some a.block) : w1.frozen? a = false :=
  (World.frozen?_of_block (hg.block a.block (by have := World.block_lt_of_cell? w a hc; simp; omega) (Ne.symm hne))).trans ((frozen_alloc_some (w := w) (o := o) (by simp [hc])).trans hf)
theorem grown_alloc {w w1 : World} {o : Obj} {row : Option Nat} (hg : ((w.alloc o).drew).grownBy w1 row) : w.grownBy w1 row :=
  ⟨hg.os, hg.tape, hg.output, by have := hg.size; simp at this; omega, fun k hk hne => (hg.block k (by simp; omega) hne).trans (Below.heap_alloc w o k hk)⟩

/-! Slices that the call owns -/
def Owns {α : Type} (w : World) (T sz : Nat) (c : α → List Value) (v : Value) (l : List α) : Prop := w.ownsRow 0 T sz v l.length (l.flatMap c)

/-- Blocks apart. -/
def Apart (a b : Option Nat) : Prop := ∀ k, a = some k → b ≠ some k
theorem Apart.symm {a b : Option Nat} (h : Apart a b) : Apart b a := fun k hb ha => h k ha hb
theorem Apart.ne {a : Option Nat} {b : Nat} (h : Apart a (some b)) : a ≠ some b := fun e => h b e rfl

section
variable {α : Type} {w w' : World} {T sz : Nat} {c : α → List Value} {v : Value} {l : List α}

theorem flat_len (hc : ∀ a, (c a).length = sz) (l : List α) : (l.flatMap c).length = l.length * sz := by
  induction l with
  | nil => simp
  | cons a l ih => simp [List.flatMap_cons, hc, ih, Nat.add_mul]; omega

theorem Owns.keep (h : Owns w T sz c v l) (hb : ∀ k, v.ownBlock = some k → w'.heap[k]? = w.heap[k]?) : Owns w' T sz c v l := by
  refine ⟨h.1, ?_⟩
  rcases h.2 with hn | ⟨g, cap, cur, rfl, h0, hg, rest⟩
  · exact .inl hn
  · exact .inr ⟨g, cap, cur, rfl, h0, by rw [hb g rfl]; exact hg, rest⟩
theorem Owns.lt (h : Owns w T sz c v l) {k : Nat} (hk : v.ownBlock = some k) : k < w.heap.size := (World.ownsRow.lt h k hk).2
theorem Owns.alloc (h : Owns w T sz c v l) (o : Obj) : Owns (w.alloc o) T sz c v l := h.keep fun k hk => Below.heap_alloc w o k (h.lt hk)
theorem Owns.drew (h : Owns w T sz c v l) : Owns w.drew T sz c v l := h
theorem Owns.drewN (h : Owns w T sz c v l) (n : Nat) : Owns (w.drewN n) T sz c v l := h
theorem Owns.setCell (h : Owns w T sz c v l) {p : Addr} (hp : v.ownBlock ≠ some p.block) (u : Value) : Owns (w.setCell p u) T sz c v l :=
  h.keep fun k hk => heap_setCell_other w p k u (fun e => hp (by rw [hk, e]))
theorem Owns.grown (h : Owns w T sz c v l) {row : Option Nat} (hg : w.grownBy w' row) (hp : Apart v.ownBlock row) : Owns w' T sz c v l :=
  h.keep fun k hk => hg.block k (h.lt hk) (fun e => hp k hk e.symm)
theorem Owns.fr (h : Owns w T sz c v l) {F : Nat → Prop} (hg : Fr F w w') (hp : ∀ k, v.ownBlock = some k → ¬ F k) : Owns w' T sz c v l :=
  h.keep fun k hk => hg.block k (h.lt hk) (hp k hk)
theorem owns_nil (w : World) (T sz : Nat) (c : α → List Value) : Owns w T sz c (.slice none 0 0) [] := World.ownsRow_nil _ _ _ _

theorem Owns.len (h : Owns w T sz c v l) : ∃ a cap, v = .slice a l.length cap ∧ l.length ≤ cap ∧ cap ≤ maxLen ∧ (a = none → l = [] ∧ cap = 0) := by
  rcases h.2 with ⟨hv, h0⟩ | ⟨g, cap, cur, hv, _, _, hc1, hc2, _⟩
  · refine ⟨none, 0, ?_, ?_, Nat.zero_le _, fun _ => ⟨List.length_eq_zero_iff.1 h0, rfl⟩⟩
    · rw [h0]; exact hv
    · omega
  · exact ⟨some ⟨g, 0, none⟩, cap, hv, hc1, hc2, fun e => by cases e⟩

/-- The cells of one element. -/
theorem Owns.at (h : Owns w T sz c v l) (hc : ∀ a, (c a).length = sz) {j : Nat} {a : α} (hj : l[j]? = some a) :
    ∃ g cap, v = .slice (some ⟨g, 0, none⟩) l.length cap ∧ l.length ≤ cap ∧ cap ≤ maxLen ∧ (∀ i u, (c a)[i]? = some u → w.cell? ⟨g, j * sz + i, none⟩ = some u) ∧ (∀ i, w.frozen? ⟨g, i, none⟩ = false) := by
  have hjl : j < l.length := (List.getElem?_eq_some_iff.1 hj).1
  rcases h.2 with ⟨_, h0⟩ | ⟨g, cap, cur, rfl, h0, hg, hc1, hc2, hs, ht⟩
  · omega
  · refine ⟨g, cap, rfl, hc1, hc2, fun i u hu => ?_, fun i => freeOf hg i⟩
    have hi : i < sz := by rw [← hc a]; exact (List.getElem?_eq_some_iff.1 hu).1
    have hlt : j * sz + i < l.length * sz := by
      have : (j + 1) * sz ≤ l.length * sz := Nat.mul_le_mul_right _ hjl
      rw [Nat.add_mul] at this; omega
    rw [World.ownsRow.cellAt h (j * sz + i) hlt]
    have hsplit : l = l.take j ++ a :: l.drop (j + 1) := by
      conv => lhs; rw [← List.take_append_drop j l]
      rw [List.drop_eq_getElem_cons hjl]
      congr 2
      exact (List.getElem?_eq_some_iff.1 hj).2
    rw [hsplit, List.flatMap_append, List.flatMap_cons, List.getElem?_append_right (by rw [flat_len hc, List.length_take, Nat.min_eq_left (by omega)]; omega),
      flat_len hc, List.length_take, Nat.min_eq_left (by omega), Nat.add_sub_cancel_left, List.getElem?_append_left (by rw [hc]; exact hi)]
    exact hu

/-- The last one, as a letter. -/
theorem Owns.last {a : α} (h : Owns w T sz c v (l ++ [a])) (hc : ∀ a, (c a).length = sz) :
    ∃ g cap, v = .slice (some ⟨g, 0, none⟩) (l.length + 1) cap ∧ l.length + 1 ≤ cap ∧ cap ≤ maxLen ∧ (∀ i u, (c a)[i]? = some u → w.cell? ⟨g, l.length * sz + i, none⟩ = some u) ∧ (∀ i, w.frozen? ⟨g, i, none⟩ = false) := by
  obtain ⟨g, cap, h1, h2, h3, h4, h5⟩ := h.at hc (j := l.length) (a := a) (by simp)
  exact ⟨g, cap, by simpa using h1, by simpa using h2, h3, h4, h5⟩

theorem Owns.pop {a : α} {g cap : Nat} (hc : ∀ a, (c a).length = sz) (h : Owns w T sz c (.slice (some ⟨g, 0, none⟩) (l.length + 1) cap) (l ++ [a])) : Owns w T sz c (.slice (some ⟨g, 0, none⟩) l.length cap) l := by
  have h' : w.ownsRow 0 T sz (.slice (some ⟨g, 0, none⟩) (l.length + 1) cap) (l.length + 1) (l.flatMap c ++ c a) := by
    have := h
    unfold Owns at this
    simpa [List.flatMap_append] using this
  exact ownsRow_pop (flat_len hc l) h'

/-- A cell of the last one is written. -/
theorem Owns.setLast {a b : α} {g cap : Nat} (hc : ∀ a, (c a).length = sz) (h : Owns w T sz c (.slice (some ⟨g, 0, none⟩) (l.length + 1) cap) (l ++ [a])) (i : Nat) (u : Value) (hb : c b = (c a).set i u) :
    Owns (w.setCell ⟨g, l.length * sz + i, none⟩ u) T sz c (.slice (some ⟨g, 0, none⟩) (l.length + 1) cap) (l ++ [b]) := by
  have h' : w.ownsRow 0 T sz (.slice (some ⟨g, 0, none⟩) (l.length + 1) cap) (l.length + 1) (l.flatMap c ++ c a) := by
    have := h
    unfold Owns at this
    simpa [List.flatMap_append] using this
  have hs := World.ownsRow.stored h' (l.length * sz + i) u
  unfold Owns
  have hl : (l ++ [b]).length = l.length + 1 := by simp
  rw [hl, List.flatMap_append, List.flatMap_cons, List.flatMap_nil, List.append_nil, hb]
  rw [List.set_append_right _ _ (by rw [flat_len hc]; omega), flat_len hc, Nat.add_sub_cancel_left] at hs
  exact hs.1

/-- Behind an append. -/
theorem owns_append {g cap : Nat} {a : α} (h : w.ownsRow 0 T sz (.slice (some ⟨g, 0, none⟩) (l.length + 1) cap) (l.length + 1) (l.flatMap c ++ c a)) :
    Owns w T sz c (.slice (some ⟨g, 0, none⟩) (l.length + 1) cap) (l ++ [a]) := by
  unfold Owns
  have hl : (l ++ [a]).length = l.length + 1 := by simp
  rw [hl, List.flatMap_append, List.flatMap_cons, List.flatMap_nil, List.append_nil]
  exact h
end

/-! Strings and bytes as lists -/
/-- A string's value. -/
abbrev S (l : List UInt8) : Value := .string ⟨l.toArray⟩
def cByte (c : UInt8) : List Value := [.int .u8 c.toNat]
theorem cByte_len (a : UInt8) : (cByte a).length = 1 := rfl
theorem size_S (l : List UInt8) : (ByteArray.mk l.toArray).size = l.length := by simp [ByteArray.size]
theorem mk_S (s : ByteArray) : Value.string s = S s.data.toList := by simp [S]

theorem strOf_bytes (l : List UInt8) : Go.strOfNums (l.map fun c => ((c.toNat : Nat) : Int)) = ⟨l.toArray⟩ := by
  apply ByteArray.ext
  simp [Go.strOfNums, Function.comp_def]

section
variable {P : Program} {w : World} {e : TypeId} {v : Value} {l : List UInt8}
/-- What a []byte of the call's own holds: its rest behind a place, as a slice and as a string. -/
theorem Owns.bytes (h : Owns w e 1 cByte v l) {p : Nat} (hp : p < l.length) {t dst : TypeId} (ht : P.underlying t = some (.slice e)) (he : P.underlying e = some (.int .u8)) (hd : P.underlying dst = some .string)
    (hz : ∀ w, (Go.sizeOf e).run P w = .ok 1 w) :
    ∃ g cap, v = .slice (some ⟨g, 0, none⟩) l.length cap ∧ l.length ≤ cap ∧ cap ≤ maxLen ∧
      (∀ w', (Instr.slice t (.slice (some ⟨g, 0, none⟩) l.length cap) (some (.int .i64 (p : Int))) none none).run P w' = .ok (.slice (some ⟨g, p, none⟩) (l.length - p) (cap - p)) w') ∧
      (convert t dst (.slice (some ⟨g, p, none⟩) (l.length - p) (cap - p))).run P w = .ok (S (l.drop p)) w := by
  obtain ⟨g, cap, rfl, h1, h2, _, _⟩ := h.at cByte_len (j := p) (a := l[p]) (by simp [hp])
  have hcell : ∀ j, (hj : j < l.length) → w.cell? ⟨g, j, none⟩ = some (.int .u8 (l[j].toNat)) := by
    intro j hj
    obtain ⟨g', cap', hv, _, _, hc, _⟩ := h.at cByte_len (j := j) (a := l[j]) (by simp [hj])
    simp only [Value.slice.injEq, Option.some.injEq, Addr.mk.injEq, and_true, true_and] at hv
    obtain ⟨rfl, rfl⟩ := hv
    have := hc 0 _ rfl
    simpa using this
  refine ⟨g, cap, rfl, h1, h2, fun w' => ?_, ?_⟩
  · have ht' : P.underlying t = some (.slice (P.elem t)) := by simp [Program.elem, ht]
    have hel : P.elem t = e := by simp [Program.elem, ht]
    rw [run_slice_l w' t _ _ _ ht' .i64 _ (by omega) (by omega), hel, hz]
    have hne : ¬ cap = p := by omega
    by_cases h0 : p = 0
    · subst h0; simp [Result.andThen, sliced, Addr.add, hne]
    · simp [Result.andThen, sliced, Addr.add, hne, h0]
  · rw [run_convert_bytes_arg w t e ht he g p (l.length - p) (cap - p) ((l.drop p).map fun c => ((c.toNat : Nat) : Int)) (by simp) ?_ dst hd, strOf_bytes]
    intro i hi
    rw [hcell (p + i) (by omega)]
    simp [List.getD, List.getElem?_drop, show p + i < l.length by omega]
/-- The same for its end, too. -/
theorem Owns.bytesTo (h : Owns w e 1 cByte v l) {p : Nat} (hp : p ≤ l.length) {t dst : TypeId} (ht : P.underlying t = some (.slice e)) (he : P.underlying e = some (.int .u8)) (hd : P.underlying dst = some .string)
    (hz : ∀ w, (Go.sizeOf e).run P w = .ok 1 w) :
    ∃ sv, (∀ w', (Instr.slice t v (some (.int .i64 (p : Int))) none none).run P w' = .ok sv w') ∧
      (∀ n, (convert t dst sv).run P (w.drewN n) = .ok (S (l.drop p)) (w.drewN n)) := by
  by_cases hlt : p < l.length
  · obtain ⟨g, cap, rfl, _, _, hs, _⟩ := h.bytes hlt ht he hd hz
    exact ⟨_, hs, fun n => by
      obtain ⟨g', cap', hv, _, _, _, hc⟩ := (h.drewN n).bytes hlt ht he hd hz
      simp only [Value.slice.injEq, Option.some.injEq, Addr.mk.injEq, and_true, true_and] at hv
      obtain ⟨rfl, rfl⟩ := hv
      exact hc⟩
  · have hpe : p = l.length := by omega
    subst hpe
    have ht' : P.underlying t = some (.slice (P.elem t)) := by simp [Program.elem, ht]
    have hel : P.elem t = e := by simp [Program.elem, ht]
    rcases h.2 with ⟨rfl, h0⟩ | ⟨g, cap, cur, rfl, _, hg, hc1, hc2, _⟩
    · rw [h0]
      refine ⟨.slice none 0 0, fun w' => ?_, fun n => ?_⟩
      · rw [run_slice_l w' t _ _ _ ht' .i64 _ (by omega) (by omega), hel, hz]
        simp [Result.andThen, sliced]
      · rw [run_convert_bytes_nil _ t e ht he 0 0 dst hd, List.length_eq_zero_iff.1 h0]
        rfl
    · refine ⟨sliced (some ⟨g, 0, none⟩) l.length l.length cap 1, fun w' => ?_, fun n => ?_⟩
      · rw [run_slice_l w' t _ _ _ ht' .i64 _ (by omega) (by omega), hel, hz]
        simp [Result.andThen]
      · have hsv : ∃ o, sliced (some ⟨g, 0, none⟩) l.length l.length cap 1 = .slice (some ⟨g, o, none⟩) 0 (cap - l.length) := by
          unfold sliced
          by_cases hc : cap = l.length
          · exact ⟨0, by simp [hc]⟩
          · refine ⟨l.length, ?_⟩
            by_cases h0 : l.length = 0
            · simp [h0, Addr.add]
            · simp [h0, Addr.add, hc]
        obtain ⟨o, ho⟩ := hsv
        rw [ho, run_convert_bytes_arg _ t e ht he g o 0 (cap - l.length) [] rfl (fun i hi => by omega) dst hd]
        simp [S, Go.strOfNums]
end
end Go.Px
