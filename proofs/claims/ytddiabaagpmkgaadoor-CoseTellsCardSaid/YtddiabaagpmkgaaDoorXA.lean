/-
 Several texts in one: The walks over the references' reader (layers 15 and 17): Take, fault, Want. How such a reader lies in memory. A string's bytes, as this program's operations read them. The walks over the reference's Utf and Text: a text is UTF-8 as the library says. The walk over the reference's Head (layer 17). How the reference's reader of layer 17 lies in memory, and what becomes of it; what holds between two items.
-/
import Derived.Test.YtddiabaagpmkgaaDoorGcB
import Derived.Test.YtddiabaagpmkgaaDoorXQ
import Derived.Test.YtddiabaagpmkgaaDoorUtfP
/-! The walks over the references' reader (layers 15 and 17): Take, fault, Want. How such a reader lies in memory. -/
namespace Go.Proofs.YtddiabaagpmkgaaDoor
open Go.RowKit Go.Px Go.Px.R7

/-- The first eleven cells of a reader. -/
def rdCells (s : Bytes) (lim : Lim) (x : St) (vn : Value) (tl : List Value) : Array Value :=
 (S s :: .int .i64 lim.d :: .int .i64 lim.i :: .int .i64 lim.b :: .int .i64 lim.r :: vn :: .int .i64 x.err :: .int .i64 x.place :: .int .i64 (x.taken : Nat) :: .int .i64 (x.frames : Nat) :: .bool x.ended :: tl).toArray
structure Rd (w : World) (b T : Nat) (s : Bytes) (lim : Lim) (x : St) (vn : Value) (tl : List Value) : Prop where
 blk : w.heap[b]? = some (.cells (rdCells s lim x vn tl) T (0, 0))
section
variable {w w' : World} {b T : Nat} {s : Bytes} {lim : Lim} {x : St} {vn : Value} {tl : List Value}
theorem Rd.cells (h : Rd w b T s lim x vn tl) :
  w.cell? ⟨b, 0, none⟩ = some (S s) ∧ w.cell? ⟨b, 1, none⟩ = some (.int .i64 lim.d) ∧ w.cell? ⟨b, 2, none⟩ = some (.int .i64 lim.i) ∧ w.cell? ⟨b, 3, none⟩ = some (.int .i64 lim.b) ∧
  w.cell? ⟨b, 6, none⟩ = some (.int .i64 x.err) ∧ w.cell? ⟨b, 7, none⟩ = some (.int .i64 x.place) ∧ w.cell? ⟨b, 8, none⟩ = some (.int .i64 (x.taken : Nat)) ∧ w.cell? ⟨b, 9, none⟩ = some (.int .i64 (x.frames : Nat)) ∧ w.cell? ⟨b, 10, none⟩ = some (.bool x.ended) :=
 ⟨cellOf h.blk 0 (by simp [rdCells]), cellOf h.blk 1 (by simp [rdCells]), cellOf h.blk 2 (by simp [rdCells]), cellOf h.blk 3 (by simp [rdCells]), cellOf h.blk 6 (by simp [rdCells]), cellOf h.blk 7 (by simp [rdCells]),
   cellOf h.blk 8 (by simp [rdCells]), cellOf h.blk 9 (by simp [rdCells]), cellOf h.blk 10 (by simp [rdCells])⟩
theorem Rd.free (h : Rd w b T s lim x vn tl) (i : Nat) : w.frozen? ⟨b, i, none⟩ = false := freeOf h.blk i
theorem Rd.lt (h : Rd w b T s lim x vn tl) : b < w.heap.size := ltOf h.blk
theorem Rd.keep (h : Rd w b T s lim x vn tl) (hk : w'.heap[b]? = w.heap[b]?) : Rd w' b T s lim x vn tl := ⟨hk.trans h.blk⟩
theorem Rd.fr {F : Nat → Prop} (h : Rd w b T s lim x vn tl) (hf : Fr F w w') (hb : ¬ F b) : Rd w' b T s lim x vn tl := h.keep (hf.block b h.lt hb)
theorem Rd.same (h : Rd w b T s lim x vn tl) (hs : Same w w') : Rd w' b T s lim x vn tl := h.fr hs (fun x => x)
theorem Rd.alloc (h : Rd w b T s lim x vn tl) (o : Obj) : Rd (w.alloc o) b T s lim x vn tl := h.keep (Below.heap_alloc w o b h.lt)
theorem Rd.drew (h : Rd w b T s lim x vn tl) : Rd w.drew b T s lim x vn tl := ⟨h.blk⟩
theorem Rd.drewN (h : Rd w b T s lim x vn tl) (n : Nat) : Rd (w.drewN n) b T s lim x vn tl := ⟨h.blk⟩
theorem Rd.set (h : Rd w b T s lim x vn tl) (i : Nat) (v : Value) (y : St) (vn' : Value) (tl' : List Value) (hc : (rdCells s lim x vn tl).setIfInBounds i v = rdCells s lim y vn' tl') : Rd (w.setCell ⟨b, i, none⟩ v) b T s lim y vn' tl' :=
 ⟨by rw [heap_setCell_same w b i _ _ v h.blk, hc]⟩
theorem Rd.setErr (h : Rd w b T s lim x vn tl) (e : Int) : Rd (w.setCell ⟨b, 6, none⟩ (.int .i64 e)) b T s lim { x with err := e } vn tl := h.set 6 _ _ _ _ (by simp [rdCells])
theorem Rd.setPlace (h : Rd w b T s lim x vn tl) (e : Int) : Rd (w.setCell ⟨b, 7, none⟩ (.int .i64 e)) b T s lim { x with place := e } vn tl := h.set 7 _ _ _ _ (by simp [rdCells])
theorem Rd.setTaken (h : Rd w b T s lim x vn tl) (e : Nat) : Rd (w.setCell ⟨b, 8, none⟩ (.int .i64 (e : Nat))) b T s lim { x with taken := e } vn tl := h.set 8 _ _ _ _ (by simp [rdCells])
theorem Rd.setFrames (h : Rd w b T s lim x vn tl) (e : Nat) : Rd (w.setCell ⟨b, 9, none⟩ (.int .i64 (e : Nat))) b T s lim { x with frames := e } vn tl := h.set 9 _ _ _ _ (by simp [rdCells])
theorem Rd.setEnded (h : Rd w b T s lim x vn tl) (e : Bool) : Rd (w.setCell ⟨b, 10, none⟩ (.bool e)) b T s lim { x with ended := e } vn tl := h.set 10 _ _ _ _ (by simp [rdCells])
end

/-- Only this block changes. -/
def It (b : Nat) (k : Nat) : Prop := k = b
theorem It.set {b i : Nat} {w : World} (v : Value) : Fr (It b) w (w.setCell ⟨b, i, none⟩ v) := (Fr.refl (It b) w).setCell (p := ⟨b, i, none⟩) (.inl rfl) v

theorem take_any (b T : Nat) (a : Nat) (s : Bytes) (lim : Lim) (x : St) (vn : Value) (tl : List Value) (w : World) (h : Rd w b T s lim x vn tl) :
  Calls Tryd.prog 81 #[.pointer (some ⟨b, 0, none⟩), .int .i64 (a : Nat)] w fun r w' => r = .returned (.tuple #[]) ∧ Rd w' b T s lim (take x a) vn tl ∧ Fr (It b) w w' := by
 obtain ⟨_, _, _, _, _, _, c8, _, _⟩ := h.cells
 have f8 := h.free 8
 by_cases hlt : x.taken < a
 ·have H := Px.hid (And.intro (h.setTaken a) (show take x a = { x with taken := a } by unfold take; rw [Nat.max_eq_right (Nat.le_of_lt hlt)]))
  have hz : (x.taken : Int) < (a : Int) := by omega
  clear h
  go_enter Tryd.func81, Tryd.ntmps81
  go_wp2
  go_end0
  rw [H.out.2]
  exact ⟨rfl, H.out.1, It.set _⟩
 ·have H := Px.hid (And.intro h (show take x a = x by unfold take; rw [Nat.max_eq_left (Nat.le_of_not_lt hlt)]))
  have hz : ¬ (x.taken : Int) < (a : Int) := by omega
  clear h
  go_enter Tryd.func81, Tryd.ntmps81
  go_wp2
  go_end0
  rw [H.out.2]
  exact ⟨rfl, H.out.1, Fr.refl _ _⟩
theorem rfault_any (b T : Nat) (p e : Int) (s : Bytes) (lim : Lim) (x : St) (vn : Value) (tl : List Value) (w : World) (h : Rd w b T s lim x vn tl) :
  Calls Tryd.prog 82 #[.pointer (some ⟨b, 0, none⟩), .int .i64 p, .int .i64 e] w fun r w' => r = .returned (.bool false) ∧ Rd w' b T s lim (fault x p e) vn tl ∧ Fr (It b) w w' := by
 obtain ⟨_, _, _, _, c6, c7, _, _, _⟩ := h.cells
 have f6 := h.free 6
 have f7 := h.free 7
 have H := Px.hid ((h.setErr e).setPlace p)
 clear h
 go_enter Tryd.func82, Tryd.ntmps82
 go_wp2
 go_ret
 exact ⟨rfl, H.out, (It.set _).trans (It.set _) (fun _ _ h => h)⟩
theorem xfault_any (b T : Nat) (p e : Int) (s : Bytes) (lim : Lim) (x : St) (vn : Value) (tl : List Value) (w : World) (h : Rd w b T s lim x vn tl) :
  Calls Tryd.prog 62 #[.pointer (some ⟨b, 0, none⟩), .int .i64 p, .int .i64 e] w fun r w' => r = .returned (.bool false) ∧ Rd w' b T s lim (fault x p e) vn tl ∧ Fr (It b) w w' := by
 obtain ⟨_, _, _, _, c6, c7, _, _, _⟩ := h.cells
 have f6 := h.free 6
 have f7 := h.free 7
 have H := Px.hid ((h.setErr e).setPlace p)
 clear h
 go_enter Tryd.func62, Tryd.ntmps62
 go_wp2
 go_ret
 exact ⟨rfl, H.out, (It.set _).trans (It.set _) (fun _ _ h => h)⟩

set_option maxHeartbeats 1000000 in
theorem want_any (b T : Nat) (p : Nat) (s : Bytes) (lim : Lim) (x : St) (vn : Value) (tl : List Value) (w : World) (h : Rd w b T s lim x vn tl) (hs : s.length ≤ maxLen) (hb : 1 ≤ lim.b) (hb2 : lim.b ≤ 262144) (hp : p ≤ maxLen) :
  Calls Tryd.prog 61 #[.pointer (some ⟨b, 0, none⟩), .int .i64 (p : Nat)] w fun r w' => r = .returned (.bool (want s lim x p).1) ∧ Rd w' b T s lim (want s lim x p).2 vn tl ∧ Fr (It b) w w' := by
 unfold maxLen at hs hp
 have hsz : (ByteArray.mk s.toArray).size = s.length := size_S s
 obtain ⟨c0, _, _, c3, _, _, _, _, c10⟩ := h.cells
 by_cases h1 : p < s.length ∧ (p : Int) < lim.b
 ·obtain ⟨h1a, h1b⟩ := h1
  have hz : (p : Int) < (s.length : Int) := by omega
  have H := Px.hid (And.intro h (show want s lim x p = (true, take x (p + 1)) by unfold want; rw [if_pos ⟨h1a, h1b⟩]))
  clear h h1a
  go_enter Tryd.func61, Tryd.ntmps61
  go_wp2_with fail
  refine (take_any b T (p + 1) s lim x vn tl _ H.out.1).mono ?_
  rintro e w1 ⟨rfl, hr, hf⟩
  have H2 := Px.hid (And.intro hr hf)
  clear hr hf
  go_wp2
  go_ret
  rw [H.out.2]
  exact ⟨rfl, H2.out.1, H2.out.2⟩
 ·have hcase : (¬ (p : Int) < (s.length : Int)) ∨ ((p : Int) < (s.length : Int) ∧ ¬ (p : Int) < lim.b) := by omega
  by_cases h2 : lim.b < s.length
  ·have H := Px.hid (And.intro h (show want s lim x p = (false, fault (take x lim.b.toNat) lim.b 10) by unfold want; rw [if_neg h1, if_pos h2]))
   have HB := Px.hid (show ((lim.b.toNat : Nat) : Int) = lim.b by omega)
   have hd : decide (lim.b < (s.length : Int)) = true := decide_eq_true h2
   clear h h1
   rcases hcase with hg | ⟨hg, hg2⟩
   all_goals
    go_enter Tryd.func61, Tryd.ntmps61
    go_wp2_with fail
    go_quiet (fail)
    go_wp2_with fail
    have ht := take_any b T lim.b.toNat s lim x vn tl (w.drewN nq) (H.out.1.drewN nq)
    rw [HB.out] at ht
    refine ht.mono ?_
    clear ht c0 c3 c10
    rintro e w1 ⟨rfl, hr, hf⟩
    obtain ⟨c0, _, _, c3, _, _, _, _, c10⟩ := hr.cells
    have H2 := Px.hid (And.intro hr ((Fr.drewN (Fr.refl (It b) w) nq).trans hf (fun _ _ h => h)))
    clear hr hf
    go_wp2_with fail
    refine (rfault_any b T lim.b 10 s lim _ vn tl _ H2.out.1).mono ?_
    rintro e w2 ⟨rfl, hr, hf⟩
    have H3 := Px.hid (And.intro hr (H2.out.2.trans hf (fun _ _ h => h)))
    clear hr hf
    go_wp2
    go_ret
    rw [H.out.2]
    exact ⟨rfl, H3.out.1, H3.out.2⟩
  ·have H := Px.hid (And.intro h (show want s lim x p = (false, { fault (take x s.length) s.length 9 with ended := true }) by unfold want; rw [if_neg h1, if_neg h2]))
   have hd : decide (lim.b < (s.length : Int)) = false := decide_eq_false h2
   have hg : ¬ (p : Int) < (s.length : Int) := by omega
   clear h h1 hcase
   focus
    go_enter Tryd.func61, Tryd.ntmps61
    go_wp2_with fail
    go_quiet (fail)
    go_wp2_with fail
    refine (take_any b T s.length s lim x vn tl (w.drewN nq) (H.out.1.drewN nq)).mono ?_
    clear c0 c3 c10
    rintro e w1 ⟨rfl, hr, hf⟩
    obtain ⟨c0, _, _, c3, _, _, _, _, c10⟩ := hr.cells
    have f10 := hr.free 10
    have H2 := Px.hid (And.intro (hr.setEnded true) (((Fr.drewN (Fr.refl (It b) w) nq).trans hf (fun _ _ h => h)).trans (It.set (i := 10) (.bool true)) (fun _ _ h => h)))
    clear hr hf
    go_wp2_with fail
    refine (rfault_any b T s.length 9 s lim _ vn tl _ H2.out.1).mono ?_
    rintro e w2 ⟨rfl, hr, hf⟩
    have H3 := Px.hid (And.intro hr (H2.out.2.trans hf (fun _ _ h => h)))
    clear hr hf
    go_wp2
    go_ret
    rw [H.out.2]
    exact ⟨rfl, H3.out.1, H3.out.2⟩
end Go.Proofs.YtddiabaagpmkgaaDoor

/-! A string's bytes, as this program's operations read them. -/
namespace Go.Proofs.YtddiabaagpmkgaaDoor
open Go.RowKit Go.Px

theorem idx_S (l : List UInt8) (k : Nat) (hk : k < l.length) (w : World) : (Instr.index 9 (S l) (.int .i64 (k : Int))).run Tryd.prog w = .ok (.int .u8 (l.getD k 0).toNat) w := by
 rw [run_index_string w 9 _ .i64 _ Tryd.underlying9, dif_pos ⟨by omega, by rw [size_S]; omega⟩]
 congr 3
 simp [List.getD, hk]
 rfl
theorem slice_S (l : List UInt8) (a b : Nat) (hab : a ≤ b) (hb : b ≤ l.length) (w : World) :
  (Instr.slice 9 (S l) (some (.int .i64 (a : Int))) (some (.int .i64 (b : Int))) none).run Tryd.prog w = .ok (S ((l.take b).drop a)) w := by
 rw [run_slice_string w _ _ _ _ _ _ Tryd.underlying9 (by omega) (by omega) (by rw [size_S]; omega), ByteArray.extract_mk]
 have e1 : ((a : Int)).toNat = a := by omega
 have e2 : ((b : Int)).toNat = b := by omega
 rw [e1, e2]
 simp [List.drop_take]
theorem from_S (l : List UInt8) (a : Nat) (ha : a ≤ l.length) (w : World) :
  (Instr.slice 9 (S l) (some (.int .i64 (a : Int))) none none).run Tryd.prog w = .ok (S (l.drop a)) w := by
 rw [run_slice_string_l w _ _ Tryd.underlying9 _ _ (by omega) (by rw [size_S]; omega), ByteArray.extract_mk]
 have e1 : ((a : Int)).toNat = a := by omega
 rw [e1, size_S]
 simp
 exact List.take_of_length_le (by simp)
theorem to_S (l : List UInt8) (b : Nat) (hb : b ≤ l.length) (w : World) :
  (Instr.slice 9 (S l) none (some (.int .i64 (b : Int))) none).run Tryd.prog w = .ok (S (l.take b)) w := by
 rw [run_slice_string_h w _ _ Tryd.underlying9 _ _ (by omega) (by rw [size_S]; omega), ByteArray.extract_mk]
 have e1 : ((b : Int)).toNat = b := by omega
 rw [e1]
 simp
end Go.Proofs.YtddiabaagpmkgaaDoor

/-! The walks over the reference's Utf and Text: a text is UTF-8 as the library says. -/
namespace Go.Proofs.YtddiabaagpmkgaaDoor
open Go.RowKit Go.Px Go.Px.Utf

theorem utf_nil (w : World) : Calls Tryd.prog 88 #[S []] w fun e w' => e = .returned (.int .i64 0) ∧ Same w w' := by
 go_enter Tryd.func88, Tryd.ntmps88
 go_wp2
 go_ret
 exact ⟨rfl, Same.refl w⟩

set_option maxRecDepth 100000 in
set_option maxHeartbeats 2000000 in
theorem utf_one (l : Bytes) (w : World) (hlen : l.length ≤ maxLen) (hne : l ≠ []) (h : (l.getD 0 0).toNat < 128) :
  Calls Tryd.prog 88 #[S l] w fun e w' => e = .returned (.int .i64 (utfW l : Nat)) ∧ Same w w' := by
 unfold maxLen at hlen
 have _ := hlen
 have hsz : (ByteArray.mk l.toArray).size = l.length := size_S l
 have hpos : 0 < l.length := List.length_pos_iff.2 hne
 have hposz : ((l.length : Int) == 0) = false := by simp; omega
 have i0 : ∀ w, (Instr.index 9 (S l) (.int .i64 0)).run Tryd.prog w = .ok (.int .u8 (l.getD 0 0).toNat) w := fun w => idx_S l 0 hpos w
 have hb := (l.getD 0 0).toNat_lt
 have hu := utf_ascii l hne h
 have H := Px.hid hu
 obtain ⟨b, hbb⟩ : ∃ b, b = (l.getD 0 0).toNat := ⟨_, rfl⟩
 rw [← hbb] at i0 hb h
 have hz : (b : Int) < 128 := by omega
 clear hu hbb hne h
 go_enter Tryd.func88, Tryd.ntmps88
 go_wp2
 go_ret
 rw [H.out]
 exact ⟨rfl, Same.refl w⟩

set_option maxRecDepth 100000 in
set_option maxHeartbeats 2000000 in
theorem utf_odd (l : Bytes) (w : World) (hlen : l.length ≤ maxLen) (hne : l ≠ []) (h : 128 ≤ (l.getD 0 0).toNat) (h2 : (l.getD 0 0).toNat < 192 ∨ 248 ≤ (l.getD 0 0).toNat) :
  Calls Tryd.prog 88 #[S l] w fun e w' => e = .returned (.int .i64 (utfW l : Nat)) ∧ Same w w' := by
 unfold maxLen at hlen
 have _ := hlen
 have hsz : (ByteArray.mk l.toArray).size = l.length := size_S l
 have hpos : 0 < l.length := List.length_pos_iff.2 hne
 have hposz : ((l.length : Int) == 0) = false := by simp; omega
 have i0 : ∀ w, (Instr.index 9 (S l) (.int .i64 0)).run Tryd.prog w = .ok (.int .u8 (l.getD 0 0).toNat) w := fun w => idx_S l 0 hpos w
 have hb := (l.getD 0 0).toNat_lt
 have hu := utf_none l hne h h2
 have H := Px.hid hu
 obtain ⟨b, hbb⟩ : ∃ b, b = (l.getD 0 0).toNat := ⟨_, rfl⟩
 rw [← hbb] at i0 hb h h2
 have hz : ¬ (b : Int) < 128 := by omega
 clear hu hbb hne
 rcases h2 with h2 | h2
 ·have g1 : ¬ (192 : Int) ≤ (b : Int) := by omega
  have g2 : ¬ (224 : Int) ≤ (b : Int) := by omega
  have g3 : ¬ (240 : Int) ≤ (b : Int) := by omega
  go_enter Tryd.func88, Tryd.ntmps88
  go_wp2
  go_ret
  rw [H.out]
  exact ⟨rfl, Same.refl w⟩
 ·have g1 : (192 : Int) ≤ (b : Int) := by omega
  have g2 : (224 : Int) ≤ (b : Int) := by omega
  have g3 : (240 : Int) ≤ (b : Int) := by omega
  have g4 : ¬ (b : Int) < 224 := by omega
  have g5 : ¬ (b : Int) < 240 := by omega
  have g6 : ¬ (b : Int) < 248 := by omega
  go_enter Tryd.func88, Tryd.ntmps88
  go_wp2
  go_ret
  rw [H.out]
  exact ⟨rfl, Same.refl w⟩

set_option maxRecDepth 100000 in
set_option maxHeartbeats 2000000 in
theorem utf_2 (l : Bytes) (w : World) (hlen : l.length ≤ maxLen) (hne : l ≠ []) (h1 : 192 ≤ (l.getD 0 0).toNat) (h2 : (l.getD 0 0).toNat < 224) :
  Calls Tryd.prog 88 #[S l] w fun e w' => e = .returned (.int .i64 (utfW l : Nat)) ∧ Same w w' := by
 unfold maxLen at hlen
 have _ := hlen
 have hsz : (ByteArray.mk l.toArray).size = l.length := size_S l
 have hpos : 0 < l.length := List.length_pos_iff.2 hne
 have hposz : ((l.length : Int) == 0) = false := by simp; omega
 have i0 : ∀ w, (Instr.index 9 (S l) (.int .i64 0)).run Tryd.prog w = .ok (.int .u8 (l.getD 0 0).toNat) w := fun w => idx_S l 0 hpos w
 have hb := (l.getD 0 0).toNat_lt
 have hsh := utf_short l hne 2 192 224 (.inl ⟨rfl, rfl, rfl⟩) h1 h2
 have hco := fun k => utf_cont l hne 2 192 224 k (.inl ⟨rfl, rfl, rfl⟩) h1 h2
 have hwh := utf_whole2 l hne h1 h2
 obtain ⟨b, hbb⟩ : ∃ b, b = (l.getD 0 0).toNat := ⟨_, rfl⟩
 rw [← hbb] at i0 hb h1 h2 hwh
 have hcz : ((b - 192 : Nat) : Int) = (b : Int) - 192 := by omega
 have hcl : b - 192 ≤ 31 := by omega
 have H := Px.hid (And.intro hco (And.intro hwh (And.intro hcz hcl)))
 have hz : ¬ (b : Int) < 128 := by omega
 have ga192 : (192 : Int) ≤ (b : Int) := by omega
 have gb224 : (b : Int) < 224 := by omega
 clear hbb hco hwh hcz hcl hne
 by_cases hs : l.length < 2
 ·have H2 := Px.hid (hsh hs)
  have hsz2 : (l.length : Int) < 2 := by omega
  clear hsh H
  go_enter Tryd.func88, Tryd.ntmps88
  go_wp2
  go_ret
  rw [H2.out]
  exact ⟨rfl, Same.refl w⟩
 ·have hsz2 : ¬ (l.length : Int) < 2 := by omega
  clear hsh
  go_enter Tryd.func88, Tryd.ntmps88
  go_wp2
  go_loop [4, 6] (fun c i => ∃ j C : Nat, 1 ≤ j ∧ j ≤ 2 ∧ i = .int .i64 (j : Nat) ∧ c = .int .i64 (C : Nat) ∧ Hid (C = contC l (b - 192) (j - 1) ∧ contOk l (j - 1))) (fun _ i => 2 - (intOf i).toNat)
  case atStart => exact ⟨1, b - 192, by omega, by omega, rfl, by rw [H.out.2.2.1], Px.hid ⟨rfl, fun j a b => by omega⟩⟩
  case round =>
   obtain ⟨j, C, hj1, hj2, rfl, rfl, HC⟩ := hrel
   have hcb := contC_le l (b - 192) (j - 1) H.out.2.2.2 (by omega)
   rw [← HC.out.1] at hcb
   by_cases hlt : j < 2
   ·have hix : ∀ w, (Instr.index 9 (S l) (.int .i64 (j : Nat))).run Tryd.prog w = .ok (.int .u8 (l.getD j 0).toNat) w := fun w => idx_S l j (by omega) w
    have hc2 := (l.getD j 0).toNat_lt
    have hn2 : contC l (b - 192) j = 64 * C + ((l.getD j 0).toNat - 128) := by
     obtain ⟨k, rfl⟩ : ∃ k, j = k + 1 := ⟨j - 1, by omega⟩
     rw [HC.out.1]; rfl
    have hbd : ((l.getD j 0).toNat < 128 ∨ 191 < (l.getD j 0).toNat) → utfW l = 0 := by
     obtain ⟨k, rfl⟩ : ∃ k, j = k + 1 := ⟨j - 1, by omega⟩
     exact H.out.1 k hs hlt HC.out.2
    have hok : 128 ≤ (l.getD j 0).toNat → (l.getD j 0).toNat ≤ 191 → contOk l j := by
     obtain ⟨k, rfl⟩ : ∃ k, j = k + 1 := ⟨j - 1, by omega⟩
     exact contOk_succ HC.out.2
    have HC := Px.hid (And.intro hn2 (And.intro hbd hok))
    clear hn2 hbd hok
    obtain ⟨c, hcc⟩ : ∃ c, c = (l.getD j 0).toNat := ⟨_, rfl⟩
    rw [← hcc] at hix hc2
    have HCC := Px.hid hcc
    clear hcc
    have hlz : (j : Int) < 2 := by omega
    by_cases hb1 : c < 128
    ·have z1 : (c : Int) < 128 := by omega
     go_wp2
     go_ret
     rw [HC.out.2.1 (by rw [← HCC.out]; exact .inl hb1)]
     exact ⟨rfl, Same.refl w⟩
    ·have z1 : ¬ (c : Int) < 128 := by omega
     by_cases hb2 : 191 < c
     ·have z2 : (191 : Int) < (c : Int) := by omega
      go_wp2
      go_ret
      rw [HC.out.2.1 (by rw [← HCC.out]; exact .inr hb2)]
      exact ⟨rfl, Same.refl w⟩
     ·have z2 : ¬ (191 : Int) < (c : Int) := by omega
      go_wp2
      go_round
      case rel => exact ⟨j + 1, 64 * C + (c - 128), by omega, by omega, by go_num, by go_num, Px.hid ⟨by rw [Nat.add_sub_cancel, HC.out.1, ← HCC.out], by rw [Nat.add_sub_cancel]; exact HC.out.2.2 (by rw [← HCC.out]; omega) (by rw [← HCC.out]; omega)⟩⟩
      case measure => simp [intOf]; omega
   ·have hke : j = 2 := by omega
    subst hke
    have HW := Px.hid (H.out.2.1 hs HC.out.2 C HC.out.1)
    clear HC
    go_wp2
    all_goals
     go_ret
     refine ⟨?_, (Fr.refl _ w).alloc _⟩
     first
     | (rw [HW.out.1 (by omega)]; rfl)
     | (rw [HW.out.2 (by omega)]; rfl)

set_option maxRecDepth 100000 in
set_option maxHeartbeats 2000000 in
theorem utf_3 (l : Bytes) (w : World) (hlen : l.length ≤ maxLen) (hne : l ≠ []) (h1 : 224 ≤ (l.getD 0 0).toNat) (h2 : (l.getD 0 0).toNat < 240) :
  Calls Tryd.prog 88 #[S l] w fun e w' => e = .returned (.int .i64 (utfW l : Nat)) ∧ Same w w' := by
 unfold maxLen at hlen
 have _ := hlen
 have hsz : (ByteArray.mk l.toArray).size = l.length := size_S l
 have hpos : 0 < l.length := List.length_pos_iff.2 hne
 have hposz : ((l.length : Int) == 0) = false := by simp; omega
 have i0 : ∀ w, (Instr.index 9 (S l) (.int .i64 0)).run Tryd.prog w = .ok (.int .u8 (l.getD 0 0).toNat) w := fun w => idx_S l 0 hpos w
 have hb := (l.getD 0 0).toNat_lt
 have hsh := utf_short l hne 3 224 240 (.inr (.inl ⟨rfl, rfl, rfl⟩)) h1 h2
 have hco := fun k => utf_cont l hne 3 224 240 k (.inr (.inl ⟨rfl, rfl, rfl⟩)) h1 h2
 have hwh := utf_whole3 l hne h1 h2
 obtain ⟨b, hbb⟩ : ∃ b, b = (l.getD 0 0).toNat := ⟨_, rfl⟩
 rw [← hbb] at i0 hb h1 h2 hwh
 have hcz : ((b - 224 : Nat) : Int) = (b : Int) - 224 := by omega
 have hcl : b - 224 ≤ 31 := by omega
 have H := Px.hid (And.intro hco (And.intro hwh (And.intro hcz hcl)))
 have hz : ¬ (b : Int) < 128 := by omega
 have ga192 : (192 : Int) ≤ (b : Int) := by omega
 have gb224 : ¬ (b : Int) < 224 := by omega
 have ga224 : (224 : Int) ≤ (b : Int) := by omega
 have gb240 : (b : Int) < 240 := by omega
 clear hbb hco hwh hcz hcl hne
 by_cases hs : l.length < 3
 ·have H2 := Px.hid (hsh hs)
  have hsz2 : (l.length : Int) < 3 := by omega
  clear hsh H
  go_enter Tryd.func88, Tryd.ntmps88
  go_wp2
  go_ret
  rw [H2.out]
  exact ⟨rfl, Same.refl w⟩
 ·have hsz2 : ¬ (l.length : Int) < 3 := by omega
  clear hsh
  go_enter Tryd.func88, Tryd.ntmps88
  go_wp2
  go_loop [4, 6] (fun c i => ∃ j C : Nat, 1 ≤ j ∧ j ≤ 3 ∧ i = .int .i64 (j : Nat) ∧ c = .int .i64 (C : Nat) ∧ Hid (C = contC l (b - 224) (j - 1) ∧ contOk l (j - 1))) (fun _ i => 3 - (intOf i).toNat)
  case atStart => exact ⟨1, b - 224, by omega, by omega, rfl, by rw [H.out.2.2.1], Px.hid ⟨rfl, fun j a b => by omega⟩⟩
  case round =>
   obtain ⟨j, C, hj1, hj2, rfl, rfl, HC⟩ := hrel
   have hcb := contC_le l (b - 224) (j - 1) H.out.2.2.2 (by omega)
   rw [← HC.out.1] at hcb
   by_cases hlt : j < 3
   ·have hix : ∀ w, (Instr.index 9 (S l) (.int .i64 (j : Nat))).run Tryd.prog w = .ok (.int .u8 (l.getD j 0).toNat) w := fun w => idx_S l j (by omega) w
    have hc2 := (l.getD j 0).toNat_lt
    have hn2 : contC l (b - 224) j = 64 * C + ((l.getD j 0).toNat - 128) := by
     obtain ⟨k, rfl⟩ : ∃ k, j = k + 1 := ⟨j - 1, by omega⟩
     rw [HC.out.1]; rfl
    have hbd : ((l.getD j 0).toNat < 128 ∨ 191 < (l.getD j 0).toNat) → utfW l = 0 := by
     obtain ⟨k, rfl⟩ : ∃ k, j = k + 1 := ⟨j - 1, by omega⟩
     exact H.out.1 k hs hlt HC.out.2
    have hok : 128 ≤ (l.getD j 0).toNat → (l.getD j 0).toNat ≤ 191 → contOk l j := by
     obtain ⟨k, rfl⟩ : ∃ k, j = k + 1 := ⟨j - 1, by omega⟩
     exact contOk_succ HC.out.2
    have HC := Px.hid (And.intro hn2 (And.intro hbd hok))
    clear hn2 hbd hok
    obtain ⟨c, hcc⟩ : ∃ c, c = (l.getD j 0).toNat := ⟨_, rfl⟩
    rw [← hcc] at hix hc2
    have HCC := Px.hid hcc
    clear hcc
    have hlz : (j : Int) < 3 := by omega
    by_cases hb1 : c < 128
    ·have z1 : (c : Int) < 128 := by omega
     go_wp2
     go_ret
     rw [HC.out.2.1 (by rw [← HCC.out]; exact .inl hb1)]
     exact ⟨rfl, Same.refl w⟩
    ·have z1 : ¬ (c : Int) < 128 := by omega
     by_cases hb2 : 191 < c
     ·have z2 : (191 : Int) < (c : Int) := by omega
      go_wp2
      go_ret
      rw [HC.out.2.1 (by rw [← HCC.out]; exact .inr hb2)]
      exact ⟨rfl, Same.refl w⟩
     ·have z2 : ¬ (191 : Int) < (c : Int) := by omega
      go_wp2
      go_round
      case rel => exact ⟨j + 1, 64 * C + (c - 128), by omega, by omega, by go_num, by go_num, Px.hid ⟨by rw [Nat.add_sub_cancel, HC.out.1, ← HCC.out], by rw [Nat.add_sub_cancel]; exact HC.out.2.2 (by rw [← HCC.out]; omega) (by rw [← HCC.out]; omega)⟩⟩
      case measure => simp [intOf]; omega
   ·have hke : j = 3 := by omega
    subst hke
    have HW := Px.hid (H.out.2.1 hs HC.out.2 C HC.out.1)
    clear HC
    go_wp2
    all_goals
     go_ret
     refine ⟨?_, (Fr.refl _ w).alloc _⟩
     first
     | (rw [HW.out.1 (by omega)]; rfl)
     | (rw [HW.out.2 (by omega)]; rfl)

set_option maxRecDepth 100000 in
set_option maxHeartbeats 2000000 in
theorem utf_4 (l : Bytes) (w : World) (hlen : l.length ≤ maxLen) (hne : l ≠ []) (h1 : 240 ≤ (l.getD 0 0).toNat) (h2 : (l.getD 0 0).toNat < 248) :
  Calls Tryd.prog 88 #[S l] w fun e w' => e = .returned (.int .i64 (utfW l : Nat)) ∧ Same w w' := by
 unfold maxLen at hlen
 have _ := hlen
 have hsz : (ByteArray.mk l.toArray).size = l.length := size_S l
 have hpos : 0 < l.length := List.length_pos_iff.2 hne
 have hposz : ((l.length : Int) == 0) = false := by simp; omega
 have i0 : ∀ w, (Instr.index 9 (S l) (.int .i64 0)).run Tryd.prog w = .ok (.int .u8 (l.getD 0 0).toNat) w := fun w => idx_S l 0 hpos w
 have hb := (l.getD 0 0).toNat_lt
 have hsh := utf_short l hne 4 240 248 (.inr (.inr ⟨rfl, rfl, rfl⟩)) h1 h2
 have hco := fun k => utf_cont l hne 4 240 248 k (.inr (.inr ⟨rfl, rfl, rfl⟩)) h1 h2
 have hwh := utf_whole4 l hne h1 h2
 obtain ⟨b, hbb⟩ : ∃ b, b = (l.getD 0 0).toNat := ⟨_, rfl⟩
 rw [← hbb] at i0 hb h1 h2 hwh
 have hcz : ((b - 240 : Nat) : Int) = (b : Int) - 240 := by omega
 have hcl : b - 240 ≤ 31 := by omega
 have H := Px.hid (And.intro hco (And.intro hwh (And.intro hcz hcl)))
 have hz : ¬ (b : Int) < 128 := by omega
 have ga192 : (192 : Int) ≤ (b : Int) := by omega
 have gb224 : ¬ (b : Int) < 224 := by omega
 have ga224 : (224 : Int) ≤ (b : Int) := by omega
 have gb240 : ¬ (b : Int) < 240 := by omega
 have ga240 : (240 : Int) ≤ (b : Int) := by omega
 have gb248 : (b : Int) < 248 := by omega
 clear hbb hco hwh hcz hcl hne
 by_cases hs : l.length < 4
 ·have H2 := Px.hid (hsh hs)
  have hsz2 : (l.length : Int) < 4 := by omega
  clear hsh H
  go_enter Tryd.func88, Tryd.ntmps88
  go_wp2
  go_ret
  rw [H2.out]
  exact ⟨rfl, Same.refl w⟩
 ·have hsz2 : ¬ (l.length : Int) < 4 := by omega
  clear hsh
  go_enter Tryd.func88, Tryd.ntmps88
  go_wp2
  go_loop [4, 6] (fun c i => ∃ j C : Nat, 1 ≤ j ∧ j ≤ 4 ∧ i = .int .i64 (j : Nat) ∧ c = .int .i64 (C : Nat) ∧ Hid (C = contC l (b - 240) (j - 1) ∧ contOk l (j - 1))) (fun _ i => 4 - (intOf i).toNat)
  case atStart => exact ⟨1, b - 240, by omega, by omega, rfl, by rw [H.out.2.2.1], Px.hid ⟨rfl, fun j a b => by omega⟩⟩
  case round =>
   obtain ⟨j, C, hj1, hj2, rfl, rfl, HC⟩ := hrel
   have hcb := contC_le l (b - 240) (j - 1) H.out.2.2.2 (by omega)
   rw [← HC.out.1] at hcb
   by_cases hlt : j < 4
   ·have hix : ∀ w, (Instr.index 9 (S l) (.int .i64 (j : Nat))).run Tryd.prog w = .ok (.int .u8 (l.getD j 0).toNat) w := fun w => idx_S l j (by omega) w
    have hc2 := (l.getD j 0).toNat_lt
    have hn2 : contC l (b - 240) j = 64 * C + ((l.getD j 0).toNat - 128) := by
     obtain ⟨k, rfl⟩ : ∃ k, j = k + 1 := ⟨j - 1, by omega⟩
     rw [HC.out.1]; rfl
    have hbd : ((l.getD j 0).toNat < 128 ∨ 191 < (l.getD j 0).toNat) → utfW l = 0 := by
     obtain ⟨k, rfl⟩ : ∃ k, j = k + 1 := ⟨j - 1, by omega⟩
     exact H.out.1 k hs hlt HC.out.2
    have hok : 128 ≤ (l.getD j 0).toNat → (l.getD j 0).toNat ≤ 191 → contOk l j := by
     obtain ⟨k, rfl⟩ : ∃ k, j = k + 1 := ⟨j - 1, by omega⟩
     exact contOk_succ HC.out.2
    have HC := Px.hid (And.intro hn2 (And.intro hbd hok))
    clear hn2 hbd hok
    obtain ⟨c, hcc⟩ : ∃ c, c = (l.getD j 0).toNat := ⟨_, rfl⟩
    rw [← hcc] at hix hc2
    have HCC := Px.hid hcc
    clear hcc
    have hlz : (j : Int) < 4 := by omega
    by_cases hb1 : c < 128
    ·have z1 : (c : Int) < 128 := by omega
     go_wp2
     go_ret
     rw [HC.out.2.1 (by rw [← HCC.out]; exact .inl hb1)]
     exact ⟨rfl, Same.refl w⟩
    ·have z1 : ¬ (c : Int) < 128 := by omega
     by_cases hb2 : 191 < c
     ·have z2 : (191 : Int) < (c : Int) := by omega
      go_wp2
      go_ret
      rw [HC.out.2.1 (by rw [← HCC.out]; exact .inr hb2)]
      exact ⟨rfl, Same.refl w⟩
     ·have z2 : ¬ (191 : Int) < (c : Int) := by omega
      go_wp2
      go_round
      case rel => exact ⟨j + 1, 64 * C + (c - 128), by omega, by omega, by go_num, by go_num, Px.hid ⟨by rw [Nat.add_sub_cancel, HC.out.1, ← HCC.out], by rw [Nat.add_sub_cancel]; exact HC.out.2.2 (by rw [← HCC.out]; omega) (by rw [← HCC.out]; omega)⟩⟩
      case measure => simp [intOf]; omega
   ·have hke : j = 4 := by omega
    subst hke
    have HW := Px.hid (H.out.2.1 hs HC.out.2 C HC.out.1)
    clear HC
    go_wp2
    all_goals
     go_ret
     refine ⟨?_, (Fr.refl _ w).alloc _⟩
     first
     | (rw [HW.out.1 (by omega)]; rfl)
     | (rw [HW.out.2 (by omega)]; rfl)

theorem utf_any (l : Bytes) (w : World) (hlen : l.length ≤ maxLen) : Calls Tryd.prog 88 #[S l] w fun e w' => e = .returned (.int .i64 (utfW l : Nat)) ∧ Same w w' := by
 by_cases hne : l = []
 ·subst hne; exact utf_nil w
 ·by_cases h1 : (l.getD 0 0).toNat < 128
  ·exact utf_one l w hlen hne h1
  ·by_cases h2 : (l.getD 0 0).toNat < 192 ∨ 248 ≤ (l.getD 0 0).toNat
   ·exact utf_odd l w hlen hne (by omega) h2
   ·by_cases h3 : (l.getD 0 0).toNat < 224
    ·exact utf_2 l w hlen hne (by omega) h3
    ·by_cases h4 : (l.getD 0 0).toNat < 240
     ·exact utf_3 l w hlen hne (by omega) h4
     ·exact utf_4 l w hlen hne (by omega) (by omega)

set_option maxHeartbeats 1000000 in
theorem text_any (l : Bytes) (w : World) (hlen : l.length ≤ maxLen) : Calls Tryd.prog 78 #[S l] w fun e w' => e = .returned (.bool (Lib.validD l)) ∧ Same w w' := by
 have hlen2 := hlen
 unfold maxLen at hlen
 have hsz : (ByteArray.mk l.toArray).size = l.length := size_S l
 have HL := Px.hid hlen2
 clear hlen2
 go_enter Tryd.func78, Tryd.ntmps78
 go_wp2
 go_loopw [3, 4] (fun i _ wr => ∃ k n : Nat, k ≤ l.length ∧ i = .int .i64 (k : Nat) ∧ l.length - k ≤ n ∧ Lib.validGoD n (l.drop k) = Lib.validD l ∧ Same w wr) (fun i _ _ => l.length - (intOf i).toNat)
 case atStart => exact ⟨0, l.length, Nat.zero_le _, rfl, by omega, rfl, Same.refl w⟩
 case round =>
  obtain ⟨k, n, hk, rfl, hn, hv, hs⟩ := hrel
  by_cases hlt : k < l.length
  ·have hltz : (k : Int) < (l.length : Int) := by omega
   have hfr : ∀ w, (Instr.slice 9 (S l) (some (.int .i64 (k : Int))) none none).run Tryd.prog w = .ok (S (l.drop k)) w := fun w => from_S l k hk w
   have hne : l.drop k ≠ [] := by intro e; have := congrArg List.length e; simp at this; omega
   obtain ⟨m, rfl⟩ : ∃ m, n = m + 1 := ⟨n - 1, by omega⟩
   have hst := validGoD_step m (l.drop k) hne
   rw [hv] at hst
   have hle := utfW_le (l.drop k)
   rw [List.length_drop] at hle
   rw [List.drop_drop] at hst
   have hll : (l.drop k).length ≤ maxLen := by have := HL.out; rw [List.length_drop]; omega
   have HST := Px.hid (And.intro hst (And.intro hll hs))
   clear hst hll hs hv hne
   go_wp2_with fail
   refine (utf_any (l.drop k) _ HST.out.2.1).mono ?_
   rintro e w' ⟨rfl, hs⟩
   have HS := Px.hid (HST.out.2.2.trans hs)
   have HST := Px.hid HST.out.1
   clear hs
   obtain ⟨u, hu⟩ : ∃ u, u = utfW (l.drop k) := ⟨_, rfl⟩
   rw [← hu] at hle ⊢
   have HU := Px.hid hu
   clear hu
   by_cases h0 : u = 0
   ·have hr : Lib.validD l = false := by rw [HST.out, if_pos (by rw [← HU.out]; exact h0)]
    have H := Px.hid hr
    clear hr
    subst h0
    go_wp2
    go_ret
    rw [H.out]
    exact ⟨rfl, HS.out⟩
   ·have hr : Lib.validD l = Lib.validGoD m (l.drop (k + u)) := by rw [HST.out, if_neg (by rw [← HU.out]; exact h0), ← HU.out]
    have H := Px.hid hr
    have h0z : ((u : Int) == 0) = false := by simp; omega
    clear hr
    go_wp2
    go_roundw
    case rel => exact ⟨k + u, m, by omega, by go_num, by omega, H.out.symm, HS.out⟩
    case measure => simp [intOf]; omega
  ·have hltz : ¬ (k : Int) < (l.length : Int) := by omega
   have hd : l.drop k = [] := List.drop_eq_nil_of_le (by omega)
   rw [hd, validGoD_nil] at hv
   have H := Px.hid (And.intro hv hs)
   clear hd hv hs
   go_wp2
   go_ret
   rw [← H.out.1]
   exact ⟨rfl, H.out.2⟩
end Go.Proofs.YtddiabaagpmkgaaDoor

/-! The walk over the reference's Head (layer 17). -/
namespace Go.Proofs.YtddiabaagpmkgaaDoor
open Go.RowKit Go.Px Go.Px.R7

theorem infoOf_le (n : Nat) : infoOf n ≤ 3 := by
 unfold infoOf; repeat' split
 all_goals omega

/-- A new string of bytes of the call's own: what it holds. -/
theorem Owns.str {w : World} {v : Value} {l : List UInt8} (h : Owns w 5 1 cByte v l) : (convert 75 9 v).run Tryd.prog w = .ok (S l) w := by
 obtain ⟨sv, hs, hc⟩ := h.bytesTo (P := Tryd.prog) (p := 0) (Nat.zero_le _) (t := 75) (dst := 9) (by kernel_rfl) (by kernel_rfl) (by kernel_rfl) Tryd.sizeU8
 have hc0 := hc 0
 have hs0 := hs w
 rcases h.2 with ⟨rfl, h0⟩ | ⟨g, cap, cur, rfl, _, hg, hc1, hc2, _⟩
 ·rw [run_convert_bytes_nil _ 75 5 Tryd.underlying75 Tryd.underlying5 0 0 9 Tryd.underlying9, List.length_eq_zero_iff.1 h0]
  rfl
 ·have hcell : ∀ j, (hj : j < l.length) → w.cell? ⟨g, 0 + j, none⟩ = some (.int .u8 (l[j].toNat)) := by
   intro j hj
   obtain ⟨g', cap', hv, _, _, hc, _⟩ := h.at cByte_len (j := j) (a := l[j]) (by simp [hj])
   simp only [Value.slice.injEq, Option.some.injEq, Addr.mk.injEq, and_true, true_and] at hv
   obtain ⟨rfl, rfl⟩ := hv
   have := hc 0 _ rfl
   simpa using this
  rw [run_convert_bytes_arg w 75 5 Tryd.underlying75 Tryd.underlying5 g 0 l.length cap (l.map fun c => ((c.toNat : Nat) : Int)) (by simp) ?_ 9 Tryd.underlying9, strOf_bytes]
  intro i hi
  rw [hcell i hi]
  simp [List.getD, hi]

theorem owns_one (w : World) (c : Nat) (hc : c < 256) : Owns (w.alloc (.cells #[.int .u8 (c : Int)] 5 (0, 0))) 5 1 cByte (.slice (some ⟨w.heap.size, 0, none⟩) 1 1) [UInt8.ofNat c] := by
 refine ⟨rfl, .inr ⟨w.heap.size, 1, #[.int .u8 (c : Int)], rfl, Nat.zero_le _, heap_alloc_new w _, Nat.le_refl _, by unfold maxLen; omega, rfl, ?_⟩⟩
 have : (UInt8.ofNat c).toNat = c := by simp; omega
 simp [cByte, this]
theorem info_1 (n : Nat) : (256 : Int) ≤ n ↔ 1 ≤ infoOf n := by
 unfold infoOf; repeat' split
 all_goals omega
theorem info_2 (n : Nat) : (65536 : Int) ≤ n ↔ 2 ≤ infoOf n := by
 unfold infoOf; repeat' split
 all_goals omega
theorem info_3 (n : Nat) : (4294967296 : Int) ≤ n ↔ 3 ≤ infoOf n := by
 unfold infoOf; repeat' split
 all_goals omega
theorem grown_alloc1 {w w1 : World} {o : Obj} {row : Option Nat} (hg : (w.alloc o).grownBy w1 row) : w.grownBy w1 row :=
 ⟨hg.os, hg.tape, hg.output, by have := hg.size; simp at this; omega, fun k hk hne => (hg.block k (by simp; omega) hne).trans (Below.heap_alloc w o k hk)⟩
theorem one_byte (n : Nat) (h : n < 256) : [Value.int .u8 (n : Int)] = cByte (UInt8.ofNat (n / 256 ^ 0)) := by
 have : (UInt8.ofNat n).toNat = n := by simp; omega
 simp [cByte, this]
theorem headB_far (k n : Nat) (h : ¬ n < 24) : headB k n = UInt8.ofNat (32 * k + 24 + infoOf n) :: beBytes n (2 ^ infoOf n) := by unfold headB; rw [if_neg h]

set_option maxRecDepth 100000 in
set_option maxHeartbeats 2000000 in
theorem head17_any (k n : Nat) (w : World) (hk : k < 8) (hn : n < 18446744073709551616) :
  Calls Tryd.prog 33 #[.int .i64 (k : Nat), .int .u64 (n : Nat)] w fun e w' => e = .returned (S (headB k n)) ∧ Same w w' := by
 have HN := Px.hid hn
 by_cases h24 : n < 24
 ·have hr : headB k n = [UInt8.ofNat (32 * k + n)] := by unfold headB; rw [if_pos h24]
  have hv : ((32 * k + n : Nat) : Int) = 32 * (k : Int) + n := by omega
  have hz : (n : Int) < 24 := by omega
  have hst := Owns.str (owns_one w (32 * k + n) (by omega))
  rw [hv, ← hr] at hst
  have hnn : (n : Int) ≤ 23 := by omega
  clear hr hv hn h24
  go_enter Tryd.func33, Tryd.ntmps33
  go_wp2
  go_ret
  exact ⟨rfl, (Fr.refl _ w).alloc _⟩
 ·have hr := Px.hid (headB_far k n h24)
  have hz : ¬ (n : Int) < 24 := by omega
  have hi3 := infoOf_le n
  have h256 := info_1 n
  have h65536 := info_2 n
  have h4g := info_3 n
  obtain ⟨t, ht⟩ : ∃ t, t = infoOf n := ⟨_, rfl⟩
  rw [← ht] at hi3 h256 h65536 h4g hr
  have HT := Px.hid (And.intro ht (And.intro h256 (And.intro h65536 h4g)))
  clear hn h24 h256 h65536 h4g ht
  go_enter Tryd.func33, Tryd.ntmps33
  go_wp2
  go_loop [5, 6] (fun wd inf => ∃ j, j ≤ t ∧ (j = 0 ∧ wd = .int .i64 1 ∧ inf = .int .i64 24 ∨ j = 1 ∧ wd = .int .i64 2 ∧ inf = .int .i64 25 ∨ j = 2 ∧ wd = .int .i64 4 ∧ inf = .int .i64 26 ∨ j = 3 ∧ wd = .int .i64 8 ∧ inf = .int .i64 27)) (fun _ inf => 28 - (intOf inf).toNat)
  case atStart => exact ⟨0, Nat.zero_le _, .inl ⟨rfl, rfl, rfl⟩⟩
  case round =>
   obtain ⟨j, hj, h4⟩ := hrel
   rcases h4 with ⟨rfl, rfl, rfl⟩ | ⟨rfl, rfl, rfl⟩ | ⟨rfl, rfl, rfl⟩ | ⟨rfl, rfl, rfl⟩
   ·by_cases hlt : 1 ≤ t
    ·have hnz := HT.out.2.1.2 hlt
     go_wp2
     go_round
     case rel => exact ⟨1, hlt, .inr (.inl ⟨rfl, rfl, rfl⟩)⟩
     case measure => simp [intOf]
    ·have hnz : ¬ (256 : Int) ≤ n := fun h => hlt (HT.out.2.1.1 h)
     have HB := Px.hid (show headB k n = [UInt8.ofNat (32 * k + 24)] ++ beBytes n 1 by rw [hr.out, show t = 0 by omega]; rfl)
     have hoo := owns_one w (32 * k + 24) (by omega)
     have hcc : ((32 * k + 24 : Nat) : Int) = 32 * (k : Int) + 24 := by omega
     rw [hcc] at hoo
     have HOO := Px.hid hoo
     clear hoo hcc HT
     go_wp2
     go_loopw [7, 8] (fun v i wr => ∃ (m : Nat) (L : Bytes), m ≤ 1 ∧ i = .int .i64 ((m : Int) - 1) ∧ L.length ≤ 10 - m ∧ Hid (Owns wr 5 1 cByte v L ∧ Same w wr ∧ (∀ g, v.ownBlock = some g → w.heap.size ≤ g) ∧ L ++ beBytes n m = headB k n)) (fun _ i _ => (intOf i + 1).toNat)
     case atStart => exact ⟨1, [UInt8.ofNat (32 * k + 24)], by omega, by go_num, by simp, Px.hid ⟨HOO.out, (Fr.refl _ w).alloc _, fun g hg => by simp [Value.ownBlock] at hg; omega, HB.out.symm⟩⟩
     case round =>
      clear HB HOO
      obtain ⟨m, L, hm1, rfl, hll, HO⟩ := hrel
      obtain ⟨va, vc, hvl, _⟩ := HO.out.1.len
      subst hvl
      by_cases hm0 : 1 ≤ m
      ·have z1 : (0 : Int) ≤ (m : Int) - 1 := by omega
       have z2 : (1 : Int) ≤ (m : Int) := by omega
       obtain ⟨q, hq⟩ : ∃ q, q = m - 1 := ⟨_, rfl⟩
       have hsh : (n : Int) / 2 ^ (8 * (m - 1)) % 256 = ((n / 256 ^ q % 256 : Nat) : Int) := by
        have e : 8 * (m - 1) = 8 * q := by omega
        rw [e, show (256 : Nat) = 2 ^ 8 by rfl, ← Nat.pow_mul]
        push_cast
        rfl
       have hqb : beBytes n m = UInt8.ofNat (n / 256 ^ q) :: beBytes n q := by rw [show m = q + 1 by omega]; rfl
       have hqv : (UInt8.ofNat (n / 256 ^ q)).toNat = n / 256 ^ q % 256 := by simp
       have hq1 : ((m : Int) - 1) = (q : Int) := by omega
       obtain ⟨c, hc⟩ : ∃ c, c = UInt8.ofNat (n / 256 ^ q) := ⟨_, rfl⟩
       rw [← hc] at hqb hqv
       rw [← hqv] at hsh
       have HN1 := Px.hid (show [Value.int .u8 (n : Int)] = cByte c by rw [hc, show q = 0 by omega]; exact one_byte n (by omega))
       have HQ := Px.hid (And.intro hqb (And.intro hq hq1))
       clear hqb hqv hc hq hq1
       obtain ⟨i0, hi0, hz0, hz1, hz2⟩ := info_parts Tryd.infoU8
       have hown : wr.ownsRow 0 5 1 (.slice va L.length vc) L.length (L.flatMap cByte) := HO.out.1
       go_wp2_with (at_builtin; go_must (refine wpList_append_lies _ rfl _ _ _ rfl 0 5 i0 _ 1 1 Tryd.underlying75 hi0 hz0 hz1 hz2 rfl (by omega) (.slice va L.length vc) L.length (L.flatMap cByte) rfl (Owns.alloc HO.out.1 _) ⟨wr.heap.size, 0, none⟩ 1 1 [.int .u8 (n : Int)] rfl rfl (World.news_of_block (cs := #[.int .u8 (n : Int)]) (t := 5) (fr := (0, 0)) (heap_alloc_new wr _)) (by simp [Value.oneCell']) (by omega) (by unfold maxLen; omega) (by omega) (by omega) (wr.heap.size + 1) (by simp) ?_))
       intro gg cap w1 hown1 hgrow hat hlt
       rw [HN1.out] at hown1
       have HW := Px.hid (And.intro hown1 (And.intro (show wr.grownBy w1 (Value.slice va L.length vc).ownBlock from grown_alloc1 (w := wr) hgrow) hat))
       clear hown1 hgrow hat hown
       go_wp2
       go_roundw
       case rel =>
        refine ⟨q, L ++ [c], by have := HQ.out.2.1; omega, ?_, by have := HQ.out.2.1; simp; omega, Px.hid ⟨owns_append HW.out.1, Fr.grown HO.out.2.1 HW.out.2.1 (fun g e => .inr (HO.out.2.2.1 g e)), ?_, ?_⟩⟩
        ·have := HQ.out.2.2; go_num
        ·intro g hg
         simp only [Value.ownBlock, Option.some.injEq] at hg
         subst hg
         rcases HW.out.2.2 with e | e
         ·exact HO.out.2.2.1 _ e
         ·have := HO.out.2.1.size; omega
        ·rw [List.append_assoc, ← HO.out.2.2.2, HQ.out.1]; rfl
       case measure => simp [intOf]; omega
      ·have z1 : ¬ (0 : Int) ≤ (m : Int) - 1 := by omega
       have z2 : ¬ (1 : Int) ≤ (m : Int) := by omega
       have hstr := Owns.str HO.out.1
       have HE := Px.hid (show L = headB k n by have := HO.out.2.2.2; rw [show m = 0 by omega] at this; simpa [beBytes] using this)
       go_wp2
       go_ret
       rw [HE.out]
       exact ⟨rfl, HO.out.2.1⟩
   ·by_cases hlt : 2 ≤ t
    ·have hnz := HT.out.2.2.1.2 hlt
     go_wp2
     go_round
     case rel => exact ⟨2, hlt, .inr (.inr (.inl ⟨rfl, rfl, rfl⟩))⟩
     case measure => simp [intOf]
    ·have hnz : ¬ (65536 : Int) ≤ n := fun h => hlt (HT.out.2.2.1.1 h)
     have HB := Px.hid (show headB k n = [UInt8.ofNat (32 * k + 25)] ++ beBytes n 2 by rw [hr.out, show t = 1 by omega]; rfl)
     have hoo := owns_one w (32 * k + 25) (by omega)
     have hcc : ((32 * k + 25 : Nat) : Int) = 32 * (k : Int) + 25 := by omega
     rw [hcc] at hoo
     have HOO := Px.hid hoo
     clear hoo hcc HT
     go_wp2
     go_loopw [7, 8] (fun v i wr => ∃ (m : Nat) (L : Bytes), m ≤ 2 ∧ i = .int .i64 ((m : Int) - 1) ∧ L.length ≤ 10 - m ∧ Hid (Owns wr 5 1 cByte v L ∧ Same w wr ∧ (∀ g, v.ownBlock = some g → w.heap.size ≤ g) ∧ L ++ beBytes n m = headB k n)) (fun _ i _ => (intOf i + 1).toNat)
     case atStart => exact ⟨2, [UInt8.ofNat (32 * k + 25)], by omega, by go_num, by simp, Px.hid ⟨HOO.out, (Fr.refl _ w).alloc _, fun g hg => by simp [Value.ownBlock] at hg; omega, HB.out.symm⟩⟩
     case round =>
      clear HB HOO
      obtain ⟨m, L, hm1, rfl, hll, HO⟩ := hrel
      obtain ⟨va, vc, hvl, _⟩ := HO.out.1.len
      subst hvl
      by_cases hm0 : 1 ≤ m
      ·have z1 : (0 : Int) ≤ (m : Int) - 1 := by omega
       have z2 : (1 : Int) ≤ (m : Int) := by omega
       obtain ⟨q, hq⟩ : ∃ q, q = m - 1 := ⟨_, rfl⟩
       have hsh : (n : Int) / 2 ^ (8 * (m - 1)) % 256 = ((n / 256 ^ q % 256 : Nat) : Int) := by
        have e : 8 * (m - 1) = 8 * q := by omega
        rw [e, show (256 : Nat) = 2 ^ 8 by rfl, ← Nat.pow_mul]
        push_cast
        rfl
       have hqb : beBytes n m = UInt8.ofNat (n / 256 ^ q) :: beBytes n q := by rw [show m = q + 1 by omega]; rfl
       have hqv : (UInt8.ofNat (n / 256 ^ q)).toNat = n / 256 ^ q % 256 := by simp
       have hq1 : ((m : Int) - 1) = (q : Int) := by omega
       obtain ⟨c, hc⟩ : ∃ c, c = UInt8.ofNat (n / 256 ^ q) := ⟨_, rfl⟩
       rw [← hc] at hqb hqv
       rw [← hqv] at hsh
       skip
       have HQ := Px.hid (And.intro hqb (And.intro hq hq1))
       clear hqb hqv hc hq hq1
       obtain ⟨i0, hi0, hz0, hz1, hz2⟩ := info_parts Tryd.infoU8
       have hown : wr.ownsRow 0 5 1 (.slice va L.length vc) L.length (L.flatMap cByte) := HO.out.1
       go_wp2_with (at_builtin; go_must (refine wpList_append_lies _ rfl _ _ _ rfl 0 5 i0 _ 1 1 Tryd.underlying75 hi0 hz0 hz1 hz2 rfl (by omega) (.slice va L.length vc) L.length (L.flatMap cByte) rfl (Owns.alloc HO.out.1 _) ⟨wr.heap.size, 0, none⟩ 1 1 [.int .u8 c.toNat] rfl rfl (World.news_of_block (cs := #[.int .u8 c.toNat]) (t := 5) (fr := (0, 0)) (heap_alloc_new wr _)) (by simp [Value.oneCell']) (by omega) (by unfold maxLen; omega) (by omega) (by omega) (wr.heap.size + 1) (by simp) ?_))
       intro gg cap w1 hown1 hgrow hat hlt
       skip
       have HW := Px.hid (And.intro hown1 (And.intro (show wr.grownBy w1 (Value.slice va L.length vc).ownBlock from grown_alloc1 (w := wr) hgrow) hat))
       clear hown1 hgrow hat hown
       go_wp2
       go_roundw
       case rel =>
        refine ⟨q, L ++ [c], by have := HQ.out.2.1; omega, ?_, by have := HQ.out.2.1; simp; omega, Px.hid ⟨owns_append HW.out.1, Fr.grown HO.out.2.1 HW.out.2.1 (fun g e => .inr (HO.out.2.2.1 g e)), ?_, ?_⟩⟩
        ·have := HQ.out.2.2; go_num
        ·intro g hg
         simp only [Value.ownBlock, Option.some.injEq] at hg
         subst hg
         rcases HW.out.2.2 with e | e
         ·exact HO.out.2.2.1 _ e
         ·have := HO.out.2.1.size; omega
        ·rw [List.append_assoc, ← HO.out.2.2.2, HQ.out.1]; rfl
       case measure => simp [intOf]; omega
      ·have z1 : ¬ (0 : Int) ≤ (m : Int) - 1 := by omega
       have z2 : ¬ (1 : Int) ≤ (m : Int) := by omega
       have hstr := Owns.str HO.out.1
       have HE := Px.hid (show L = headB k n by have := HO.out.2.2.2; rw [show m = 0 by omega] at this; simpa [beBytes] using this)
       go_wp2
       go_ret
       rw [HE.out]
       exact ⟨rfl, HO.out.2.1⟩
   ·by_cases hlt : 3 ≤ t
    ·have hnz := HT.out.2.2.2.2 hlt
     go_wp2
     go_round
     case rel => exact ⟨3, hlt, .inr (.inr (.inr ⟨rfl, rfl, rfl⟩))⟩
     case measure => simp [intOf]
    ·have hnz : ¬ (4294967296 : Int) ≤ n := fun h => hlt (HT.out.2.2.2.1 h)
     have HB := Px.hid (show headB k n = [UInt8.ofNat (32 * k + 26)] ++ beBytes n 4 by rw [hr.out, show t = 2 by omega]; rfl)
     have hoo := owns_one w (32 * k + 26) (by omega)
     have hcc : ((32 * k + 26 : Nat) : Int) = 32 * (k : Int) + 26 := by omega
     rw [hcc] at hoo
     have HOO := Px.hid hoo
     clear hoo hcc HT
     go_wp2
     go_loopw [7, 8] (fun v i wr => ∃ (m : Nat) (L : Bytes), m ≤ 4 ∧ i = .int .i64 ((m : Int) - 1) ∧ L.length ≤ 10 - m ∧ Hid (Owns wr 5 1 cByte v L ∧ Same w wr ∧ (∀ g, v.ownBlock = some g → w.heap.size ≤ g) ∧ L ++ beBytes n m = headB k n)) (fun _ i _ => (intOf i + 1).toNat)
     case atStart => exact ⟨4, [UInt8.ofNat (32 * k + 26)], by omega, by go_num, by simp, Px.hid ⟨HOO.out, (Fr.refl _ w).alloc _, fun g hg => by simp [Value.ownBlock] at hg; omega, HB.out.symm⟩⟩
     case round =>
      clear HB HOO
      obtain ⟨m, L, hm1, rfl, hll, HO⟩ := hrel
      obtain ⟨va, vc, hvl, _⟩ := HO.out.1.len
      subst hvl
      by_cases hm0 : 1 ≤ m
      ·have z1 : (0 : Int) ≤ (m : Int) - 1 := by omega
       have z2 : (1 : Int) ≤ (m : Int) := by omega
       obtain ⟨q, hq⟩ : ∃ q, q = m - 1 := ⟨_, rfl⟩
       have hsh : (n : Int) / 2 ^ (8 * (m - 1)) % 256 = ((n / 256 ^ q % 256 : Nat) : Int) := by
        have e : 8 * (m - 1) = 8 * q := by omega
        rw [e, show (256 : Nat) = 2 ^ 8 by rfl, ← Nat.pow_mul]
        push_cast
        rfl
       have hqb : beBytes n m = UInt8.ofNat (n / 256 ^ q) :: beBytes n q := by rw [show m = q + 1 by omega]; rfl
       have hqv : (UInt8.ofNat (n / 256 ^ q)).toNat = n / 256 ^ q % 256 := by simp
       have hq1 : ((m : Int) - 1) = (q : Int) := by omega
       obtain ⟨c, hc⟩ : ∃ c, c = UInt8.ofNat (n / 256 ^ q) := ⟨_, rfl⟩
       rw [← hc] at hqb hqv
       rw [← hqv] at hsh
       skip
       have HQ := Px.hid (And.intro hqb (And.intro hq hq1))
       clear hqb hqv hc hq hq1
       obtain ⟨i0, hi0, hz0, hz1, hz2⟩ := info_parts Tryd.infoU8
       have hown : wr.ownsRow 0 5 1 (.slice va L.length vc) L.length (L.flatMap cByte) := HO.out.1
       go_wp2_with (at_builtin; go_must (refine wpList_append_lies _ rfl _ _ _ rfl 0 5 i0 _ 1 1 Tryd.underlying75 hi0 hz0 hz1 hz2 rfl (by omega) (.slice va L.length vc) L.length (L.flatMap cByte) rfl (Owns.alloc HO.out.1 _) ⟨wr.heap.size, 0, none⟩ 1 1 [.int .u8 c.toNat] rfl rfl (World.news_of_block (cs := #[.int .u8 c.toNat]) (t := 5) (fr := (0, 0)) (heap_alloc_new wr _)) (by simp [Value.oneCell']) (by omega) (by unfold maxLen; omega) (by omega) (by omega) (wr.heap.size + 1) (by simp) ?_))
       intro gg cap w1 hown1 hgrow hat hlt
       skip
       have HW := Px.hid (And.intro hown1 (And.intro (show wr.grownBy w1 (Value.slice va L.length vc).ownBlock from grown_alloc1 (w := wr) hgrow) hat))
       clear hown1 hgrow hat hown
       go_wp2
       go_roundw
       case rel =>
        refine ⟨q, L ++ [c], by have := HQ.out.2.1; omega, ?_, by have := HQ.out.2.1; simp; omega, Px.hid ⟨owns_append HW.out.1, Fr.grown HO.out.2.1 HW.out.2.1 (fun g e => .inr (HO.out.2.2.1 g e)), ?_, ?_⟩⟩
        ·have := HQ.out.2.2; go_num
        ·intro g hg
         simp only [Value.ownBlock, Option.some.injEq] at hg
         subst hg
         rcases HW.out.2.2 with e | e
         ·exact HO.out.2.2.1 _ e
         ·have := HO.out.2.1.size; omega
        ·rw [List.append_assoc, ← HO.out.2.2.2, HQ.out.1]; rfl
       case measure => simp [intOf]; omega
      ·have z1 : ¬ (0 : Int) ≤ (m : Int) - 1 := by omega
       have z2 : ¬ (1 : Int) ≤ (m : Int) := by omega
       have hstr := Owns.str HO.out.1
       have HE := Px.hid (show L = headB k n by have := HO.out.2.2.2; rw [show m = 0 by omega] at this; simpa [beBytes] using this)
       go_wp2
       go_ret
       rw [HE.out]
       exact ⟨rfl, HO.out.2.1⟩
   ·have hlt : ¬ 4 ≤ t := by omega
    have HB := Px.hid (show headB k n = [UInt8.ofNat (32 * k + 27)] ++ beBytes n 8 by rw [hr.out, show t = 3 by omega]; rfl)
    have hoo := owns_one w (32 * k + 27) (by omega)
    have hcc : ((32 * k + 27 : Nat) : Int) = 32 * (k : Int) + 27 := by omega
    rw [hcc] at hoo
    have HOO := Px.hid hoo
    clear hoo hcc HT
    go_wp2
    go_loopw [7, 8] (fun v i wr => ∃ (m : Nat) (L : Bytes), m ≤ 8 ∧ i = .int .i64 ((m : Int) - 1) ∧ L.length ≤ 10 - m ∧ Hid (Owns wr 5 1 cByte v L ∧ Same w wr ∧ (∀ g, v.ownBlock = some g → w.heap.size ≤ g) ∧ L ++ beBytes n m = headB k n)) (fun _ i _ => (intOf i + 1).toNat)
    case atStart => exact ⟨8, [UInt8.ofNat (32 * k + 27)], by omega, by go_num, by simp, Px.hid ⟨HOO.out, (Fr.refl _ w).alloc _, fun g hg => by simp [Value.ownBlock] at hg; omega, HB.out.symm⟩⟩
    case round =>
     clear HB HOO
     obtain ⟨m, L, hm1, rfl, hll, HO⟩ := hrel
     obtain ⟨va, vc, hvl, _⟩ := HO.out.1.len
     subst hvl
     by_cases hm0 : 1 ≤ m
     ·have z1 : (0 : Int) ≤ (m : Int) - 1 := by omega
      have z2 : (1 : Int) ≤ (m : Int) := by omega
      obtain ⟨q, hq⟩ : ∃ q, q = m - 1 := ⟨_, rfl⟩
      have hsh : (n : Int) / 2 ^ (8 * (m - 1)) % 256 = ((n / 256 ^ q % 256 : Nat) : Int) := by
       have e : 8 * (m - 1) = 8 * q := by omega
       rw [e, show (256 : Nat) = 2 ^ 8 by rfl, ← Nat.pow_mul]
       push_cast
       rfl
      have hqb : beBytes n m = UInt8.ofNat (n / 256 ^ q) :: beBytes n q := by rw [show m = q + 1 by omega]; rfl
      have hqv : (UInt8.ofNat (n / 256 ^ q)).toNat = n / 256 ^ q % 256 := by simp
      have hq1 : ((m : Int) - 1) = (q : Int) := by omega
      obtain ⟨c, hc⟩ : ∃ c, c = UInt8.ofNat (n / 256 ^ q) := ⟨_, rfl⟩
      rw [← hc] at hqb hqv
      rw [← hqv] at hsh
      skip
      have HQ := Px.hid (And.intro hqb (And.intro hq hq1))
      clear hqb hqv hc hq hq1
      obtain ⟨i0, hi0, hz0, hz1, hz2⟩ := info_parts Tryd.infoU8
      have hown : wr.ownsRow 0 5 1 (.slice va L.length vc) L.length (L.flatMap cByte) := HO.out.1
      go_wp2_with (at_builtin; go_must (refine wpList_append_lies _ rfl _ _ _ rfl 0 5 i0 _ 1 1 Tryd.underlying75 hi0 hz0 hz1 hz2 rfl (by omega) (.slice va L.length vc) L.length (L.flatMap cByte) rfl (Owns.alloc HO.out.1 _) ⟨wr.heap.size, 0, none⟩ 1 1 [.int .u8 c.toNat] rfl rfl (World.news_of_block (cs := #[.int .u8 c.toNat]) (t := 5) (fr := (0, 0)) (heap_alloc_new wr _)) (by simp [Value.oneCell']) (by omega) (by unfold maxLen; omega) (by omega) (by omega) (wr.heap.size + 1) (by simp) ?_))
      intro gg cap w1 hown1 hgrow hat hlt
      skip
      have HW := Px.hid (And.intro hown1 (And.intro (show wr.grownBy w1 (Value.slice va L.length vc).ownBlock from grown_alloc1 (w := wr) hgrow) hat))
      clear hown1 hgrow hat hown
      go_wp2
      go_roundw
      case rel =>
       refine ⟨q, L ++ [c], by have := HQ.out.2.1; omega, ?_, by have := HQ.out.2.1; simp; omega, Px.hid ⟨owns_append HW.out.1, Fr.grown HO.out.2.1 HW.out.2.1 (fun g e => .inr (HO.out.2.2.1 g e)), ?_, ?_⟩⟩
       ·have := HQ.out.2.2; go_num
       ·intro g hg
        simp only [Value.ownBlock, Option.some.injEq] at hg
        subst hg
        rcases HW.out.2.2 with e | e
        ·exact HO.out.2.2.1 _ e
        ·have := HO.out.2.1.size; omega
       ·rw [List.append_assoc, ← HO.out.2.2.2, HQ.out.1]; rfl
      case measure => simp [intOf]; omega
     ·have z1 : ¬ (0 : Int) ≤ (m : Int) - 1 := by omega
      have z2 : ¬ (1 : Int) ≤ (m : Int) := by omega
      have hstr := Owns.str HO.out.1
      have HE := Px.hid (show L = headB k n by have := HO.out.2.2.2; rw [show m = 0 by omega] at this; simpa [beBytes] using this)
      go_wp2
      go_ret
      rw [HE.out]
      exact ⟨rfl, HO.out.2.1⟩
end Go.Proofs.YtddiabaagpmkgaaDoor

/-! How the reference's reader of layer 17 lies in memory, and what becomes of it; what holds between two items. -/
namespace Go.Proofs.YtddiabaagpmkgaaDoor
open Go.RowKit Go.Px Go.Px.R7

structure RdRep (w : World) (b : Nat) (s : Bytes) (lim : Lim) (x : St) (vo : Value) : Prop where
 rd : Rd w b 123 s lim x (.slice none 0 0) [vo]
 out : Owns w 62 3 cAtom vo x.out
 ob : Apart vo.ownBlock (some b)
def rfoot (b : Nat) (vo : Value) (k : Nat) : Prop := k = b ∨ vo.ownBlock = some k
def RdAt (w : World) (b : Nat) (s : Bytes) (lim : Lim) (x : St) (F : Nat → Prop) : Prop := ∃ vo, RdRep w b s lim x vo ∧ F = rfoot b vo
section
variable {w w' : World} {b : Nat} {s : Bytes} {lim : Lim} {x y : St} {vo : Value}
theorem RdRep.keep (h : RdRep w b s lim x vo) (hk : ∀ k, rfoot b vo k → w'.heap[k]? = w.heap[k]?) : RdRep w' b s lim x vo :=
 ⟨h.rd.keep (hk b (.inl rfl)), h.out.keep (fun k e => hk k (.inr e)), h.ob⟩
theorem RdRep.footLt (h : RdRep w b s lim x vo) : ∀ k, rfoot b vo k → k < w.heap.size := by
 rintro k (rfl | hk)
 ·exact h.rd.lt
 ·exact h.out.lt hk
theorem RdRep.same (h : RdRep w b s lim x vo) (hs : Same w w') : RdRep w' b s lim x vo := h.keep fun k hk => hs.block k (h.footLt k hk) (fun x => x)
theorem RdRep.alloc (h : RdRep w b s lim x vo) (o : Obj) : RdRep (w.alloc o) b s lim x vo := h.keep fun k hk => Below.heap_alloc w o k (h.footLt k hk)
theorem RdRep.drewN (h : RdRep w b s lim x vo) (n : Nat) : RdRep (w.drewN n) b s lim x vo := h.keep fun _ _ => rfl
theorem RdRep.step (h : RdRep w b s lim x vo) (hr : Rd w' b 123 s lim y (.slice none 0 0) [vo]) (hf : Fr (It b) w w') (ho : y.out = x.out) : RdRep w' b s lim y vo :=
 ⟨hr, by rw [ho]; exact h.out.fr hf (fun k hk e => h.ob k hk (by rw [show k = b from e])), h.ob⟩
theorem It.foot (hf : Fr (It b) w w') : Fr (rfoot b vo) w w' := hf.mono fun _ e => .inl e
theorem RdRep.cell11 (h : RdRep w b s lim x vo) : w.cell? ⟨b, 11, none⟩ = some vo := cellOf h.rd.blk 11 (by simp [rdCells])
def RAfter (w w' : World) (b : Nat) (s : Bytes) (lim : Lim) (x : St) (a : Atom) (vo : Value) : Prop :=
 ∃ vo', RdRep w' b s lim { x with out := x.out ++ [a] } vo' ∧ Fr (rfoot b vo) w w' ∧ Fresh w (rfoot b vo) (rfoot b vo')
theorem RdRep.afterOut (h : RdRep w b s lim x vo) {g cap : Nat} {a : Atom}
  (hown : w'.ownsRow 0 62 3 (.slice (some ⟨g, 0, none⟩) (x.out.length + 1) cap) (x.out.length + 1) (x.out.flatMap cAtom ++ cAtom a))
  (hg : w.grownBy w' vo.ownBlock) (hat : vo.ownBlock = some g ∨ w.heap.size ≤ g) :
  RAfter w (w'.setCell ⟨b, 11, none⟩ (.slice (some ⟨g, 0, none⟩) (x.out.length + 1) cap)) b s lim x a vo := by
 have hgb : g ≠ b := by rcases hat with e | e; exact fun x => h.ob g e (by rw [x]); have := h.rd.lt; omega
 have hb' : Rd w' b 123 s lim x (.slice none 0 0) [vo] := h.rd.keep (hg.block b h.rd.lt (fun e => h.ob b e.symm rfl))
 refine ⟨.slice (some ⟨g, 0, none⟩) (x.out.length + 1) cap, ⟨hb'.set 11 _ { x with out := x.out ++ [a] } _ _ (by simp [rdCells]), ?_, ?_⟩, ((Fr.refl _ w).grown hg (fun k e => .inl (.inr e))).setCell (.inl (.inl rfl)) _, ?_⟩
 ·exact (owns_append hown).setCell (p := ⟨b, 11, none⟩) (by simpa [Value.ownBlock] using hgb) _
 ·intro k hk; simp [Value.ownBlock] at hk; subst hk; simpa using Ne.symm hgb
 ·rintro k (rfl | hk)
  ·exact .inl (.inl rfl)
  ·simp only [Value.ownBlock, Option.some.injEq] at hk
   subst hk
   rcases hat with e | e
   ·exact .inl (.inr e)
   ·exact .inr e
end

theorem grown_cell1 {w w1 : World} {o : Obj} {row : Option Nat} (hg : (w.alloc o).grownBy w1 row) {a : Addr} {v : Value} (hc : w.cell? a = some v) (hne : row ≠ some a.block) : w1.cell? a = some v :=
 hg.cell (show (w.alloc o).cell? a = some v from cell_alloc hc) (Ne.symm hne)
theorem grown_free1 {w w1 : World} {o : Obj} {row : Option Nat} (hg : (w.alloc o).grownBy w1 row) {a : Addr} {v : Value} (hc : w.cell? a = some v) (hf : w.frozen? a = false) (hne : row ≠ some a.block) : w1.frozen? a = false :=
 (World.frozen?_of_block (hg.block a.block (by have := World.block_lt_of_cell? w a hc; simp; omega) (Ne.symm hne))).trans ((frozen_alloc_some (w := w) (o := o) (by simp [hc])).trans hf)
/-! Between two items -/
structure Good (s : Bytes) (lim : Lim) (x : St) (p k : Nat) : Prop where
 ps : p ≤ s.length
 pb : (p : Int) ≤ lim.b
 err : x.err = 0
 taken : x.taken = p
 ended : x.ended = false
 deep : ((x.frames + k : Nat) : Int) = lim.d
 out : (x.out.length : Int) ≤ lim.i
def dummy : Cf.Fm := ⟨0, 0, 0, 0, 0, 0, [], false⟩
theorem Good.sim {s : Bytes} {lim : Lim} {x : St} {p k : Nat} (h : Good s lim x p k) : Sim s lim x p { Cf.init lim with text := s.take p, out := x.out, stack := List.replicate x.frames dummy } k :=
 ⟨⟨rfl, rfl, h.ps, h.pb, rfl, h.err, h.taken, by simp, h.ended⟩, rfl, rfl, by simpa using h.deep⟩
theorem Good.item {s : Bytes} {lim : Lim} {x y : St} {p k q : Nat} (hm : lim.may = true) (h : Good s lim x p k) (e : item s lim k x p = (some q, y)) : Good s lim y q k := by
 have := item_sim (s := s) hm k x p _ h.sim h.out
 rw [e] at this
 obtain ⟨i1, i2, i3, i4, _⟩ := this
 exact ⟨i1.qs, i1.qb, i1.err, i1.taken, i1.ended, by rw [i1.frames]; exact h.deep, i3⟩
theorem Good.head {s : Bytes} {lim : Lim} {x y : St} {p k kk n q : Nat} (h : Good s lim x p k) (e : R7.head s lim x p = (some (kk, n, q), y)) :
  Moved s lim x p y q ∧ p < q ∧ y.out = x.out ∧ n < 18446744073709551616 ∧ kk < 8 ∧ (x.out.length : Int) < lim.i := by
 have := head_sim h.sim.toAt rfl rfl h.out
 rw [e] at this
 obtain ⟨a, b, c, d, e, f, _⟩ := this
 exact ⟨a, b, c, d, e, f⟩
theorem want_true {s : Bytes} {lim : Lim} {x y : St} {p : Nat} (h : want s lim x p = (true, y)) : p < s.length ∧ (p : Int) < lim.b ∧ y = take x (p + 1) := by
 unfold want at h
 by_cases h1 : p < s.length ∧ (p : Int) < lim.b
 ·rw [if_pos h1] at h
  simp only [Prod.mk.injEq, true_and] at h
  exact ⟨h1.1, h1.2, h.symm⟩
 ·rw [if_neg h1] at h
  split at h <;> simp at h
theorem want_out (s : Bytes) (lim : Lim) (x : St) (p : Nat) : (want s lim x p).2.out = x.out := by
 unfold want; repeat' split
 all_goals rfl
/-! What the reader's functions hand back -/
def itemV : Option Nat → Value
 | none => .tuple #[.int .i64 0, .bool false]
 | some q => .tuple #[.int .i64 (q : Nat), .bool true]
def headV : Option (Nat × Nat × Nat) → Value
 | none => .tuple #[.int .i64 0, .int .u64 0, .int .i64 0, .bool false]
 | some (k, n, q) => .tuple #[.int .i64 (k : Nat), .int .u64 (n : Nat), .int .i64 (q : Nat), .bool true]
def Did (w : World) (b : Nat) (s : Bytes) (lim : Lim) (F : Nat → Prop) (y : St) (w' : World) : Prop := ∃ F', RdAt w' b s lim y F' ∧ Fr F w w' ∧ Fresh w F F'
theorem Did.trans {w w1 w2 : World} {b : Nat} {s : Bytes} {lim : Lim} {F F1 : Nat → Prop} {z : St} (h : Fr F w w1) (hn : Fresh w F F1) (k : Did w1 b s lim F1 z w2) : Did w b s lim F z w2 := by
 obtain ⟨F2, k1, k2, k3⟩ := k
 exact ⟨F2, k1, h.step hn k2, Fresh.trans hn h.size k3⟩
/-- What item does, at so many levels. -/
def ItemC (s : Bytes) (lim : Lim) (k : Nat) : Prop := ∀ (b p dp : Nat) (x : St) (F : Nat → Prop) (w : World), RdAt w b s lim x F → Good s lim x p k → ((dp + k : Nat) : Int) = lim.d →
 Calls Tryd.prog 60 #[.pointer (some ⟨b, 0, none⟩), .int .i64 (p : Nat), .int .i64 (dp : Nat)] w fun r w' => r = .returned (itemV (item s lim k x p).1) ∧ Did w b s lim F (item s lim k x p).2 w'

set_option maxRecDepth 100000 in
set_option maxHeartbeats 2000000 in
theorem items_any (s : Bytes) (lim : Lim) (k : Nat) (hm : lim.may = true) (hI : ItemC s lim k) (b p n dp : Nat) (x : St) (F : Nat → Prop) (w : World) (h : RdAt w b s lim x F) (hg : Good s lim x p k) (hd : ((dp + k : Nat) : Int) = lim.d) (hn : n < 18446744073709551616) :
  Calls Tryd.prog 79 #[.pointer (some ⟨b, 0, none⟩), .int .i64 (p : Nat), .int .u64 (n : Nat), .int .i64 (dp : Nat)] w fun r w' => r = .returned (itemV (itemsN (item s lim k) n x p).1) ∧ Did w b s lim F (itemsN (item s lim k) n x p).2 w' := by
 have H := Px.hid (And.intro h (And.intro hg hd))
 have HNB := Px.hid hn
 clear hn
 clear h hg hd
 go_enter Tryd.func79, Tryd.ntmps79
 go_wp2
 go_loopw [1, 10] (fun a i wr => ∃ j q y F1, j ≤ n ∧ i = .int .u64 (j : Nat) ∧ a = .int .i64 (q : Nat) ∧ Hid (RdAt wr b s lim y F1 ∧ Good s lim y q k ∧ Fr F w wr ∧ Fresh w F F1 ∧ itemsN (item s lim k) n x p = itemsN (item s lim k) (n - j) y q)) (fun _ i _ => n - (intOf i).toNat)
 case atStart => exact ⟨0, p, x, F, Nat.zero_le _, rfl, rfl, Px.hid ⟨H.out.1, H.out.2.1, Fr.refl _ _, Fresh.refl _ _, rfl⟩⟩
 case round =>
  obtain ⟨j, q, y, F1, hj, rfl, rfl, HR⟩ := hrel
  have HD := Px.hid H.out.2.2
  clear H
  by_cases hlt : j < n
  ·have hltz : (j : Int) < (n : Int) := by omega
   have hwj : IntKind.u64.wrap ((j : Int) + 1) = (j : Int) + 1 := IntWalk.u64_in _ ⟨by omega, by have := HNB.out; omega⟩
   have e1 : n - j = (n - (j + 1)) + 1 := by omega
   have HE := Px.hid HR.out.2.2.2.2
   rw [e1] at HE
   clear e1
   go_wp2_with fail
   refine (hI b q dp y F1 _ HR.out.1 HR.out.2.1 HD.out).mono ?_
   rintro e w1 ⟨rfl, hd⟩
   cases hr : item s lim k y q with
   | mk o z =>
    rw [hr] at hd
    cases o with
    | none =>
     have HN := Px.hid (show itemsN (item s lim k) n x p = (none, z) by rw [HE.out]; unfold itemsN; rw [hr])
     have HDD := Px.hid (Did.trans HR.out.2.2.1 HR.out.2.2.2.1 hd)
     clear hr hd
     unfold itemV
     go_wp2
     go_ret2
     rw [HN.out]
     exact ⟨rfl, HDD.out⟩
    | some r =>
     have HN := Px.hid (show itemsN (item s lim k) n x p = itemsN (item s lim k) (n - (j + 1)) z r by rw [HE.out]; conv => lhs; unfold itemsN; rw [hr])
     have HG := Px.hid (HR.out.2.1.item hm hr)
     have HDD := Px.hid hd
     clear hr hd
     unfold itemV
     go_wp2
     go_roundw
     case rel =>
      obtain ⟨F2, k1, k2, k3⟩ := HDD.out
      exact ⟨j + 1, r, z, F2, by omega, by go_num, rfl, Px.hid ⟨k1, HG.out, HR.out.2.2.1.step HR.out.2.2.2.1 k2, Fresh.trans HR.out.2.2.2.1 HR.out.2.2.1.size k3, HN.out⟩⟩
     case measure => simp [intOf]; omega
  ·have hltz : ¬ (j : Int) < (n : Int) := by omega
   have HE := Px.hid (show itemsN (item s lim k) n x p = (some q, y) by rw [HR.out.2.2.2.2, show n - j = 0 by omega]; rfl)
   go_wp2
   go_ret2
   rw [HE.out]
   exact ⟨rfl, F1, HR.out.1, HR.out.2.2.1, HR.out.2.2.2.1⟩
set_option maxRecDepth 100000 in
set_option maxHeartbeats 4000000 in
theorem pairs_any (s : Bytes) (lim : Lim) (k : Nat) (hm : lim.may = true) (hs : s.length ≤ maxLen) (hI : ItemC s lim k) (b p n dp : Nat) (x : St) (F : Nat → Prop) (w : World) (h : RdAt w b s lim x F) (hg : Good s lim x p k) (hd : ((dp + k : Nat) : Int) = lim.d) (hn : n < 18446744073709551616) :
  Calls Tryd.prog 80 #[.pointer (some ⟨b, 0, none⟩), .int .i64 (p : Nat), .int .u64 (n : Nat), .int .i64 (dp : Nat)] w fun r w' => r = .returned (itemV (pairsN s (item s lim k) n none x p).1) ∧ Did w b s lim F (pairsN s (item s lim k) n none x p).2 w' := by
 have H := Px.hid (And.intro h (And.intro hg hd))
 have HNB := Px.hid hn
 clear hn
 have hsz : (ByteArray.mk s.toArray).size = s.length := size_S s
 have HLEN := Px.hid hs
 clear h hg hd hs
 go_enter Tryd.func80, Tryd.ntmps80
 go_wp2
 go_loopw [1, 10, 11] (fun a la i wr => ∃ j q y F1 l, j ≤ n ∧ i = .int .u64 (j : Nat) ∧ a = .int .i64 (q : Nat) ∧ la = S l ∧ Hid (RdAt wr b s lim y F1 ∧ Good s lim y q k ∧ Fr F w wr ∧ Fresh w F F1 ∧ pairsN s (item s lim k) n none x p = pairsN s (item s lim k) (n - j) (if j = 0 then none else some l) y q)) (fun _ _ i _ => n - (intOf i).toNat)
 case atStart => exact ⟨0, p, x, F, [], Nat.zero_le _, rfl, rfl, rfl, Px.hid ⟨H.out.1, H.out.2.1, Fr.refl _ _, Fresh.refl _ _, rfl⟩⟩
 case round =>
  obtain ⟨j, q, y, F1, l, hj, rfl, rfl, rfl, HR⟩ := hrel
  have HD := Px.hid H.out.2.2
  clear H
  by_cases hlt : j < n
  ·have hltz : (j : Int) < (n : Int) := by omega
   have hwj : IntKind.u64.wrap ((j : Int) + 1) = (j : Int) + 1 := IntWalk.u64_in _ ⟨by omega, by have := HNB.out; omega⟩
   have e1 : n - j = (n - (j + 1)) + 1 := by omega
   have HE := Px.hid HR.out.2.2.2.2
   rw [e1] at HE
   clear e1
   go_wp2_with fail
   refine (hI b q dp y F1 _ HR.out.1 HR.out.2.1 HD.out).mono ?_
   rintro e w1 ⟨rfl, hd⟩
   cases hr : item s lim k y q with
   | mk o z =>
    rw [hr] at hd
    cases o with
    | none =>
     have HN := Px.hid (show pairsN s (item s lim k) n none x p = (none, z) by rw [HE.out]; unfold pairsN; rw [hr])
     have HDD := Px.hid (Did.trans HR.out.2.2.1 HR.out.2.2.2.1 hd)
     clear hr hd
     unfold itemV
     go_wp2
     go_ret2
     rw [HN.out]
     exact ⟨rfl, HDD.out⟩
    | some r =>
     have hgood := HR.out.2.1.item hm hr
     have hqr : q ≤ r := by
      have := item_sim (s := s) hm k y q _ HR.out.2.1.sim HR.out.2.1.out
      rw [hr] at this
      exact this.1.le
     have hrs := hgood.ps
     have hsl : ∀ w, (Instr.slice 9 (S s) (some (.int .i64 (q : Int))) (some (.int .i64 (r : Int))) none).run Tryd.prog w = .ok (S ((s.take r).drop q)) w := fun w => slice_S s q r hqr hrs w
     have HE := Px.hid (show pairsN s (item s lim k) n none x p = (if (if j = 0 then none else some l).any (fun l => leB ((s.take r).drop q) l) then (none, fault z q 9) else match item s lim k z r with
      | (none, z) => (none, z)
      | (some t, z) => pairsN s (item s lim k) (n - (j + 1)) (some ((s.take r).drop q)) z t) by
       rw [HE.out]; conv => lhs; unfold pairsN; rw [hr]
       rfl)
     obtain ⟨F2, d1, d2, d3⟩ := hd
     obtain ⟨vo, rep, rfl⟩ := d1
     have HG := Px.hid hgood
     have HRP := Px.hid (And.intro rep (And.intro (HR.out.2.2.1.step HR.out.2.2.2.1 d2) (Fresh.trans HR.out.2.2.2.1 HR.out.2.2.1.size d3)))
     have c0 := rep.rd.cells.1
     clear hr rep d2 d3 hgood HR
     unfold itemV
     obtain ⟨key, hkey⟩ : ∃ key, key = (s.take r).drop q := ⟨_, rfl⟩
     rw [← hkey] at HE hsl
     clear hkey
     by_cases hj0 : j = 0
     ·have hz : ¬ (0 : Int) < (j : Int) := by omega
      have HE := Px.hid (HE.out.trans (by rw [if_pos hj0]; rfl) : _ = (match item s lim k z r with
      | (none, z) => (none, z)
      | (some t, z) => pairsN s (item s lim k) (n - (j + 1)) (some key) z t))
      clear hj0
      go_wp2_with fail
      refine (hI b r dp z _ _ ⟨_, HRP.out.1, rfl⟩ HG.out HD.out).mono ?_
      rintro e w2 ⟨rfl, hd⟩
      cases hr2 : item s lim k z r with
      | mk o2 z2 =>
       rw [hr2] at hd
       rw [hr2] at HE
       cases o2 with
       | none =>
        have HN := Px.hid (HE.out)
        have HDD := Px.hid (Did.trans HRP.out.2.1 HRP.out.2.2 hd)
        clear hr2 hd
        unfold itemV
        go_wp2
        go_ret2
        rw [HN.out]
        exact ⟨rfl, HDD.out⟩
       | some t =>
        have HG2 := Px.hid (HG.out.item hm hr2)
        have HDD := Px.hid hd
        clear hr2 hd
        unfold itemV
        go_wp2
        go_roundw
        case rel =>
         obtain ⟨F2, k1, k2, k3⟩ := HDD.out
         exact ⟨j + 1, t, z2, F2, key, by omega, by go_num, rfl, rfl, Px.hid ⟨k1, HG2.out, HRP.out.2.1.step HRP.out.2.2 k2, Fresh.trans HRP.out.2.2 HRP.out.2.1.size k3, HE.out.trans (by rw [if_neg (Nat.succ_ne_zero j)])⟩⟩
        case measure => simp [intOf]; omega
     ·have hz : (0 : Int) < (j : Int) := by omega
      have HE := Px.hid (HE.out.trans (by rw [if_neg hj0]; rfl) : _ = (if leB key l = true then (none, fault z q 9) else match item s lim k z r with
      | (none, z) => (none, z)
      | (some t, z) => pairsN s (item s lim k) (n - (j + 1)) (some key) z t))
      clear hj0
      by_cases hle : leB key l = true
      ·have HN := Px.hid (HE.out.trans (if_pos hle))
       simp only [leB] at hle
       clear HE
       go_wp2_with fail
       refine (xfault_any b _ q 9 s lim z _ _ _ HRP.out.1.rd).mono ?_
       rintro e w2 ⟨rfl, hr, hf⟩
       have HX := Px.hid (And.intro (HRP.out.1.step hr hf rfl) (It.foot (vo := vo) hf))
       clear hr hf
       go_wp2
       go_ret2
       rw [HN.out]
       exact ⟨rfl, _, ⟨_, HX.out.1, rfl⟩, HRP.out.2.1.step HRP.out.2.2 HX.out.2, HRP.out.2.2⟩
      ·have HE := Px.hid (HE.out.trans (if_neg hle))
       have hle' : (Op.bytesLess key l || key == l) = false := by
        simp only [leB] at hle
        exact Bool.eq_false_iff.2 hle
       clear hle
       go_wp2_with fail
       refine (hI b r dp z _ _ ⟨_, HRP.out.1, rfl⟩ HG.out HD.out).mono ?_
       rintro e w2 ⟨rfl, hd⟩
       cases hr2 : item s lim k z r with
       | mk o2 z2 =>
        rw [hr2] at hd
        rw [hr2] at HE
        cases o2 with
        | none =>
         have HN := Px.hid (HE.out)
         have HDD := Px.hid (Did.trans HRP.out.2.1 HRP.out.2.2 hd)
         clear hr2 hd
         unfold itemV
         go_wp2
         go_ret2
         rw [HN.out]
         exact ⟨rfl, HDD.out⟩
        | some t =>
         have HG2 := Px.hid (HG.out.item hm hr2)
         have HDD := Px.hid hd
         clear hr2 hd
         unfold itemV
         go_wp2
         go_roundw
         case rel =>
          obtain ⟨F2, k1, k2, k3⟩ := HDD.out
          exact ⟨j + 1, t, z2, F2, key, by omega, by go_num, rfl, rfl, Px.hid ⟨k1, HG2.out, HRP.out.2.1.step HRP.out.2.2 k2, Fresh.trans HRP.out.2.2 HRP.out.2.1.size k3, HE.out.trans (by rw [if_neg (Nat.succ_ne_zero j)])⟩⟩
         case measure => simp [intOf]; omega
  ·have hltz : ¬ (j : Int) < (n : Int) := by omega
   have HE := Px.hid (show pairsN s (item s lim k) n none x p = (some q, y) by rw [HR.out.2.2.2.2, show n - j = 0 by omega]; rfl)
   go_wp2
   go_ret2
   rw [HE.out]
   exact ⟨rfl, F1, HR.out.1, HR.out.2.2.1, HR.out.2.2.2.1⟩
end Go.Proofs.YtddiabaagpmkgaaDoor
