/-
  Several texts in one: A string's bytes, as this program's operations read them. The walks over the references' reader (layers 15 and 17): Take, fault, Want. How such a reader lies in memory. The walks over the reference's Utf and Text: a text is UTF-8 as the library says. The walk over the reference's Head (layer 17). How the reference's reader of layer 17 lies in memory, and what becomes of it; what holds between two items. The walk over the reference's head (layer 17). The walk over the reference's item (layer 17), kind by kind. The walks over the reference's Read and Same (layer 17) and the statements' read (layer 20). The walks over the reference's Same (layer 17) and the statements' read (layer 20). The walks over the statements CborfeedPieces and CborfeedStates.
-/
import Derived.Test.YtclbbfmpkhfigaaDoorMC
import Derived.Test.YtclbbfmpkhfigaaDoorMA
import Derived.Test.YtclbbfmpkhfigaaDoorMU
import Derived.RegionTactic
import Derived.ChangeAlike
import Derived.BigRegion
/-! A string's bytes, as this program's operations read them. -/
namespace Go.Proofs.YtclbbfmpkhfigaaDoor
open Go.RowKit Go.Px

theorem idx_S (l : List UInt8) (k : Nat) (hk : k < l.length) (w : World) : (Instr.index 9 (S l) (.int .i64 (k : Int))).run Tryd.prog w = .ok (.int .u8 (l.getD k 0).toNat) w := by
  rw [run_index_string w 9 _ .i64 _ Tryd.underlying9, dif_pos ⟨by omega, by rw [size_S]; omega⟩]
  congr 3
  simp [List.getD, hk]
  rfl
theorem slice_S (l : List UInt8) (a b : Nat) (hab : a ≤ b) (hb : b ≤ l.length) (w : World) :
    (Instr.slice 9 (S l) (some (.int .i64 (a : Int))) (some (.int .i64 (b : Int))) none).run Tryd.prog w = .ok (S ((l.take b).drop a)) w := by
  rw [run_slice_string w _ _ _ _ _ _ Tryd.underlying9 (by omega) (by omega) (by rw [size_S]; omega), ByteArray.extract_mk]
  have e1 : ((a : Int)).toNat = a := by omega
  have e2 : ((b : Int)).toNat = b := by omega
  rw [e1, e2]
  simp [List.drop_take]
theorem from_S (l : List UInt8) (a : Nat) (ha : a ≤ l.length) (w : World) :
    (Instr.slice 9 (S l) (some (.int .i64 (a : Int))) none none).run Tryd.prog w = .ok (S (l.drop a)) w := by
  rw [run_slice_string_l w _ _ Tryd.underlying9 _ _ (by omega) (by rw [size_S]; omega), ByteArray.extract_mk]
  have e1 : ((a : Int)).toNat = a := by omega
  rw [e1, size_S]
  simp
  exact List.take_of_length_le (by simp)
theorem to_S (l : List UInt8) (b : Nat) (hb : b ≤ l.length) (w : World) :
    (Instr.slice 9 (S l) none (some (.int .i64 (b : Int))) none).run Tryd.prog w = .ok (S (l.take b)) w := by
  rw [run_slice_string_h w _ _ Tryd.underlying9 _ _ (by omega) (by rw [size_S]; omega), ByteArray.extract_mk]
  have e1 : ((b : Int)).toNat = b := by omega
  rw [e1]
  simp
end Go.Proofs.YtclbbfmpkhfigaaDoor

/-! The walks over the references' reader (layers 15 and 17): Take, fault, Want. How such a reader lies in memory. -/
namespace Go.Proofs.YtclbbfmpkhfigaaDoor
open Go.RowKit Go.Px Go.Px.R7

/-- The first eleven cells of a reader. -/
def rdCells (s : Bytes) (lim : Lim) (x : St) (vn : Value) (tl : List Value) : Array Value :=
  (S s :: .int .i64 lim.d :: .int .i64 lim.i :: .int .i64 lim.b :: .int .i64 lim.r :: vn :: .int .i64 x.err :: .int .i64 x.place :: .int .i64 (x.taken : Nat) :: .int .i64 (x.frames : Nat) :: .bool x.ended :: tl).toArray
structure Rd (w : World) (b T : Nat) (s : Bytes) (lim : Lim) (x : St) (vn : Value) (tl : List Value) : Prop where
  blk : w.heap[b]? = some (.cells (rdCells s lim x vn tl) T (0, 0))
section
variable {w w' : World} {b T : Nat} {s : Bytes} {lim : Lim} {x : St} {vn : Value} {tl : List Value}
theorem Rd.cells (h : Rd w b T s lim x vn tl) :
    w.cell? ⟨b, 0, none⟩ = some (S s) ∧ w.cell? ⟨b, 1, none⟩ = some (.int .i64 lim.d) ∧ w.cell? ⟨b, 2, none⟩ = some (.int .i64 lim.i) ∧ w.cell? ⟨b, 3, none⟩ = some (.int .i64 lim.b) ∧
    w.cell? ⟨b, 6, none⟩ = some (.int .i64 x.err) ∧ w.cell? ⟨b, 7, none⟩ = some (.int .i64 x.place) ∧ w.cell? ⟨b, 8, none⟩ = some (.int .i64 (x.taken : Nat)) ∧ w.cell? ⟨b, 9, none⟩ = some (.int .i64 (x.frames : Nat)) ∧ w.cell? ⟨b, 10, none⟩ = some (.bool x.ended) :=
  ⟨cellOf h.blk 0 (by simp [rdCells]), cellOf h.blk 1 (by simp [rdCells]), cellOf h.blk 2 (by simp [rdCells]), cellOf h.blk 3 (by simp [rdCells]), cellOf h.blk 6 (by simp [rdCells]), cellOf h.blk 7 (by simp [rdCells]),
   cellOf h.blk 8 (by simp [rdCells]), cellOf h.blk 9 (by simp [rdCells]), cellOf h.blk 10 (by simp [rdCells])⟩
theorem Rd.free (h : Rd w b T s lim x vn tl) (i : Nat) : w.frozen? ⟨b, i, none⟩ = false := freeOf h.blk i
theorem Rd.lt (h : Rd w b T s lim x vn tl) : b < w.heap.size := ltOf h.blk
theorem Rd.keep (h : Rd w b T s lim x vn tl) (hk : w'.heap[b]? = w.heap[b]?) : Rd w' b T s lim x vn tl := ⟨hk.trans h.blk⟩
theorem Rd.fr {F : Nat → Prop} (h : Rd w b T s lim x vn tl) (hf : Fr F w w') (hb : ¬ F b) : Rd w' b T s lim x vn tl := h.keep (hf.block b h.lt hb)
theorem Rd.same (h : Rd w b T s lim x vn tl) (hs : Same w w') : Rd w' b T s lim x vn tl := h.fr hs (fun x => x)
theorem Rd.alloc (h : Rd w b T s lim x vn tl) (o : Obj) : Rd (w.alloc o) b T s lim x vn tl := h.keep (Below.heap_alloc w o b h.lt)
theorem Rd.drew (h : Rd w b T s lim x vn tl) : Rd w.drew b T s lim x vn tl := ⟨h.blk⟩
theorem Rd.drewN (h : Rd w b T s lim x vn tl) (n : Nat) : Rd (w.drewN n) b T s lim x vn tl := ⟨h.blk⟩
theorem Rd.set (h : Rd w b T s lim x vn tl) (i : Nat) (v : Value) (y : St) (vn' : Value) (tl' : List Value) (hc : (rdCells s lim x vn tl).setIfInBounds i v = rdCells s lim y vn' tl') : Rd (w.setCell ⟨b, i, none⟩ v) b T s lim y vn' tl' :=
  ⟨by rw [heap_setCell_same w b i _ _ v h.blk, hc]⟩
theorem Rd.setErr (h : Rd w b T s lim x vn tl) (e : Int) : Rd (w.setCell ⟨b, 6, none⟩ (.int .i64 e)) b T s lim { x with err := e } vn tl := h.set 6 _ _ _ _ (by simp [rdCells])
theorem Rd.setPlace (h : Rd w b T s lim x vn tl) (e : Int) : Rd (w.setCell ⟨b, 7, none⟩ (.int .i64 e)) b T s lim { x with place := e } vn tl := h.set 7 _ _ _ _ (by simp [rdCells])
theorem Rd.setTaken (h : Rd w b T s lim x vn tl) (e : Nat) : Rd (w.setCell ⟨b, 8, none⟩ (.int .i64 (e : Nat))) b T s lim { x with taken := e } vn tl := h.set 8 _ _ _ _ (by simp [rdCells])
theorem Rd.setFrames (h : Rd w b T s lim x vn tl) (e : Nat) : Rd (w.setCell ⟨b, 9, none⟩ (.int .i64 (e : Nat))) b T s lim { x with frames := e } vn tl := h.set 9 _ _ _ _ (by simp [rdCells])
theorem Rd.setEnded (h : Rd w b T s lim x vn tl) (e : Bool) : Rd (w.setCell ⟨b, 10, none⟩ (.bool e)) b T s lim { x with ended := e } vn tl := h.set 10 _ _ _ _ (by simp [rdCells])
end

/-- Only this block changes. -/
def It (b : Nat) (k : Nat) : Prop := k = b
theorem It.set {b i : Nat} {w : World} (v : Value) : Fr (It b) w (w.setCell ⟨b, i, none⟩ v) := (Fr.refl (It b) w).setCell (p := ⟨b, i, none⟩) (.inl rfl) v

theorem take_any (b T : Nat) (a : Nat) (s : Bytes) (lim : Lim) (x : St) (vn : Value) (tl : List Value) (w : World) (h : Rd w b T s lim x vn tl) :
    Calls Tryd.prog 61 #[.pointer (some ⟨b, 0, none⟩), .int .i64 (a : Nat)] w fun r w' => r = .returned (.tuple #[]) ∧ Rd w' b T s lim (take x a) vn tl ∧ Fr (It b) w w' := by
  obtain ⟨_, _, _, _, _, _, c8, _, _⟩ := h.cells
  have f8 := h.free 8
  by_cases hlt : x.taken < a
  · have H := Px.hid (And.intro (h.setTaken a) (show take x a = { x with taken := a } by unfold take; rw [Nat.max_eq_right (Nat.le_of_lt hlt)]))
    have hz : (x.taken : Int) < (a : Int) := by omega
    clear h
    go_enter Tryd.func61, Tryd.ntmps61
    go_wp2
    go_end0
    rw [H.out.2]
    exact ⟨rfl, H.out.1, It.set _⟩
  · have H := Px.hid (And.intro h (show take x a = x by unfold take; rw [Nat.max_eq_left (Nat.le_of_not_lt hlt)]))
    have hz : ¬ (x.taken : Int) < (a : Int) := by omega
    clear h
    go_enter Tryd.func61, Tryd.ntmps61
    go_wp2
    go_end0
    rw [H.out.2]
    exact ⟨rfl, H.out.1, Fr.refl _ _⟩
theorem rfault_any (b T : Nat) (p e : Int) (s : Bytes) (lim : Lim) (x : St) (vn : Value) (tl : List Value) (w : World) (h : Rd w b T s lim x vn tl) :
    Calls Tryd.prog 62 #[.pointer (some ⟨b, 0, none⟩), .int .i64 p, .int .i64 e] w fun r w' => r = .returned (.bool false) ∧ Rd w' b T s lim (fault x p e) vn tl ∧ Fr (It b) w w' := by
  obtain ⟨_, _, _, _, c6, c7, _, _, _⟩ := h.cells
  have f6 := h.free 6
  have f7 := h.free 7
  have H := Px.hid ((h.setErr e).setPlace p)
  clear h
  go_enter Tryd.func62, Tryd.ntmps62
  go_wp2
  go_ret
  exact ⟨rfl, H.out, (It.set _).trans (It.set _) (fun _ _ h => h)⟩
theorem xfault_any (b T : Nat) (p e : Int) (s : Bytes) (lim : Lim) (x : St) (vn : Value) (tl : List Value) (w : World) (h : Rd w b T s lim x vn tl) :
    Calls Tryd.prog 48 #[.pointer (some ⟨b, 0, none⟩), .int .i64 p, .int .i64 e] w fun r w' => r = .returned (.bool false) ∧ Rd w' b T s lim (fault x p e) vn tl ∧ Fr (It b) w w' := by
  obtain ⟨_, _, _, _, c6, c7, _, _, _⟩ := h.cells
  have f6 := h.free 6
  have f7 := h.free 7
  have H := Px.hid ((h.setErr e).setPlace p)
  clear h
  go_enter Tryd.func48, Tryd.ntmps48
  go_wp2
  go_ret
  exact ⟨rfl, H.out, (It.set _).trans (It.set _) (fun _ _ h => h)⟩

set_option maxHeartbeats 1000000 in
theorem want_any (b T : Nat) (p : Nat) (s : Bytes) (lim : Lim) (x : St) (vn : Value) (tl : List Value) (w : World) (h : Rd w b T s lim x vn tl) (hs : s.length ≤ maxLen) (hb : 1 ≤ lim.b) (hb2 : lim.b ≤ 262144) (hp : p ≤ maxLen) :
    Calls Tryd.prog 47 #[.pointer (some ⟨b, 0, none⟩), .int .i64 (p : Nat)] w fun r w' => r = .returned (.bool (want s lim x p).1) ∧ Rd w' b T s lim (want s lim x p).2 vn tl ∧ Fr (It b) w w' := by
  unfold maxLen at hs hp
  have hsz : (ByteArray.mk s.toArray).size = s.length := size_S s
  obtain ⟨c0, _, _, c3, _, _, _, _, c10⟩ := h.cells
  by_cases h1 : p < s.length ∧ (p : Int) < lim.b
  · obtain ⟨h1a, h1b⟩ := h1
    have hz : (p : Int) < (s.length : Int) := by omega
    have H := Px.hid (And.intro h (show want s lim x p = (true, take x (p + 1)) by unfold want; rw [if_pos ⟨h1a, h1b⟩]))
    clear h h1a
    go_enter Tryd.func47, Tryd.ntmps47
    go_wp2_with fail
    refine (take_any b T (p + 1) s lim x vn tl _ H.out.1).mono ?_
    rintro e w1 ⟨rfl, hr, hf⟩
    have H2 := Px.hid (And.intro hr hf)
    clear hr hf
    go_wp2
    go_ret
    rw [H.out.2]
    exact ⟨rfl, H2.out.1, H2.out.2⟩
  · have hcase : (¬ (p : Int) < (s.length : Int)) ∨ ((p : Int) < (s.length : Int) ∧ ¬ (p : Int) < lim.b) := by omega
    by_cases h2 : lim.b < s.length
    · have H := Px.hid (And.intro h (show want s lim x p = (false, fault (take x lim.b.toNat) lim.b 10) by unfold want; rw [if_neg h1, if_pos h2]))
      have HB := Px.hid (show ((lim.b.toNat : Nat) : Int) = lim.b by omega)
      have hd : decide (lim.b < (s.length : Int)) = true := decide_eq_true h2
      clear h h1
      rcases hcase with hg | ⟨hg, hg2⟩
      all_goals
        go_enter Tryd.func47, Tryd.ntmps47
        go_wp2_with fail
        go_quiet (fail)
        go_wp2_with fail
        have ht := take_any b T lim.b.toNat s lim x vn tl (w.drewN nq) (H.out.1.drewN nq)
        rw [HB.out] at ht
        refine ht.mono ?_
        clear ht c0 c3 c10
        rintro e w1 ⟨rfl, hr, hf⟩
        obtain ⟨c0, _, _, c3, _, _, _, _, c10⟩ := hr.cells
        have H2 := Px.hid (And.intro hr ((Fr.drewN (Fr.refl (It b) w) nq).trans hf (fun _ _ h => h)))
        clear hr hf
        go_wp2_with fail
        refine (rfault_any b T lim.b 10 s lim _ vn tl _ H2.out.1).mono ?_
        rintro e w2 ⟨rfl, hr, hf⟩
        have H3 := Px.hid (And.intro hr (H2.out.2.trans hf (fun _ _ h => h)))
        clear hr hf
        go_wp2
        go_ret
        rw [H.out.2]
        exact ⟨rfl, H3.out.1, H3.out.2⟩
    · have H := Px.hid (And.intro h (show want s lim x p = (false, { fault (take x s.length) s.length 9 with ended := true }) by unfold want; rw [if_neg h1, if_neg h2]))
      have hd : decide (lim.b < (s.length : Int)) = false := decide_eq_false h2
      have hg : ¬ (p : Int) < (s.length : Int) := by omega
      clear h h1 hcase
      focus
        go_enter Tryd.func47, Tryd.ntmps47
        go_wp2_with fail
        go_quiet (fail)
        go_wp2_with fail
        refine (take_any b T s.length s lim x vn tl (w.drewN nq) (H.out.1.drewN nq)).mono ?_
        clear c0 c3 c10
        rintro e w1 ⟨rfl, hr, hf⟩
        obtain ⟨c0, _, _, c3, _, _, _, _, c10⟩ := hr.cells
        have f10 := hr.free 10
        have H2 := Px.hid (And.intro (hr.setEnded true) (((Fr.drewN (Fr.refl (It b) w) nq).trans hf (fun _ _ h => h)).trans (It.set (i := 10) (.bool true)) (fun _ _ h => h)))
        clear hr hf
        go_wp2_with fail
        refine (rfault_any b T s.length 9 s lim _ vn tl _ H2.out.1).mono ?_
        rintro e w2 ⟨rfl, hr, hf⟩
        have H3 := Px.hid (And.intro hr (H2.out.2.trans hf (fun _ _ h => h)))
        clear hr hf
        go_wp2
        go_ret
        rw [H.out.2]
        exact ⟨rfl, H3.out.1, H3.out.2⟩
end Go.Proofs.YtclbbfmpkhfigaaDoor

/-! The walks over the reference's Utf and Text: a text is UTF-8 as the library says. -/
namespace Go.Proofs.YtclbbfmpkhfigaaDoor
open Go.RowKit Go.Px Go.Px.Utf

theorem utf_nil (w : World) : Calls Tryd.prog 66 #[S []] w fun e w' => e = .returned (.int .i64 0) ∧ Same w w' := by
  go_enter Tryd.func66, Tryd.ntmps66
  go_wp2
  go_ret
  exact ⟨rfl, Same.refl w⟩

set_option maxRecDepth 100000 in
set_option maxHeartbeats 2000000 in
theorem utf_one (l : Bytes) (w : World) (hlen : l.length ≤ maxLen) (hne : l ≠ []) (h : (l.getD 0 0).toNat < 128) :
    Calls Tryd.prog 66 #[S l] w fun e w' => e = .returned (.int .i64 (utfW l : Nat)) ∧ Same w w' := by
  unfold maxLen at hlen
  have _ := hlen
  have hsz : (ByteArray.mk l.toArray).size = l.length := size_S l
  have hpos : 0 < l.length := List.length_pos_iff.2 hne
  have hposz : ((l.length : Int) == 0) = false := by simp; omega
  have i0 : ∀ w, (Instr.index 9 (S l) (.int .i64 0)).run Tryd.prog w = .ok (.int .u8 (l.getD 0 0).toNat) w := fun w => idx_S l 0 hpos w
  have hb := (l.getD 0 0).toNat_lt
  have hu := utf_ascii l hne h
  have H := Px.hid hu
  obtain ⟨b, hbb⟩ : ∃ b, b = (l.getD 0 0).toNat := ⟨_, rfl⟩
  rw [← hbb] at i0 hb h
  have hz : (b : Int) < 128 := by omega
  clear hu hbb hne h
  go_enter Tryd.func66, Tryd.ntmps66
  go_wp2
  go_ret
  rw [H.out]
  exact ⟨rfl, Same.refl w⟩

set_option maxRecDepth 100000 in
set_option maxHeartbeats 2000000 in
theorem utf_odd (l : Bytes) (w : World) (hlen : l.length ≤ maxLen) (hne : l ≠ []) (h : 128 ≤ (l.getD 0 0).toNat) (h2 : (l.getD 0 0).toNat < 192 ∨ 248 ≤ (l.getD 0 0).toNat) :
    Calls Tryd.prog 66 #[S l] w fun e w' => e = .returned (.int .i64 (utfW l : Nat)) ∧ Same w w' := by
  unfold maxLen at hlen
  have _ := hlen
  have hsz : (ByteArray.mk l.toArray).size = l.length := size_S l
  have hpos : 0 < l.length := List.length_pos_iff.2 hne
  have hposz : ((l.length : Int) == 0) = false := by simp; omega
  have i0 : ∀ w, (Instr.index 9 (S l) (.int .i64 0)).run Tryd.prog w = .ok (.int .u8 (l.getD 0 0).toNat) w := fun w => idx_S l 0 hpos w
  have hb := (l.getD 0 0).toNat_lt
  have hu := utf_none l hne h h2
  have H := Px.hid hu
  obtain ⟨b, hbb⟩ : ∃ b, b = (l.getD 0 0).toNat := ⟨_, rfl⟩
  rw [← hbb] at i0 hb h h2
  have hz : ¬ (b : Int) < 128 := by omega
  clear hu hbb hne
  rcases h2 with h2 | h2
  · have g1 : ¬ (192 : Int) ≤ (b : Int) := by omega
    have g2 : ¬ (224 : Int) ≤ (b : Int) := by omega
    have g3 : ¬ (240 : Int) ≤ (b : Int) := by omega
    go_enter Tryd.func66, Tryd.ntmps66
    go_wp2
    go_ret
    rw [H.out]
    exact ⟨rfl, Same.refl w⟩
  · have g1 : (192 : Int) ≤ (b : Int) := by omega
    have g2 : (224 : Int) ≤ (b : Int) := by omega
    have g3 : (240 : Int) ≤ (b : Int) := by omega
    have g4 : ¬ (b : Int) < 224 := by omega
    have g5 : ¬ (b : Int) < 240 := by omega
    have g6 : ¬ (b : Int) < 248 := by omega
    go_enter Tryd.func66, Tryd.ntmps66
    go_wp2
    go_ret
    rw [H.out]
    exact ⟨rfl, Same.refl w⟩

set_option maxRecDepth 100000 in
set_option maxHeartbeats 2000000 in
theorem utf_2 (l : Bytes) (w : World) (hlen : l.length ≤ maxLen) (hne : l ≠ []) (h1 : 192 ≤ (l.getD 0 0).toNat) (h2 : (l.getD 0 0).toNat < 224) :
    Calls Tryd.prog 66 #[S l] w fun e w' => e = .returned (.int .i64 (utfW l : Nat)) ∧ Same w w' := by
  unfold maxLen at hlen
  have _ := hlen
  have hsz : (ByteArray.mk l.toArray).size = l.length := size_S l
  have hpos : 0 < l.length := List.length_pos_iff.2 hne
  have hposz : ((l.length : Int) == 0) = false := by simp; omega
  have i0 : ∀ w, (Instr.index 9 (S l) (.int .i64 0)).run Tryd.prog w = .ok (.int .u8 (l.getD 0 0).toNat) w := fun w => idx_S l 0 hpos w
  have hb := (l.getD 0 0).toNat_lt
  have hsh := utf_short l hne 2 192 224 (.inl ⟨rfl, rfl, rfl⟩) h1 h2
  have hco := fun k => utf_cont l hne 2 192 224 k (.inl ⟨rfl, rfl, rfl⟩) h1 h2
  have hwh := utf_whole2 l hne h1 h2
  obtain ⟨b, hbb⟩ : ∃ b, b = (l.getD 0 0).toNat := ⟨_, rfl⟩
  rw [← hbb] at i0 hb h1 h2 hwh
  have hcz : ((b - 192 : Nat) : Int) = (b : Int) - 192 := by omega
  have hcl : b - 192 ≤ 31 := by omega
  have H := Px.hid (And.intro hco (And.intro hwh (And.intro hcz hcl)))
  have hz : ¬ (b : Int) < 128 := by omega
  have ga192 : (192 : Int) ≤ (b : Int) := by omega
  have gb224 : (b : Int) < 224 := by omega
  clear hbb hco hwh hcz hcl hne
  by_cases hs : l.length < 2
  · have H2 := Px.hid (hsh hs)
    have hsz2 : (l.length : Int) < 2 := by omega
    clear hsh H
    go_enter Tryd.func66, Tryd.ntmps66
    go_wp2
    go_ret
    rw [H2.out]
    exact ⟨rfl, Same.refl w⟩
  · have hsz2 : ¬ (l.length : Int) < 2 := by omega
    clear hsh
    go_enter Tryd.func66, Tryd.ntmps66
    go_wp2
    go_loop [4, 6] (fun c i => ∃ j C : Nat, 1 ≤ j ∧ j ≤ 2 ∧ i = .int .i64 (j : Nat) ∧ c = .int .i64 (C : Nat) ∧ Hid (C = contC l (b - 192) (j - 1) ∧ contOk l (j - 1))) (fun _ i => 2 - (intOf i).toNat)
    case atStart => exact ⟨1, b - 192, by omega, by omega, rfl, by rw [H.out.2.2.1], Px.hid ⟨rfl, fun j a b => by omega⟩⟩
    case round =>
      obtain ⟨j, C, hj1, hj2, rfl, rfl, HC⟩ := hrel
      have hcb := contC_le l (b - 192) (j - 1) H.out.2.2.2 (by omega)
      rw [← HC.out.1] at hcb
      by_cases hlt : j < 2
      · have hix : ∀ w, (Instr.index 9 (S l) (.int .i64 (j : Nat))).run Tryd.prog w = .ok (.int .u8 (l.getD j 0).toNat) w := fun w => idx_S l j (by omega) w
        have hc2 := (l.getD j 0).toNat_lt
        have hn2 : contC l (b - 192) j = 64 * C + ((l.getD j 0).toNat - 128) := by
          obtain ⟨k, rfl⟩ : ∃ k, j = k + 1 := ⟨j - 1, by omega⟩
          rw [HC.out.1]; rfl
        have hbd : ((l.getD j 0).toNat < 128 ∨ 191 < (l.getD j 0).toNat) → utfW l = 0 := by
          obtain ⟨k, rfl⟩ : ∃ k, j = k + 1 := ⟨j - 1, by omega⟩
          exact H.out.1 k hs hlt HC.out.2
        have hok : 128 ≤ (l.getD j 0).toNat → (l.getD j 0).toNat ≤ 191 → contOk l j := by
          obtain ⟨k, rfl⟩ : ∃ k, j = k + 1 := ⟨j - 1, by omega⟩
          exact contOk_succ HC.out.2
        have HC := Px.hid (And.intro hn2 (And.intro hbd hok))
        clear hn2 hbd hok
        obtain ⟨c, hcc⟩ : ∃ c, c = (l.getD j 0).toNat := ⟨_, rfl⟩
        rw [← hcc] at hix hc2
        have HCC := Px.hid hcc
        clear hcc
        have hlz : (j : Int) < 2 := by omega
        by_cases hb1 : c < 128
        · have z1 : (c : Int) < 128 := by omega
          go_wp2
          go_ret
          rw [HC.out.2.1 (by rw [← HCC.out]; exact .inl hb1)]
          exact ⟨rfl, Same.refl w⟩
        · have z1 : ¬ (c : Int) < 128 := by omega
          by_cases hb2 : 191 < c
          · have z2 : (191 : Int) < (c : Int) := by omega
            go_wp2
            go_ret
            rw [HC.out.2.1 (by rw [← HCC.out]; exact .inr hb2)]
            exact ⟨rfl, Same.refl w⟩
          · have z2 : ¬ (191 : Int) < (c : Int) := by omega
            go_wp2
            go_round
            case rel => exact ⟨j + 1, 64 * C + (c - 128), by omega, by omega, by go_num, by go_num, Px.hid ⟨by rw [Nat.add_sub_cancel, HC.out.1, ← HCC.out], by rw [Nat.add_sub_cancel]; exact HC.out.2.2 (by rw [← HCC.out]; omega) (by rw [← HCC.out]; omega)⟩⟩
            case measure => simp [intOf]; omega
      · have hke : j = 2 := by omega
        subst hke
        have HW := Px.hid (H.out.2.1 hs HC.out.2 C HC.out.1)
        clear HC
        go_wp2
        all_goals
          go_ret
          refine ⟨?_, (Fr.refl _ w).alloc _⟩
          first
          | (rw [HW.out.1 (by omega)]; rfl)
          | (rw [HW.out.2 (by omega)]; rfl)

set_option maxRecDepth 100000 in
set_option maxHeartbeats 2000000 in
theorem utf_3 (l : Bytes) (w : World) (hlen : l.length ≤ maxLen) (hne : l ≠ []) (h1 : 224 ≤ (l.getD 0 0).toNat) (h2 : (l.getD 0 0).toNat < 240) :
    Calls Tryd.prog 66 #[S l] w fun e w' => e = .returned (.int .i64 (utfW l : Nat)) ∧ Same w w' := by
  unfold maxLen at hlen
  have _ := hlen
  have hsz : (ByteArray.mk l.toArray).size = l.length := size_S l
  have hpos : 0 < l.length := List.length_pos_iff.2 hne
  have hposz : ((l.length : Int) == 0) = false := by simp; omega
  have i0 : ∀ w, (Instr.index 9 (S l) (.int .i64 0)).run Tryd.prog w = .ok (.int .u8 (l.getD 0 0).toNat) w := fun w => idx_S l 0 hpos w
  have hb := (l.getD 0 0).toNat_lt
  have hsh := utf_short l hne 3 224 240 (.inr (.inl ⟨rfl, rfl, rfl⟩)) h1 h2
  have hco := fun k => utf_cont l hne 3 224 240 k (.inr (.inl ⟨rfl, rfl, rfl⟩)) h1 h2
  have hwh := utf_whole3 l hne h1 h2
  obtain ⟨b, hbb⟩ : ∃ b, b = (l.getD 0 0).toNat := ⟨_, rfl⟩
  rw [← hbb] at i0 hb h1 h2 hwh
  have hcz : ((b - 224 : Nat) : Int) = (b : Int) - 224 := by omega
  have hcl : b - 224 ≤ 31 := by omega
  have H := Px.hid (And.intro hco (And.intro hwh (And.intro hcz hcl)))
  have hz : ¬ (b : Int) < 128 := by omega
  have ga192 : (192 : Int) ≤ (b : Int) := by omega
  have gb224 : ¬ (b : Int) < 224 := by omega
  have ga224 : (224 : Int) ≤ (b : Int) := by omega
  have gb240 : (b : Int) < 240 := by omega
  clear hbb hco hwh hcz hcl hne
  by_cases hs : l.length < 3
  · have H2 := Px.hid (hsh hs)
    have hsz2 : (l.length : Int) < 3 := by omega
    clear hsh H
    go_enter Tryd.func66, Tryd.ntmps66
    go_wp2
    go_ret
    rw [H2.out]
    exact ⟨rfl, Same.refl w⟩
  · have hsz2 : ¬ (l.length : Int) < 3 := by omega
    clear hsh
    go_enter Tryd.func66, Tryd.ntmps66
    go_wp2
    go_loop [4, 6] (fun c i => ∃ j C : Nat, 1 ≤ j ∧ j ≤ 3 ∧ i = .int .i64 (j : Nat) ∧ c = .int .i64 (C : Nat) ∧ Hid (C = contC l (b - 224) (j - 1) ∧ contOk l (j - 1))) (fun _ i => 3 - (intOf i).toNat)
    case atStart => exact ⟨1, b - 224, by omega, by omega, rfl, by rw [H.out.2.2.1], Px.hid ⟨rfl, fun j a b => by omega⟩⟩
    case round =>
      obtain ⟨j, C, hj1, hj2, rfl, rfl, HC⟩ := hrel
      have hcb := contC_le l (b - 224) (j - 1) H.out.2.2.2 (by omega)
      rw [← HC.out.1] at hcb
      by_cases hlt : j < 3
      · have hix : ∀ w, (Instr.index 9 (S l) (.int .i64 (j : Nat))).run Tryd.prog w = .ok (.int .u8 (l.getD j 0).toNat) w := fun w => idx_S l j (by omega) w
        have hc2 := (l.getD j 0).toNat_lt
        have hn2 : contC l (b - 224) j = 64 * C + ((l.getD j 0).toNat - 128) := by
          obtain ⟨k, rfl⟩ : ∃ k, j = k + 1 := ⟨j - 1, by omega⟩
          rw [HC.out.1]; rfl
        have hbd : ((l.getD j 0).toNat < 128 ∨ 191 < (l.getD j 0).toNat) → utfW l = 0 := by
          obtain ⟨k, rfl⟩ : ∃ k, j = k + 1 := ⟨j - 1, by omega⟩
          exact H.out.1 k hs hlt HC.out.2
        have hok : 128 ≤ (l.getD j 0).toNat → (l.getD j 0).toNat ≤ 191 → contOk l j := by
          obtain ⟨k, rfl⟩ : ∃ k, j = k + 1 := ⟨j - 1, by omega⟩
          exact contOk_succ HC.out.2
        have HC := Px.hid (And.intro hn2 (And.intro hbd hok))
        clear hn2 hbd hok
        obtain ⟨c, hcc⟩ : ∃ c, c = (l.getD j 0).toNat := ⟨_, rfl⟩
        rw [← hcc] at hix hc2
        have HCC := Px.hid hcc
        clear hcc
        have hlz : (j : Int) < 3 := by omega
        by_cases hb1 : c < 128
        · have z1 : (c : Int) < 128 := by omega
          go_wp2
          go_ret
          rw [HC.out.2.1 (by rw [← HCC.out]; exact .inl hb1)]
          exact ⟨rfl, Same.refl w⟩
        · have z1 : ¬ (c : Int) < 128 := by omega
          by_cases hb2 : 191 < c
          · have z2 : (191 : Int) < (c : Int) := by omega
            go_wp2
            go_ret
            rw [HC.out.2.1 (by rw [← HCC.out]; exact .inr hb2)]
            exact ⟨rfl, Same.refl w⟩
          · have z2 : ¬ (191 : Int) < (c : Int) := by omega
            go_wp2
            go_round
            case rel => exact ⟨j + 1, 64 * C + (c - 128), by omega, by omega, by go_num, by go_num, Px.hid ⟨by rw [Nat.add_sub_cancel, HC.out.1, ← HCC.out], by rw [Nat.add_sub_cancel]; exact HC.out.2.2 (by rw [← HCC.out]; omega) (by rw [← HCC.out]; omega)⟩⟩
            case measure => simp [intOf]; omega
      · have hke : j = 3 := by omega
        subst hke
        have HW := Px.hid (H.out.2.1 hs HC.out.2 C HC.out.1)
        clear HC
        go_wp2
        all_goals
          go_ret
          refine ⟨?_, (Fr.refl _ w).alloc _⟩
          first
          | (rw [HW.out.1 (by omega)]; rfl)
          | (rw [HW.out.2 (by omega)]; rfl)

set_option maxRecDepth 100000 in
set_option maxHeartbeats 2000000 in
theorem utf_4 (l : Bytes) (w : World) (hlen : l.length ≤ maxLen) (hne : l ≠ []) (h1 : 240 ≤ (l.getD 0 0).toNat) (h2 : (l.getD 0 0).toNat < 248) :
    Calls Tryd.prog 66 #[S l] w fun e w' => e = .returned (.int .i64 (utfW l : Nat)) ∧ Same w w' := by
  unfold maxLen at hlen
  have _ := hlen
  have hsz : (ByteArray.mk l.toArray).size = l.length := size_S l
  have hpos : 0 < l.length := List.length_pos_iff.2 hne
  have hposz : ((l.length : Int) == 0) = false := by simp; omega
  have i0 : ∀ w, (Instr.index 9 (S l) (.int .i64 0)).run Tryd.prog w = .ok (.int .u8 (l.getD 0 0).toNat) w := fun w => idx_S l 0 hpos w
  have hb := (l.getD 0 0).toNat_lt
  have hsh := utf_short l hne 4 240 248 (.inr (.inr ⟨rfl, rfl, rfl⟩)) h1 h2
  have hco := fun k => utf_cont l hne 4 240 248 k (.inr (.inr ⟨rfl, rfl, rfl⟩)) h1 h2
  have hwh := utf_whole4 l hne h1 h2
  obtain ⟨b, hbb⟩ : ∃ b, b = (l.getD 0 0).toNat := ⟨_, rfl⟩
  rw [← hbb] at i0 hb h1 h2 hwh
  have hcz : ((b - 240 : Nat) : Int) = (b : Int) - 240 := by omega
  have hcl : b - 240 ≤ 31 := by omega
  have H := Px.hid (And.intro hco (And.intro hwh (And.intro hcz hcl)))
  have hz : ¬ (b : Int) < 128 := by omega
  have ga192 : (192 : Int) ≤ (b : Int) := by omega
  have gb224 : ¬ (b : Int) < 224 := by omega
  have ga224 : (224 : Int) ≤ (b : Int) := by omega
  have gb240 : ¬ (b : Int) < 240 := by omega
  have ga240 : (240 : Int) ≤ (b : Int) := by omega
  have gb248 : (b : Int) < 248 := by omega
  clear hbb hco hwh hcz hcl hne
  by_cases hs : l.length < 4
  · have H2 := Px.hid (hsh hs)
    have hsz2 : (l.length : Int) < 4 := by omega
    clear hsh H
    go_enter Tryd.func66, Tryd.ntmps66
    go_wp2
    go_ret
    rw [H2.out]
    exact ⟨rfl, Same.refl w⟩
  · have hsz2 : ¬ (l.length : Int) < 4 := by omega
    clear hsh
    go_enter Tryd.func66, Tryd.ntmps66
    go_wp2
    go_loop [4, 6] (fun c i => ∃ j C : Nat, 1 ≤ j ∧ j ≤ 4 ∧ i = .int .i64 (j : Nat) ∧ c = .int .i64 (C : Nat) ∧ Hid (C = contC l (b - 240) (j - 1) ∧ contOk l (j - 1))) (fun _ i => 4 - (intOf i).toNat)
    case atStart => exact ⟨1, b - 240, by omega, by omega, rfl, by rw [H.out.2.2.1], Px.hid ⟨rfl, fun j a b => by omega⟩⟩
    case round =>
      obtain ⟨j, C, hj1, hj2, rfl, rfl, HC⟩ := hrel
      have hcb := contC_le l (b - 240) (j - 1) H.out.2.2.2 (by omega)
      rw [← HC.out.1] at hcb
      by_cases hlt : j < 4
      · have hix : ∀ w, (Instr.index 9 (S l) (.int .i64 (j : Nat))).run Tryd.prog w = .ok (.int .u8 (l.getD j 0).toNat) w := fun w => idx_S l j (by omega) w
        have hc2 := (l.getD j 0).toNat_lt
        have hn2 : contC l (b - 240) j = 64 * C + ((l.getD j 0).toNat - 128) := by
          obtain ⟨k, rfl⟩ : ∃ k, j = k + 1 := ⟨j - 1, by omega⟩
          rw [HC.out.1]; rfl
        have hbd : ((l.getD j 0).toNat < 128 ∨ 191 < (l.getD j 0).toNat) → utfW l = 0 := by
          obtain ⟨k, rfl⟩ : ∃ k, j = k + 1 := ⟨j - 1, by omega⟩
          exact H.out.1 k hs hlt HC.out.2
        have hok : 128 ≤ (l.getD j 0).toNat → (l.getD j 0).toNat ≤ 191 → contOk l j := by
          obtain ⟨k, rfl⟩ : ∃ k, j = k + 1 := ⟨j - 1, by omega⟩
          exact contOk_succ HC.out.2
        have HC := Px.hid (And.intro hn2 (And.intro hbd hok))
        clear hn2 hbd hok
        obtain ⟨c, hcc⟩ : ∃ c, c = (l.getD j 0).toNat := ⟨_, rfl⟩
        rw [← hcc] at hix hc2
        have HCC := Px.hid hcc
        clear hcc
        have hlz : (j : Int) < 4 := by omega
        by_cases hb1 : c < 128
        · have z1 : (c : Int) < 128 := by omega
          go_wp2
          go_ret
          rw [HC.out.2.1 (by rw [← HCC.out]; exact .inl hb1)]
          exact ⟨rfl, Same.refl w⟩
        · have z1 : ¬ (c : Int) < 128 := by omega
          by_cases hb2 : 191 < c
          · have z2 : (191 : Int) < (c : Int) := by omega
            go_wp2
            go_ret
            rw [HC.out.2.1 (by rw [← HCC.out]; exact .inr hb2)]
            exact ⟨rfl, Same.refl w⟩
          · have z2 : ¬ (191 : Int) < (c : Int) := by omega
            go_wp2
            go_round
            case rel => exact ⟨j + 1, 64 * C + (c - 128), by omega, by omega, by go_num, by go_num, Px.hid ⟨by rw [Nat.add_sub_cancel, HC.out.1, ← HCC.out], by rw [Nat.add_sub_cancel]; exact HC.out.2.2 (by rw [← HCC.out]; omega) (by rw [← HCC.out]; omega)⟩⟩
            case measure => simp [intOf]; omega
      · have hke : j = 4 := by omega
        subst hke
        have HW := Px.hid (H.out.2.1 hs HC.out.2 C HC.out.1)
        clear HC
        go_wp2
        all_goals
          go_ret
          refine ⟨?_, (Fr.refl _ w).alloc _⟩
          first
          | (rw [HW.out.1 (by omega)]; rfl)
          | (rw [HW.out.2 (by omega)]; rfl)

theorem utf_any (l : Bytes) (w : World) (hlen : l.length ≤ maxLen) : Calls Tryd.prog 66 #[S l] w fun e w' => e = .returned (.int .i64 (utfW l : Nat)) ∧ Same w w' := by
  by_cases hne : l = []
  · subst hne; exact utf_nil w
  · by_cases h1 : (l.getD 0 0).toNat < 128
    · exact utf_one l w hlen hne h1
    · by_cases h2 : (l.getD 0 0).toNat < 192 ∨ 248 ≤ (l.getD 0 0).toNat
      · exact utf_odd l w hlen hne (by omega) h2
      · by_cases h3 : (l.getD 0 0).toNat < 224
        · exact utf_2 l w hlen hne (by omega) h3
        · by_cases h4 : (l.getD 0 0).toNat < 240
          · exact utf_3 l w hlen hne (by omega) h4
          · exact utf_4 l w hlen hne (by omega) (by omega)

set_option maxHeartbeats 1000000 in
theorem text_any (l : Bytes) (w : World) (hlen : l.length ≤ maxLen) : Calls Tryd.prog 53 #[S l] w fun e w' => e = .returned (.bool (Lib.validD l)) ∧ Same w w' := by
  have hlen2 := hlen
  unfold maxLen at hlen
  have hsz : (ByteArray.mk l.toArray).size = l.length := size_S l
  have HL := Px.hid hlen2
  clear hlen2
  go_enter Tryd.func53, Tryd.ntmps53
  go_wp2
  go_loopw [3, 4] (fun i _ wr => ∃ k n : Nat, k ≤ l.length ∧ i = .int .i64 (k : Nat) ∧ l.length - k ≤ n ∧ Lib.validGoD n (l.drop k) = Lib.validD l ∧ Same w wr) (fun i _ _ => l.length - (intOf i).toNat)
  case atStart => exact ⟨0, l.length, Nat.zero_le _, rfl, by omega, rfl, Same.refl w⟩
  case round =>
    obtain ⟨k, n, hk, rfl, hn, hv, hs⟩ := hrel
    by_cases hlt : k < l.length
    · have hltz : (k : Int) < (l.length : Int) := by omega
      have hfr : ∀ w, (Instr.slice 9 (S l) (some (.int .i64 (k : Int))) none none).run Tryd.prog w = .ok (S (l.drop k)) w := fun w => from_S l k hk w
      have hne : l.drop k ≠ [] := by intro e; have := congrArg List.length e; simp at this; omega
      obtain ⟨m, rfl⟩ : ∃ m, n = m + 1 := ⟨n - 1, by omega⟩
      have hst := validGoD_step m (l.drop k) hne
      rw [hv] at hst
      have hle := utfW_le (l.drop k)
      rw [List.length_drop] at hle
      rw [List.drop_drop] at hst
      have hll : (l.drop k).length ≤ maxLen := by have := HL.out; rw [List.length_drop]; omega
      have HST := Px.hid (And.intro hst (And.intro hll hs))
      clear hst hll hs hv hne
      go_wp2_with fail
      refine (utf_any (l.drop k) _ HST.out.2.1).mono ?_
      rintro e w' ⟨rfl, hs⟩
      have HS := Px.hid (HST.out.2.2.trans hs)
      have HST := Px.hid HST.out.1
      clear hs
      obtain ⟨u, hu⟩ : ∃ u, u = utfW (l.drop k) := ⟨_, rfl⟩
      rw [← hu] at hle ⊢
      have HU := Px.hid hu
      clear hu
      by_cases h0 : u = 0
      · have hr : Lib.validD l = false := by rw [HST.out, if_pos (by rw [← HU.out]; exact h0)]
        have H := Px.hid hr
        clear hr
        subst h0
        go_wp2
        go_ret
        rw [H.out]
        exact ⟨rfl, HS.out⟩
      · have hr : Lib.validD l = Lib.validGoD m (l.drop (k + u)) := by rw [HST.out, if_neg (by rw [← HU.out]; exact h0), ← HU.out]
        have H := Px.hid hr
        have h0z : ((u : Int) == 0) = false := by simp; omega
        clear hr
        go_wp2
        go_roundw
        case rel => exact ⟨k + u, m, by omega, by go_num, by omega, H.out.symm, HS.out⟩
        case measure => simp [intOf]; omega
    · have hltz : ¬ (k : Int) < (l.length : Int) := by omega
      have hd : l.drop k = [] := List.drop_eq_nil_of_le (by omega)
      rw [hd, validGoD_nil] at hv
      have H := Px.hid (And.intro hv hs)
      clear hd hv hs
      go_wp2
      go_ret
      rw [← H.out.1]
      exact ⟨rfl, H.out.2⟩
end Go.Proofs.YtclbbfmpkhfigaaDoor

/-! The walk over the reference's Head (layer 17). -/
namespace Go.Proofs.YtclbbfmpkhfigaaDoor
open Go.RowKit Go.Px Go.Px.R7

theorem infoOf_le (n : Nat) : infoOf n ≤ 3 := by
  unfold infoOf; repeat' split
  all_goals omega

/-- A new string of bytes of the call's own: what it holds. -/
theorem Owns.str {w : World} {v : Value} {l : List UInt8} (h : Owns w 5 1 cByte v l) : (convert 42 9 v).run Tryd.prog w = .ok (S l) w := by
  obtain ⟨sv, hs, hc⟩ := h.bytesTo (P := Tryd.prog) (p := 0) (Nat.zero_le _) (t := 42) (dst := 9) (by kernel_rfl) (by kernel_rfl) (by kernel_rfl) Tryd.sizeU8
  have hc0 := hc 0
  have hs0 := hs w
  rcases h.2 with ⟨rfl, h0⟩ | ⟨g, cap, cur, rfl, _, hg, hc1, hc2, _⟩
  · rw [run_convert_bytes_nil _ 42 5 Tryd.underlying42 Tryd.underlying5 0 0 9 Tryd.underlying9, List.length_eq_zero_iff.1 h0]
    rfl
  · have hcell : ∀ j, (hj : j < l.length) → w.cell? ⟨g, 0 + j, none⟩ = some (.int .u8 (l[j].toNat)) := by
      intro j hj
      obtain ⟨g', cap', hv, _, _, hc, _⟩ := h.at cByte_len (j := j) (a := l[j]) (by simp [hj])
      simp only [Value.slice.injEq, Option.some.injEq, Addr.mk.injEq, and_true, true_and] at hv
      obtain ⟨rfl, rfl⟩ := hv
      have := hc 0 _ rfl
      simpa using this
    rw [run_convert_bytes_arg w 42 5 Tryd.underlying42 Tryd.underlying5 g 0 l.length cap (l.map fun c => ((c.toNat : Nat) : Int)) (by simp) ?_ 9 Tryd.underlying9, strOf_bytes]
    intro i hi
    rw [hcell i hi]
    simp [List.getD, hi]

theorem owns_one (w : World) (c : Nat) (hc : c < 256) : Owns (w.alloc (.cells #[.int .u8 (c : Int)] 5 (0, 0))) 5 1 cByte (.slice (some ⟨w.heap.size, 0, none⟩) 1 1) [UInt8.ofNat c] := by
  refine ⟨rfl, .inr ⟨w.heap.size, 1, #[.int .u8 (c : Int)], rfl, Nat.zero_le _, heap_alloc_new w _, Nat.le_refl _, by unfold maxLen; omega, rfl, ?_⟩⟩
  have : (UInt8.ofNat c).toNat = c := by simp; omega
  simp [cByte, this]
theorem info_1 (n : Nat) : (256 : Int) ≤ n ↔ 1 ≤ infoOf n := by
  unfold infoOf; repeat' split
  all_goals omega
theorem info_2 (n : Nat) : (65536 : Int) ≤ n ↔ 2 ≤ infoOf n := by
  unfold infoOf; repeat' split
  all_goals omega
theorem info_3 (n : Nat) : (4294967296 : Int) ≤ n ↔ 3 ≤ infoOf n := by
  unfold infoOf; repeat' split
  all_goals omega
theorem grown_alloc1 {w w1 : World} {o : Obj} {row : Option Nat} (hg : (w.alloc o).grownBy w1 row) : w.grownBy w1 row :=
  ⟨hg.os, hg.tape, hg.output, by have := hg.size; simp at this; omega, fun k hk hne => (hg.block k (by simp; omega) hne).trans (Below.heap_alloc w o k hk)⟩
theorem one_byte (n : Nat) (h : n < 256) : [Value.int .u8 (n : Int)] = cByte (UInt8.ofNat (n / 256 ^ 0)) := by
  have : (UInt8.ofNat n).toNat = n := by simp; omega
  simp [cByte, this]
theorem headB_far (k n : Nat) (h : ¬ n < 24) : headB k n = UInt8.ofNat (32 * k + 24 + infoOf n) :: beBytes n (2 ^ infoOf n) := by unfold headB; rw [if_neg h]

set_option maxRecDepth 100000 in
set_option maxHeartbeats 2000000 in
theorem head17_any (k n : Nat) (w : World) (hk : k < 8) (hn : n < 18446744073709551616) :
    Calls Tryd.prog 54 #[.int .i64 (k : Nat), .int .u64 (n : Nat)] w fun e w' => e = .returned (S (headB k n)) ∧ Same w w' := by
  have HN := Px.hid hn
  by_cases h24 : n < 24
  · have hr : headB k n = [UInt8.ofNat (32 * k + n)] := by unfold headB; rw [if_pos h24]
    have hv : ((32 * k + n : Nat) : Int) = 32 * (k : Int) + n := by omega
    have hz : (n : Int) < 24 := by omega
    have hst := Owns.str (owns_one w (32 * k + n) (by omega))
    rw [hv, ← hr] at hst
    have hnn : (n : Int) ≤ 23 := by omega
    clear hr hv hn h24
    go_enter Tryd.func54, Tryd.ntmps54
    go_wp2
    go_ret
    exact ⟨rfl, (Fr.refl _ w).alloc _⟩
  · have hr := Px.hid (headB_far k n h24)
    have hz : ¬ (n : Int) < 24 := by omega
    have hi3 := infoOf_le n
    have h256 := info_1 n
    have h65536 := info_2 n
    have h4g := info_3 n
    obtain ⟨t, ht⟩ : ∃ t, t = infoOf n := ⟨_, rfl⟩
    rw [← ht] at hi3 h256 h65536 h4g hr
    have HT := Px.hid (And.intro ht (And.intro h256 (And.intro h65536 h4g)))
    clear hn h24 h256 h65536 h4g ht
    go_enter Tryd.func54, Tryd.ntmps54
    go_wp2
    go_loop [5, 6] (fun wd inf => ∃ j, j ≤ t ∧ (j = 0 ∧ wd = .int .i64 1 ∧ inf = .int .i64 24 ∨ j = 1 ∧ wd = .int .i64 2 ∧ inf = .int .i64 25 ∨ j = 2 ∧ wd = .int .i64 4 ∧ inf = .int .i64 26 ∨ j = 3 ∧ wd = .int .i64 8 ∧ inf = .int .i64 27)) (fun _ inf => 28 - (intOf inf).toNat)
    case atStart => exact ⟨0, Nat.zero_le _, .inl ⟨rfl, rfl, rfl⟩⟩
    case round =>
      obtain ⟨j, hj, h4⟩ := hrel
      rcases h4 with ⟨rfl, rfl, rfl⟩ | ⟨rfl, rfl, rfl⟩ | ⟨rfl, rfl, rfl⟩ | ⟨rfl, rfl, rfl⟩
      · by_cases hlt : 1 ≤ t
        · have hnz := HT.out.2.1.2 hlt
          go_wp2
          go_round
          case rel => exact ⟨1, hlt, .inr (.inl ⟨rfl, rfl, rfl⟩)⟩
          case measure => simp [intOf]
        · have hnz : ¬ (256 : Int) ≤ n := fun h => hlt (HT.out.2.1.1 h)
          have HB := Px.hid (show headB k n = [UInt8.ofNat (32 * k + 24)] ++ beBytes n 1 by rw [hr.out, show t = 0 by omega]; rfl)
          have hoo := owns_one w (32 * k + 24) (by omega)
          have hcc : ((32 * k + 24 : Nat) : Int) = 32 * (k : Int) + 24 := by omega
          rw [hcc] at hoo
          have HOO := Px.hid hoo
          clear hoo hcc HT
          go_wp2
          go_loopw [7, 8] (fun v i wr => ∃ (m : Nat) (L : Bytes), m ≤ 1 ∧ i = .int .i64 ((m : Int) - 1) ∧ L.length ≤ 10 - m ∧ Hid (Owns wr 5 1 cByte v L ∧ Same w wr ∧ (∀ g, v.ownBlock = some g → w.heap.size ≤ g) ∧ L ++ beBytes n m = headB k n)) (fun _ i _ => (intOf i + 1).toNat)
          case atStart => exact ⟨1, [UInt8.ofNat (32 * k + 24)], by omega, by go_num, by simp, Px.hid ⟨HOO.out, (Fr.refl _ w).alloc _, fun g hg => by simp [Value.ownBlock] at hg; omega, HB.out.symm⟩⟩
          case round =>
            clear HB HOO
            obtain ⟨m, L, hm1, rfl, hll, HO⟩ := hrel
            obtain ⟨va, vc, hvl, _⟩ := HO.out.1.len
            subst hvl
            by_cases hm0 : 1 ≤ m
            · have z1 : (0 : Int) ≤ (m : Int) - 1 := by omega
              have z2 : (1 : Int) ≤ (m : Int) := by omega
              obtain ⟨q, hq⟩ : ∃ q, q = m - 1 := ⟨_, rfl⟩
              have hsh : (n : Int) / 2 ^ (8 * (m - 1)) % 256 = ((n / 256 ^ q % 256 : Nat) : Int) := by
                have e : 8 * (m - 1) = 8 * q := by omega
                rw [e, show (256 : Nat) = 2 ^ 8 by rfl, ← Nat.pow_mul]
                push_cast
                rfl
              have hqb : beBytes n m = UInt8.ofNat (n / 256 ^ q) :: beBytes n q := by rw [show m = q + 1 by omega]; rfl
              have hqv : (UInt8.ofNat (n / 256 ^ q)).toNat = n / 256 ^ q % 256 := by simp
              have hq1 : ((m : Int) - 1) = (q : Int) := by omega
              obtain ⟨c, hc⟩ : ∃ c, c = UInt8.ofNat (n / 256 ^ q) := ⟨_, rfl⟩
              rw [← hc] at hqb hqv
              rw [← hqv] at hsh
              have HN1 := Px.hid (show [Value.int .u8 (n : Int)] = cByte c by rw [hc, show q = 0 by omega]; exact one_byte n (by omega))
              have HQ := Px.hid (And.intro hqb (And.intro hq hq1))
              clear hqb hqv hc hq hq1
              obtain ⟨i0, hi0, hz0, hz1, hz2⟩ := info_parts Tryd.infoU8
              have hown : wr.ownsRow 0 5 1 (.slice va L.length vc) L.length (L.flatMap cByte) := HO.out.1
              go_wp2_with (at_builtin; go_must (refine wpList_append_lies _ rfl _ _ _ rfl 0 5 i0 _ 1 1 Tryd.underlying42 hi0 hz0 hz1 hz2 rfl (by omega) (.slice va L.length vc) L.length (L.flatMap cByte) rfl (Owns.alloc HO.out.1 _) ⟨wr.heap.size, 0, none⟩ 1 1 [.int .u8 (n : Int)] rfl rfl (World.news_of_block (cs := #[.int .u8 (n : Int)]) (t := 5) (fr := (0, 0)) (heap_alloc_new wr _)) (by simp [Value.oneCell']) (by omega) (by unfold maxLen; omega) (by omega) (by omega) (wr.heap.size + 1) (by simp) ?_))
              intro gg cap w1 hown1 hgrow hat hlt
              rw [HN1.out] at hown1
              have HW := Px.hid (And.intro hown1 (And.intro (show wr.grownBy w1 (Value.slice va L.length vc).ownBlock from grown_alloc1 (w := wr) hgrow) hat))
              clear hown1 hgrow hat hown
              go_wp2
              go_roundw
              case rel =>
                refine ⟨q, L ++ [c], by have := HQ.out.2.1; omega, ?_, by have := HQ.out.2.1; simp; omega, Px.hid ⟨owns_append HW.out.1, Fr.grown HO.out.2.1 HW.out.2.1 (fun g e => .inr (HO.out.2.2.1 g e)), ?_, ?_⟩⟩
                · have := HQ.out.2.2; go_num
                · intro g hg
                  simp only [Value.ownBlock, Option.some.injEq] at hg
                  subst hg
                  rcases HW.out.2.2 with e | e
                  · exact HO.out.2.2.1 _ e
                  · have := HO.out.2.1.size; omega
                · rw [List.append_assoc, ← HO.out.2.2.2, HQ.out.1]; rfl
              case measure => simp [intOf]; omega
            · have z1 : ¬ (0 : Int) ≤ (m : Int) - 1 := by omega
              have z2 : ¬ (1 : Int) ≤ (m : Int) := by omega
              have hstr := Owns.str HO.out.1
              have HE := Px.hid (show L = headB k n by have := HO.out.2.2.2; rw [show m = 0 by omega] at this; simpa [beBytes] using this)
              go_wp2
              go_ret
              rw [HE.out]
              exact ⟨rfl, HO.out.2.1⟩
      · by_cases hlt : 2 ≤ t
        · have hnz := HT.out.2.2.1.2 hlt
          go_wp2
          go_round
          case rel => exact ⟨2, hlt, .inr (.inr (.inl ⟨rfl, rfl, rfl⟩))⟩
          case measure => simp [intOf]
        · have hnz : ¬ (65536 : Int) ≤ n := fun h => hlt (HT.out.2.2.1.1 h)
          have HB := Px.hid (show headB k n = [UInt8.ofNat (32 * k + 25)] ++ beBytes n 2 by rw [hr.out, show t = 1 by omega]; rfl)
          have hoo := owns_one w (32 * k + 25) (by omega)
          have hcc : ((32 * k + 25 : Nat) : Int) = 32 * (k : Int) + 25 := by omega
          rw [hcc] at hoo
          have HOO := Px.hid hoo
          clear hoo hcc HT
          go_wp2
          go_loopw [7, 8] (fun v i wr => ∃ (m : Nat) (L : Bytes), m ≤ 2 ∧ i = .int .i64 ((m : Int) - 1) ∧ L.length ≤ 10 - m ∧ Hid (Owns wr 5 1 cByte v L ∧ Same w wr ∧ (∀ g, v.ownBlock = some g → w.heap.size ≤ g) ∧ L ++ beBytes n m = headB k n)) (fun _ i _ => (intOf i + 1).toNat)
          case atStart => exact ⟨2, [UInt8.ofNat (32 * k + 25)], by omega, by go_num, by simp, Px.hid ⟨HOO.out, (Fr.refl _ w).alloc _, fun g hg => by simp [Value.ownBlock] at hg; omega, HB.out.symm⟩⟩
          case round =>
            clear HB HOO
            obtain ⟨m, L, hm1, rfl, hll, HO⟩ := hrel
            obtain ⟨va, vc, hvl, _⟩ := HO.out.1.len
            subst hvl
            by_cases hm0 : 1 ≤ m
            · have z1 : (0 : Int) ≤ (m : Int) - 1 := by omega
              have z2 : (1 : Int) ≤ (m : Int) := by omega
              obtain ⟨q, hq⟩ : ∃ q, q = m - 1 := ⟨_, rfl⟩
              have hsh : (n : Int) / 2 ^ (8 * (m - 1)) % 256 = ((n / 256 ^ q % 256 : Nat) : Int) := by
                have e : 8 * (m - 1) = 8 * q := by omega
                rw [e, show (256 : Nat) = 2 ^ 8 by rfl, ← Nat.pow_mul]
                push_cast
                rfl
              have hqb : beBytes n m = UInt8.ofNat (n / 256 ^ q) :: beBytes n q := by rw [show m = q + 1 by omega]; rfl
              have hqv : (UInt8.ofNat (n / 256 ^ q)).toNat = n / 256 ^ q % 256 := by simp
              have hq1 : ((m : Int) - 1) = (q : Int) := by omega
              obtain ⟨c, hc⟩ : ∃ c, c = UInt8.ofNat (n / 256 ^ q) := ⟨_, rfl⟩
              rw [← hc] at hqb hqv
              rw [← hqv] at hsh
              skip
              have HQ := Px.hid (And.intro hqb (And.intro hq hq1))
              clear hqb hqv hc hq hq1
              obtain ⟨i0, hi0, hz0, hz1, hz2⟩ := info_parts Tryd.infoU8
              have hown : wr.ownsRow 0 5 1 (.slice va L.length vc) L.length (L.flatMap cByte) := HO.out.1
              go_wp2_with (at_builtin; go_must (refine wpList_append_lies _ rfl _ _ _ rfl 0 5 i0 _ 1 1 Tryd.underlying42 hi0 hz0 hz1 hz2 rfl (by omega) (.slice va L.length vc) L.length (L.flatMap cByte) rfl (Owns.alloc HO.out.1 _) ⟨wr.heap.size, 0, none⟩ 1 1 [.int .u8 c.toNat] rfl rfl (World.news_of_block (cs := #[.int .u8 c.toNat]) (t := 5) (fr := (0, 0)) (heap_alloc_new wr _)) (by simp [Value.oneCell']) (by omega) (by unfold maxLen; omega) (by omega) (by omega) (wr.heap.size + 1) (by simp) ?_))
              intro gg cap w1 hown1 hgrow hat hlt
              skip
              have HW := Px.hid (And.intro hown1 (And.intro (show wr.grownBy w1 (Value.slice va L.length vc).ownBlock from grown_alloc1 (w := wr) hgrow) hat))
              clear hown1 hgrow hat hown
              go_wp2
              go_roundw
              case rel =>
                refine ⟨q, L ++ [c], by have := HQ.out.2.1; omega, ?_, by have := HQ.out.2.1; simp; omega, Px.hid ⟨owns_append HW.out.1, Fr.grown HO.out.2.1 HW.out.2.1 (fun g e => .inr (HO.out.2.2.1 g e)), ?_, ?_⟩⟩
                · have := HQ.out.2.2; go_num
                · intro g hg
                  simp only [Value.ownBlock, Option.some.injEq] at hg
                  subst hg
                  rcases HW.out.2.2 with e | e
                  · exact HO.out.2.2.1 _ e
                  · have := HO.out.2.1.size; omega
                · rw [List.append_assoc, ← HO.out.2.2.2, HQ.out.1]; rfl
              case measure => simp [intOf]; omega
            · have z1 : ¬ (0 : Int) ≤ (m : Int) - 1 := by omega
              have z2 : ¬ (1 : Int) ≤ (m : Int) := by omega
              have hstr := Owns.str HO.out.1
              have HE := Px.hid (show L = headB k n by have := HO.out.2.2.2; rw [show m = 0 by omega] at this; simpa [beBytes] using this)
              go_wp2
              go_ret
              rw [HE.out]
              exact ⟨rfl, HO.out.2.1⟩
      · by_cases hlt : 3 ≤ t
        · have hnz := HT.out.2.2.2.2 hlt
          go_wp2
          go_round
          case rel => exact ⟨3, hlt, .inr (.inr (.inr ⟨rfl, rfl, rfl⟩))⟩
          case measure => simp [intOf]
        · have hnz : ¬ (4294967296 : Int) ≤ n := fun h => hlt (HT.out.2.2.2.1 h)
          have HB := Px.hid (show headB k n = [UInt8.ofNat (32 * k + 26)] ++ beBytes n 4 by rw [hr.out, show t = 2 by omega]; rfl)
          have hoo := owns_one w (32 * k + 26) (by omega)
          have hcc : ((32 * k + 26 : Nat) : Int) = 32 * (k : Int) + 26 := by omega
          rw [hcc] at hoo
          have HOO := Px.hid hoo
          clear hoo hcc HT
          go_wp2
          go_loopw [7, 8] (fun v i wr => ∃ (m : Nat) (L : Bytes), m ≤ 4 ∧ i = .int .i64 ((m : Int) - 1) ∧ L.length ≤ 10 - m ∧ Hid (Owns wr 5 1 cByte v L ∧ Same w wr ∧ (∀ g, v.ownBlock = some g → w.heap.size ≤ g) ∧ L ++ beBytes n m = headB k n)) (fun _ i _ => (intOf i + 1).toNat)
          case atStart => exact ⟨4, [UInt8.ofNat (32 * k + 26)], by omega, by go_num, by simp, Px.hid ⟨HOO.out, (Fr.refl _ w).alloc _, fun g hg => by simp [Value.ownBlock] at hg; omega, HB.out.symm⟩⟩
          case round =>
            clear HB HOO
            obtain ⟨m, L, hm1, rfl, hll, HO⟩ := hrel
            obtain ⟨va, vc, hvl, _⟩ := HO.out.1.len
            subst hvl
            by_cases hm0 : 1 ≤ m
            · have z1 : (0 : Int) ≤ (m : Int) - 1 := by omega
              have z2 : (1 : Int) ≤ (m : Int) := by omega
              obtain ⟨q, hq⟩ : ∃ q, q = m - 1 := ⟨_, rfl⟩
              have hsh : (n : Int) / 2 ^ (8 * (m - 1)) % 256 = ((n / 256 ^ q % 256 : Nat) : Int) := by
                have e : 8 * (m - 1) = 8 * q := by omega
                rw [e, show (256 : Nat) = 2 ^ 8 by rfl, ← Nat.pow_mul]
                push_cast
                rfl
              have hqb : beBytes n m = UInt8.ofNat (n / 256 ^ q) :: beBytes n q := by rw [show m = q + 1 by omega]; rfl
              have hqv : (UInt8.ofNat (n / 256 ^ q)).toNat = n / 256 ^ q % 256 := by simp
              have hq1 : ((m : Int) - 1) = (q : Int) := by omega
              obtain ⟨c, hc⟩ : ∃ c, c = UInt8.ofNat (n / 256 ^ q) := ⟨_, rfl⟩
              rw [← hc] at hqb hqv
              rw [← hqv] at hsh
              skip
              have HQ := Px.hid (And.intro hqb (And.intro hq hq1))
              clear hqb hqv hc hq hq1
              obtain ⟨i0, hi0, hz0, hz1, hz2⟩ := info_parts Tryd.infoU8
              have hown : wr.ownsRow 0 5 1 (.slice va L.length vc) L.length (L.flatMap cByte) := HO.out.1
              go_wp2_with (at_builtin; go_must (refine wpList_append_lies _ rfl _ _ _ rfl 0 5 i0 _ 1 1 Tryd.underlying42 hi0 hz0 hz1 hz2 rfl (by omega) (.slice va L.length vc) L.length (L.flatMap cByte) rfl (Owns.alloc HO.out.1 _) ⟨wr.heap.size, 0, none⟩ 1 1 [.int .u8 c.toNat] rfl rfl (World.news_of_block (cs := #[.int .u8 c.toNat]) (t := 5) (fr := (0, 0)) (heap_alloc_new wr _)) (by simp [Value.oneCell']) (by omega) (by unfold maxLen; omega) (by omega) (by omega) (wr.heap.size + 1) (by simp) ?_))
              intro gg cap w1 hown1 hgrow hat hlt
              skip
              have HW := Px.hid (And.intro hown1 (And.intro (show wr.grownBy w1 (Value.slice va L.length vc).ownBlock from grown_alloc1 (w := wr) hgrow) hat))
              clear hown1 hgrow hat hown
              go_wp2
              go_roundw
              case rel =>
                refine ⟨q, L ++ [c], by have := HQ.out.2.1; omega, ?_, by have := HQ.out.2.1; simp; omega, Px.hid ⟨owns_append HW.out.1, Fr.grown HO.out.2.1 HW.out.2.1 (fun g e => .inr (HO.out.2.2.1 g e)), ?_, ?_⟩⟩
                · have := HQ.out.2.2; go_num
                · intro g hg
                  simp only [Value.ownBlock, Option.some.injEq] at hg
                  subst hg
                  rcases HW.out.2.2 with e | e
                  · exact HO.out.2.2.1 _ e
                  · have := HO.out.2.1.size; omega
                · rw [List.append_assoc, ← HO.out.2.2.2, HQ.out.1]; rfl
              case measure => simp [intOf]; omega
            · have z1 : ¬ (0 : Int) ≤ (m : Int) - 1 := by omega
              have z2 : ¬ (1 : Int) ≤ (m : Int) := by omega
              have hstr := Owns.str HO.out.1
              have HE := Px.hid (show L = headB k n by have := HO.out.2.2.2; rw [show m = 0 by omega] at this; simpa [beBytes] using this)
              go_wp2
              go_ret
              rw [HE.out]
              exact ⟨rfl, HO.out.2.1⟩
      · have hlt : ¬ 4 ≤ t := by omega
        have HB := Px.hid (show headB k n = [UInt8.ofNat (32 * k + 27)] ++ beBytes n 8 by rw [hr.out, show t = 3 by omega]; rfl)
        have hoo := owns_one w (32 * k + 27) (by omega)
        have hcc : ((32 * k + 27 : Nat) : Int) = 32 * (k : Int) + 27 := by omega
        rw [hcc] at hoo
        have HOO := Px.hid hoo
        clear hoo hcc HT
        go_wp2
        go_loopw [7, 8] (fun v i wr => ∃ (m : Nat) (L : Bytes), m ≤ 8 ∧ i = .int .i64 ((m : Int) - 1) ∧ L.length ≤ 10 - m ∧ Hid (Owns wr 5 1 cByte v L ∧ Same w wr ∧ (∀ g, v.ownBlock = some g → w.heap.size ≤ g) ∧ L ++ beBytes n m = headB k n)) (fun _ i _ => (intOf i + 1).toNat)
        case atStart => exact ⟨8, [UInt8.ofNat (32 * k + 27)], by omega, by go_num, by simp, Px.hid ⟨HOO.out, (Fr.refl _ w).alloc _, fun g hg => by simp [Value.ownBlock] at hg; omega, HB.out.symm⟩⟩
        case round =>
          clear HB HOO
          obtain ⟨m, L, hm1, rfl, hll, HO⟩ := hrel
          obtain ⟨va, vc, hvl, _⟩ := HO.out.1.len
          subst hvl
          by_cases hm0 : 1 ≤ m
          · have z1 : (0 : Int) ≤ (m : Int) - 1 := by omega
            have z2 : (1 : Int) ≤ (m : Int) := by omega
            obtain ⟨q, hq⟩ : ∃ q, q = m - 1 := ⟨_, rfl⟩
            have hsh : (n : Int) / 2 ^ (8 * (m - 1)) % 256 = ((n / 256 ^ q % 256 : Nat) : Int) := by
              have e : 8 * (m - 1) = 8 * q := by omega
              rw [e, show (256 : Nat) = 2 ^ 8 by rfl, ← Nat.pow_mul]
              push_cast
              rfl
            have hqb : beBytes n m = UInt8.ofNat (n / 256 ^ q) :: beBytes n q := by rw [show m = q + 1 by omega]; rfl
            have hqv : (UInt8.ofNat (n / 256 ^ q)).toNat = n / 256 ^ q % 256 := by simp
            have hq1 : ((m : Int) - 1) = (q : Int) := by omega
            obtain ⟨c, hc⟩ : ∃ c, c = UInt8.ofNat (n / 256 ^ q) := ⟨_, rfl⟩
            rw [← hc] at hqb hqv
            rw [← hqv] at hsh
            skip
            have HQ := Px.hid (And.intro hqb (And.intro hq hq1))
            clear hqb hqv hc hq hq1
            obtain ⟨i0, hi0, hz0, hz1, hz2⟩ := info_parts Tryd.infoU8
            have hown : wr.ownsRow 0 5 1 (.slice va L.length vc) L.length (L.flatMap cByte) := HO.out.1
            go_wp2_with (at_builtin; go_must (refine wpList_append_lies _ rfl _ _ _ rfl 0 5 i0 _ 1 1 Tryd.underlying42 hi0 hz0 hz1 hz2 rfl (by omega) (.slice va L.length vc) L.length (L.flatMap cByte) rfl (Owns.alloc HO.out.1 _) ⟨wr.heap.size, 0, none⟩ 1 1 [.int .u8 c.toNat] rfl rfl (World.news_of_block (cs := #[.int .u8 c.toNat]) (t := 5) (fr := (0, 0)) (heap_alloc_new wr _)) (by simp [Value.oneCell']) (by omega) (by unfold maxLen; omega) (by omega) (by omega) (wr.heap.size + 1) (by simp) ?_))
            intro gg cap w1 hown1 hgrow hat hlt
            skip
            have HW := Px.hid (And.intro hown1 (And.intro (show wr.grownBy w1 (Value.slice va L.length vc).ownBlock from grown_alloc1 (w := wr) hgrow) hat))
            clear hown1 hgrow hat hown
            go_wp2
            go_roundw
            case rel =>
              refine ⟨q, L ++ [c], by have := HQ.out.2.1; omega, ?_, by have := HQ.out.2.1; simp; omega, Px.hid ⟨owns_append HW.out.1, Fr.grown HO.out.2.1 HW.out.2.1 (fun g e => .inr (HO.out.2.2.1 g e)), ?_, ?_⟩⟩
              · have := HQ.out.2.2; go_num
              · intro g hg
                simp only [Value.ownBlock, Option.some.injEq] at hg
                subst hg
                rcases HW.out.2.2 with e | e
                · exact HO.out.2.2.1 _ e
                · have := HO.out.2.1.size; omega
              · rw [List.append_assoc, ← HO.out.2.2.2, HQ.out.1]; rfl
            case measure => simp [intOf]; omega
          · have z1 : ¬ (0 : Int) ≤ (m : Int) - 1 := by omega
            have z2 : ¬ (1 : Int) ≤ (m : Int) := by omega
            have hstr := Owns.str HO.out.1
            have HE := Px.hid (show L = headB k n by have := HO.out.2.2.2; rw [show m = 0 by omega] at this; simpa [beBytes] using this)
            go_wp2
            go_ret
            rw [HE.out]
            exact ⟨rfl, HO.out.2.1⟩
end Go.Proofs.YtclbbfmpkhfigaaDoor

/-! How the reference's reader of layer 17 lies in memory, and what becomes of it; what holds between two items. -/
namespace Go.Proofs.YtclbbfmpkhfigaaDoor
open Go.RowKit Go.Px Go.Px.R7

structure RdRep (w : World) (b : Nat) (s : Bytes) (lim : Lim) (x : St) (vo : Value) : Prop where
  rd : Rd w b 94 s lim x (.slice none 0 0) [vo]
  out : Owns w 72 3 cAtom vo x.out
  ob : Apart vo.ownBlock (some b)
def rfoot (b : Nat) (vo : Value) (k : Nat) : Prop := k = b ∨ vo.ownBlock = some k
def RdAt (w : World) (b : Nat) (s : Bytes) (lim : Lim) (x : St) (F : Nat → Prop) : Prop := ∃ vo, RdRep w b s lim x vo ∧ F = rfoot b vo
section
variable {w w' : World} {b : Nat} {s : Bytes} {lim : Lim} {x y : St} {vo : Value}
theorem RdRep.keep (h : RdRep w b s lim x vo) (hk : ∀ k, rfoot b vo k → w'.heap[k]? = w.heap[k]?) : RdRep w' b s lim x vo :=
  ⟨h.rd.keep (hk b (.inl rfl)), h.out.keep (fun k e => hk k (.inr e)), h.ob⟩
theorem RdRep.footLt (h : RdRep w b s lim x vo) : ∀ k, rfoot b vo k → k < w.heap.size := by
  rintro k (rfl | hk)
  · exact h.rd.lt
  · exact h.out.lt hk
theorem RdRep.same (h : RdRep w b s lim x vo) (hs : Same w w') : RdRep w' b s lim x vo := h.keep fun k hk => hs.block k (h.footLt k hk) (fun x => x)
theorem RdRep.alloc (h : RdRep w b s lim x vo) (o : Obj) : RdRep (w.alloc o) b s lim x vo := h.keep fun k hk => Below.heap_alloc w o k (h.footLt k hk)
theorem RdRep.drewN (h : RdRep w b s lim x vo) (n : Nat) : RdRep (w.drewN n) b s lim x vo := h.keep fun _ _ => rfl
theorem RdRep.step (h : RdRep w b s lim x vo) (hr : Rd w' b 94 s lim y (.slice none 0 0) [vo]) (hf : Fr (It b) w w') (ho : y.out = x.out) : RdRep w' b s lim y vo :=
  ⟨hr, by rw [ho]; exact h.out.fr hf (fun k hk e => h.ob k hk (by rw [show k = b from e])), h.ob⟩
theorem It.foot (hf : Fr (It b) w w') : Fr (rfoot b vo) w w' := hf.mono fun _ e => .inl e
theorem RdRep.cell11 (h : RdRep w b s lim x vo) : w.cell? ⟨b, 11, none⟩ = some vo := cellOf h.rd.blk 11 (by simp [rdCells])
def RAfter (w w' : World) (b : Nat) (s : Bytes) (lim : Lim) (x : St) (a : Atom) (vo : Value) : Prop :=
  ∃ vo', RdRep w' b s lim { x with out := x.out ++ [a] } vo' ∧ Fr (rfoot b vo) w w' ∧ Fresh w (rfoot b vo) (rfoot b vo')
theorem RdRep.afterOut (h : RdRep w b s lim x vo) {g cap : Nat} {a : Atom}
    (hown : w'.ownsRow 0 72 3 (.slice (some ⟨g, 0, none⟩) (x.out.length + 1) cap) (x.out.length + 1) (x.out.flatMap cAtom ++ cAtom a))
    (hg : w.grownBy w' vo.ownBlock) (hat : vo.ownBlock = some g ∨ w.heap.size ≤ g) :
    RAfter w (w'.setCell ⟨b, 11, none⟩ (.slice (some ⟨g, 0, none⟩) (x.out.length + 1) cap)) b s lim x a vo := by
  have hgb : g ≠ b := by rcases hat with e | e; exact fun x => h.ob g e (by rw [x]); have := h.rd.lt; omega
  have hb' : Rd w' b 94 s lim x (.slice none 0 0) [vo] := h.rd.keep (hg.block b h.rd.lt (fun e => h.ob b e.symm rfl))
  refine ⟨.slice (some ⟨g, 0, none⟩) (x.out.length + 1) cap, ⟨hb'.set 11 _ { x with out := x.out ++ [a] } _ _ (by simp [rdCells]), ?_, ?_⟩, ((Fr.refl _ w).grown hg (fun k e => .inl (.inr e))).setCell (.inl (.inl rfl)) _, ?_⟩
  · exact (owns_append hown).setCell (p := ⟨b, 11, none⟩) (by simpa [Value.ownBlock] using hgb) _
  · intro k hk; simp [Value.ownBlock] at hk; subst hk; simpa using Ne.symm hgb
  · rintro k (rfl | hk)
    · exact .inl (.inl rfl)
    · simp only [Value.ownBlock, Option.some.injEq] at hk
      subst hk
      rcases hat with e | e
      · exact .inl (.inr e)
      · exact .inr e
end

theorem grown_cell1 {w w1 : World} {o : Obj} {row : Option Nat} (hg : (w.alloc o).grownBy w1 row) {a : Addr} {v : Value} (hc : w.cell? a = some v) (hne : row ≠ some a.block) : w1.cell? a = some v :=
  hg.cell (show (w.alloc o).cell? a = some v from cell_alloc hc) (Ne.symm hne)
theorem grown_free1 {w w1 : World} {o : Obj} {row : Option Nat} (hg : (w.alloc o).grownBy w1 row) {a : Addr} {v : Value} (hc : w.cell? a = some v) (hf : w.frozen? a = false) (hne : row ≠ some a.block) : w1.frozen? a = false :=
  (World.frozen?_of_block (hg.block a.block (by have := World.block_lt_of_cell? w a hc; simp; omega) (Ne.symm hne))).trans ((frozen_alloc_some (w := w) (o := o) (by simp [hc])).trans hf)
/-! Between two items -/
structure Good (s : Bytes) (lim : Lim) (x : St) (p k : Nat) : Prop where
  ps : p ≤ s.length
  pb : (p : Int) ≤ lim.b
  err : x.err = 0
  taken : x.taken = p
  ended : x.ended = false
  deep : ((x.frames + k : Nat) : Int) = lim.d
  out : (x.out.length : Int) ≤ lim.i
def dummy : Cf.Fm := ⟨0, 0, 0, 0, 0, 0, [], false⟩
theorem Good.sim {s : Bytes} {lim : Lim} {x : St} {p k : Nat} (h : Good s lim x p k) : Sim s lim x p { Cf.init lim with text := s.take p, out := x.out, stack := List.replicate x.frames dummy } k :=
  ⟨⟨rfl, rfl, h.ps, h.pb, rfl, h.err, h.taken, by simp, h.ended⟩, rfl, rfl, by simpa using h.deep⟩
theorem Good.item {s : Bytes} {lim : Lim} {x y : St} {p k q : Nat} (hm : lim.may = true) (h : Good s lim x p k) (e : item s lim k x p = (some q, y)) : Good s lim y q k := by
  have := item_sim (s := s) hm k x p _ h.sim h.out
  rw [e] at this
  obtain ⟨i1, i2, i3, i4, _⟩ := this
  exact ⟨i1.qs, i1.qb, i1.err, i1.taken, i1.ended, by rw [i1.frames]; exact h.deep, i3⟩
theorem Good.head {s : Bytes} {lim : Lim} {x y : St} {p k kk n q : Nat} (h : Good s lim x p k) (e : R7.head s lim x p = (some (kk, n, q), y)) :
    Moved s lim x p y q ∧ p < q ∧ y.out = x.out ∧ n < 18446744073709551616 ∧ kk < 8 ∧ (x.out.length : Int) < lim.i := by
  have := head_sim h.sim.toAt rfl rfl h.out
  rw [e] at this
  obtain ⟨a, b, c, d, e, f, _⟩ := this
  exact ⟨a, b, c, d, e, f⟩
/-- Bytes that are wanted one by one. -/
theorem wantN_keeps (s : Bytes) (lim : Lim) : ∀ (m : Nat) (x : St) (p : Nat), (wantN s lim m x p).2.out = x.out ∧ (wantN s lim m x p).2.frames = x.frames
  | 0, x, p => ⟨rfl, rfl⟩
  | m + 1, x, p => by
    unfold wantN
    have hw : (want s lim x p).2.out = x.out ∧ (want s lim x p).2.frames = x.frames := by
      unfold want; repeat' split
      all_goals exact ⟨rfl, rfl⟩
    cases h : want s lim x p with
    | mk b y =>
      rw [h] at hw
      cases b
      · exact hw
      · obtain ⟨a, c⟩ := wantN_keeps s lim m y (p + 1)
        exact ⟨a.trans hw.1, c.trans hw.2⟩
theorem want_true {s : Bytes} {lim : Lim} {x y : St} {p : Nat} (h : want s lim x p = (true, y)) : p < s.length ∧ (p : Int) < lim.b ∧ y = take x (p + 1) := by
  unfold want at h
  by_cases h1 : p < s.length ∧ (p : Int) < lim.b
  · rw [if_pos h1] at h
    simp only [Prod.mk.injEq, true_and] at h
    exact ⟨h1.1, h1.2, h.symm⟩
  · rw [if_neg h1] at h
    split at h <;> simp at h
theorem want_out (s : Bytes) (lim : Lim) (x : St) (p : Nat) : (want s lim x p).2.out = x.out := by
  unfold want; repeat' split
  all_goals rfl
theorem wantN_true {s : Bytes} {lim : Lim} : ∀ {m : Nat} {x y : St} {p : Nat}, wantN s lim m x p = (true, y) → p ≤ s.length → p + m ≤ s.length
  | 0, _, _, _, _, hp => hp
  | m + 1, x, y, p, h, hp => by
    unfold wantN at h
    cases hw : want s lim x p with
    | mk b z =>
      rw [hw] at h
      cases b
      · simp at h
      · have := want_true hw
        have := wantN_true (m := m) h (by omega)
        omega

/-! What the reader's functions hand back -/
def itemV : Option Nat → Value
  | none => .tuple #[.int .i64 0, .bool false]
  | some q => .tuple #[.int .i64 (q : Nat), .bool true]
def headV : Option (Nat × Nat × Nat) → Value
  | none => .tuple #[.int .i64 0, .int .u64 0, .int .i64 0, .bool false]
  | some (k, n, q) => .tuple #[.int .i64 (k : Nat), .int .u64 (n : Nat), .int .i64 (q : Nat), .bool true]
def Did (w : World) (b : Nat) (s : Bytes) (lim : Lim) (F : Nat → Prop) (y : St) (w' : World) : Prop := ∃ F', RdAt w' b s lim y F' ∧ Fr F w w' ∧ Fresh w F F'
theorem Did.trans {w w1 w2 : World} {b : Nat} {s : Bytes} {lim : Lim} {F F1 : Nat → Prop} {z : St} (h : Fr F w w1) (hn : Fresh w F F1) (k : Did w1 b s lim F1 z w2) : Did w b s lim F z w2 := by
  obtain ⟨F2, k1, k2, k3⟩ := k
  exact ⟨F2, k1, h.step hn k2, Fresh.trans hn h.size k3⟩
/-- What item does, at so many levels. -/
def ItemC (s : Bytes) (lim : Lim) (k : Nat) : Prop := ∀ (b p dp : Nat) (x : St) (F : Nat → Prop) (w : World), RdAt w b s lim x F → Good s lim x p k → ((dp + k : Nat) : Int) = lim.d →
  Calls Tryd.prog 46 #[.pointer (some ⟨b, 0, none⟩), .int .i64 (p : Nat), .int .i64 (dp : Nat)] w fun r w' => r = .returned (itemV (item s lim k x p).1) ∧ Did w b s lim F (item s lim k x p).2 w'

set_option maxRecDepth 100000 in
set_option maxHeartbeats 2000000 in
theorem items_any (s : Bytes) (lim : Lim) (k : Nat) (hm : lim.may = true) (hI : ItemC s lim k) (b p n dp : Nat) (x : St) (F : Nat → Prop) (w : World) (h : RdAt w b s lim x F) (hg : Good s lim x p k) (hd : ((dp + k : Nat) : Int) = lim.d) (hn : n < 18446744073709551616) :
    Calls Tryd.prog 59 #[.pointer (some ⟨b, 0, none⟩), .int .i64 (p : Nat), .int .u64 (n : Nat), .int .i64 (dp : Nat)] w fun r w' => r = .returned (itemV (itemsN (item s lim k) n x p).1) ∧ Did w b s lim F (itemsN (item s lim k) n x p).2 w' := by
  have H := Px.hid (And.intro h (And.intro hg hd))
  have HNB := Px.hid hn
  clear hn
  clear h hg hd
  go_enter Tryd.func59, Tryd.ntmps59
  go_wp2
  go_loopw [1, 10] (fun a i wr => ∃ j q y F1, j ≤ n ∧ i = .int .u64 (j : Nat) ∧ a = .int .i64 (q : Nat) ∧ Hid (RdAt wr b s lim y F1 ∧ Good s lim y q k ∧ Fr F w wr ∧ Fresh w F F1 ∧ itemsN (item s lim k) n x p = itemsN (item s lim k) (n - j) y q)) (fun _ i _ => n - (intOf i).toNat)
  case atStart => exact ⟨0, p, x, F, Nat.zero_le _, rfl, rfl, Px.hid ⟨H.out.1, H.out.2.1, Fr.refl _ _, Fresh.refl _ _, rfl⟩⟩
  case round =>
    obtain ⟨j, q, y, F1, hj, rfl, rfl, HR⟩ := hrel
    have HD := Px.hid H.out.2.2
    clear H
    by_cases hlt : j < n
    · have hltz : (j : Int) < (n : Int) := by omega
      have hwj : IntKind.u64.wrap ((j : Int) + 1) = (j : Int) + 1 := IntWalk.u64_in _ ⟨by omega, by have := HNB.out; omega⟩
      have e1 : n - j = (n - (j + 1)) + 1 := by omega
      have HE := Px.hid HR.out.2.2.2.2
      rw [e1] at HE
      clear e1
      go_wp2_with fail
      refine (hI b q dp y F1 _ HR.out.1 HR.out.2.1 HD.out).mono ?_
      rintro e w1 ⟨rfl, hd⟩
      cases hr : item s lim k y q with
      | mk o z =>
        rw [hr] at hd
        cases o with
        | none =>
          have HN := Px.hid (show itemsN (item s lim k) n x p = (none, z) by rw [HE.out]; unfold itemsN; rw [hr])
          have HDD := Px.hid (Did.trans HR.out.2.2.1 HR.out.2.2.2.1 hd)
          clear hr hd
          unfold itemV
          go_wp2
          go_ret2
          rw [HN.out]
          exact ⟨rfl, HDD.out⟩
        | some r =>
          have HN := Px.hid (show itemsN (item s lim k) n x p = itemsN (item s lim k) (n - (j + 1)) z r by rw [HE.out]; conv => lhs; unfold itemsN; rw [hr])
          have HG := Px.hid (HR.out.2.1.item hm hr)
          have HDD := Px.hid hd
          clear hr hd
          unfold itemV
          go_wp2
          go_roundw
          case rel =>
            obtain ⟨F2, k1, k2, k3⟩ := HDD.out
            exact ⟨j + 1, r, z, F2, by omega, by go_num, rfl, Px.hid ⟨k1, HG.out, HR.out.2.2.1.step HR.out.2.2.2.1 k2, Fresh.trans HR.out.2.2.2.1 HR.out.2.2.1.size k3, HN.out⟩⟩
          case measure => simp [intOf]; omega
    · have hltz : ¬ (j : Int) < (n : Int) := by omega
      have HE := Px.hid (show itemsN (item s lim k) n x p = (some q, y) by rw [HR.out.2.2.2.2, show n - j = 0 by omega]; rfl)
      go_wp2
      go_ret2
      rw [HE.out]
      exact ⟨rfl, F1, HR.out.1, HR.out.2.2.1, HR.out.2.2.2.1⟩
set_option maxRecDepth 100000 in
set_option maxHeartbeats 4000000 in
theorem pairs_any (s : Bytes) (lim : Lim) (k : Nat) (hm : lim.may = true) (hs : s.length ≤ maxLen) (hI : ItemC s lim k) (b p n dp : Nat) (x : St) (F : Nat → Prop) (w : World) (h : RdAt w b s lim x F) (hg : Good s lim x p k) (hd : ((dp + k : Nat) : Int) = lim.d) (hn : n < 18446744073709551616) :
    Calls Tryd.prog 60 #[.pointer (some ⟨b, 0, none⟩), .int .i64 (p : Nat), .int .u64 (n : Nat), .int .i64 (dp : Nat)] w fun r w' => r = .returned (itemV (pairsN s (item s lim k) n none x p).1) ∧ Did w b s lim F (pairsN s (item s lim k) n none x p).2 w' := by
  have H := Px.hid (And.intro h (And.intro hg hd))
  have HNB := Px.hid hn
  clear hn
  have hsz : (ByteArray.mk s.toArray).size = s.length := size_S s
  have HLEN := Px.hid hs
  clear h hg hd hs
  go_enter Tryd.func60, Tryd.ntmps60
  go_wp2
  go_loopw [1, 10, 11] (fun a la i wr => ∃ j q y F1 l, j ≤ n ∧ i = .int .u64 (j : Nat) ∧ a = .int .i64 (q : Nat) ∧ la = S l ∧ Hid (RdAt wr b s lim y F1 ∧ Good s lim y q k ∧ Fr F w wr ∧ Fresh w F F1 ∧ pairsN s (item s lim k) n none x p = pairsN s (item s lim k) (n - j) (if j = 0 then none else some l) y q)) (fun _ _ i _ => n - (intOf i).toNat)
  case atStart => exact ⟨0, p, x, F, [], Nat.zero_le _, rfl, rfl, rfl, Px.hid ⟨H.out.1, H.out.2.1, Fr.refl _ _, Fresh.refl _ _, rfl⟩⟩
  case round =>
    obtain ⟨j, q, y, F1, l, hj, rfl, rfl, rfl, HR⟩ := hrel
    have HD := Px.hid H.out.2.2
    clear H
    by_cases hlt : j < n
    · have hltz : (j : Int) < (n : Int) := by omega
      have hwj : IntKind.u64.wrap ((j : Int) + 1) = (j : Int) + 1 := IntWalk.u64_in _ ⟨by omega, by have := HNB.out; omega⟩
      have e1 : n - j = (n - (j + 1)) + 1 := by omega
      have HE := Px.hid HR.out.2.2.2.2
      rw [e1] at HE
      clear e1
      go_wp2_with fail
      refine (hI b q dp y F1 _ HR.out.1 HR.out.2.1 HD.out).mono ?_
      rintro e w1 ⟨rfl, hd⟩
      cases hr : item s lim k y q with
      | mk o z =>
        rw [hr] at hd
        cases o with
        | none =>
          have HN := Px.hid (show pairsN s (item s lim k) n none x p = (none, z) by rw [HE.out]; unfold pairsN; rw [hr])
          have HDD := Px.hid (Did.trans HR.out.2.2.1 HR.out.2.2.2.1 hd)
          clear hr hd
          unfold itemV
          go_wp2
          go_ret2
          rw [HN.out]
          exact ⟨rfl, HDD.out⟩
        | some r =>
          have hgood := HR.out.2.1.item hm hr
          have hqr : q ≤ r := by
            have := item_sim (s := s) hm k y q _ HR.out.2.1.sim HR.out.2.1.out
            rw [hr] at this
            exact this.1.le
          have hrs := hgood.ps
          have hsl : ∀ w, (Instr.slice 9 (S s) (some (.int .i64 (q : Int))) (some (.int .i64 (r : Int))) none).run Tryd.prog w = .ok (S ((s.take r).drop q)) w := fun w => slice_S s q r hqr hrs w
          have HE := Px.hid (show pairsN s (item s lim k) n none x p = (if (if j = 0 then none else some l).any (fun l => leB ((s.take r).drop q) l) then (none, fault z q 9) else match item s lim k z r with
            | (none, z) => (none, z)
            | (some t, z) => pairsN s (item s lim k) (n - (j + 1)) (some ((s.take r).drop q)) z t) by
              rw [HE.out]; conv => lhs; unfold pairsN; rw [hr]
              rfl)
          obtain ⟨F2, d1, d2, d3⟩ := hd
          obtain ⟨vo, rep, rfl⟩ := d1
          have HG := Px.hid hgood
          have HRP := Px.hid (And.intro rep (And.intro (HR.out.2.2.1.step HR.out.2.2.2.1 d2) (Fresh.trans HR.out.2.2.2.1 HR.out.2.2.1.size d3)))
          have c0 := rep.rd.cells.1
          clear hr rep d2 d3 hgood HR
          unfold itemV
          obtain ⟨key, hkey⟩ : ∃ key, key = (s.take r).drop q := ⟨_, rfl⟩
          rw [← hkey] at HE hsl
          clear hkey
          by_cases hj0 : j = 0
          · have hz : ¬ (0 : Int) < (j : Int) := by omega
            have HE := Px.hid (HE.out.trans (by rw [if_pos hj0]; rfl) : _ = (match item s lim k z r with
            | (none, z) => (none, z)
            | (some t, z) => pairsN s (item s lim k) (n - (j + 1)) (some key) z t))
            clear hj0
            go_wp2_with fail
            refine (hI b r dp z _ _ ⟨_, HRP.out.1, rfl⟩ HG.out HD.out).mono ?_
            rintro e w2 ⟨rfl, hd⟩
            cases hr2 : item s lim k z r with
            | mk o2 z2 =>
              rw [hr2] at hd
              rw [hr2] at HE
              cases o2 with
              | none =>
                have HN := Px.hid (HE.out)
                have HDD := Px.hid (Did.trans HRP.out.2.1 HRP.out.2.2 hd)
                clear hr2 hd
                unfold itemV
                go_wp2
                go_ret2
                rw [HN.out]
                exact ⟨rfl, HDD.out⟩
              | some t =>
                have HG2 := Px.hid (HG.out.item hm hr2)
                have HDD := Px.hid hd
                clear hr2 hd
                unfold itemV
                go_wp2
                go_roundw
                case rel =>
                  obtain ⟨F2, k1, k2, k3⟩ := HDD.out
                  exact ⟨j + 1, t, z2, F2, key, by omega, by go_num, rfl, rfl, Px.hid ⟨k1, HG2.out, HRP.out.2.1.step HRP.out.2.2 k2, Fresh.trans HRP.out.2.2 HRP.out.2.1.size k3, HE.out.trans (by rw [if_neg (Nat.succ_ne_zero j)])⟩⟩
                case measure => simp [intOf]; omega
          · have hz : (0 : Int) < (j : Int) := by omega
            have HE := Px.hid (HE.out.trans (by rw [if_neg hj0]; rfl) : _ = (if leB key l = true then (none, fault z q 9) else match item s lim k z r with
            | (none, z) => (none, z)
            | (some t, z) => pairsN s (item s lim k) (n - (j + 1)) (some key) z t))
            clear hj0
            by_cases hle : leB key l = true
            · have HN := Px.hid (HE.out.trans (if_pos hle))
              simp only [leB] at hle
              clear HE
              go_wp2_with fail
              refine (xfault_any b _ q 9 s lim z _ _ _ HRP.out.1.rd).mono ?_
              rintro e w2 ⟨rfl, hr, hf⟩
              have HX := Px.hid (And.intro (HRP.out.1.step hr hf rfl) (It.foot (vo := vo) hf))
              clear hr hf
              go_wp2
              go_ret2
              rw [HN.out]
              exact ⟨rfl, _, ⟨_, HX.out.1, rfl⟩, HRP.out.2.1.step HRP.out.2.2 HX.out.2, HRP.out.2.2⟩
            · have HE := Px.hid (HE.out.trans (if_neg hle))
              have hle' : (Op.bytesLess key l || key == l) = false := by
                simp only [leB] at hle
                exact Bool.eq_false_iff.2 hle
              clear hle
              go_wp2_with fail
              refine (hI b r dp z _ _ ⟨_, HRP.out.1, rfl⟩ HG.out HD.out).mono ?_
              rintro e w2 ⟨rfl, hd⟩
              cases hr2 : item s lim k z r with
              | mk o2 z2 =>
                rw [hr2] at hd
                rw [hr2] at HE
                cases o2 with
                | none =>
                  have HN := Px.hid (HE.out)
                  have HDD := Px.hid (Did.trans HRP.out.2.1 HRP.out.2.2 hd)
                  clear hr2 hd
                  unfold itemV
                  go_wp2
                  go_ret2
                  rw [HN.out]
                  exact ⟨rfl, HDD.out⟩
                | some t =>
                  have HG2 := Px.hid (HG.out.item hm hr2)
                  have HDD := Px.hid hd
                  clear hr2 hd
                  unfold itemV
                  go_wp2
                  go_roundw
                  case rel =>
                    obtain ⟨F2, k1, k2, k3⟩ := HDD.out
                    exact ⟨j + 1, t, z2, F2, key, by omega, by go_num, rfl, rfl, Px.hid ⟨k1, HG2.out, HRP.out.2.1.step HRP.out.2.2 k2, Fresh.trans HRP.out.2.2 HRP.out.2.1.size k3, HE.out.trans (by rw [if_neg (Nat.succ_ne_zero j)])⟩⟩
                  case measure => simp [intOf]; omega
    · have hltz : ¬ (j : Int) < (n : Int) := by omega
      have HE := Px.hid (show pairsN s (item s lim k) n none x p = (some q, y) by rw [HR.out.2.2.2.2, show n - j = 0 by omega]; rfl)
      go_wp2
      go_ret2
      rw [HE.out]
      exact ⟨rfl, F1, HR.out.1, HR.out.2.2.1, HR.out.2.2.2.1⟩
end Go.Proofs.YtclbbfmpkhfigaaDoor

/-! The walk over the reference's head (layer 17). -/
namespace Go.Proofs.YtclbbfmpkhfigaaDoor
open Go.RowKit Go.Px Go.Px.R7

theorem wd0 (w : World) : (Instr.index 122 (.agg #[.int .i64 1, .int .i64 2, .int .i64 4, .int .i64 8]) (.int .i64 0)).run Tryd.prog w = .ok (.int .i64 1) w := by kernel_rfl
theorem wd1 (w : World) : (Instr.index 122 (.agg #[.int .i64 1, .int .i64 2, .int .i64 4, .int .i64 8]) (.int .i64 1)).run Tryd.prog w = .ok (.int .i64 2) w := by kernel_rfl
theorem wd2 (w : World) : (Instr.index 122 (.agg #[.int .i64 1, .int .i64 2, .int .i64 4, .int .i64 8]) (.int .i64 2)).run Tryd.prog w = .ok (.int .i64 4) w := by kernel_rfl
theorem wd3 (w : World) : (Instr.index 122 (.agg #[.int .i64 1, .int .i64 2, .int .i64 4, .int .i64 8]) (.int .i64 3)).run Tryd.prog w = .ok (.int .i64 8) w := by kernel_rfl
theorem widths (a : Nat) (h1 : 24 ≤ a) (h2 : a ≤ 27) (w : World) :
    (Instr.index 122 (.agg #[.int .i64 1, .int .i64 2, .int .i64 4, .int .i64 8]) (.int .i64 ((a : Int) - 24))).run Tryd.prog w = .ok (.int .i64 ((2 ^ (a - 24) : Nat) : Int)) w := by
  have ha : a = 24 ∨ a = 25 ∨ a = 26 ∨ a = 27 := by omega
  rcases ha with rfl | rfl | rfl | rfl
  · exact wd0 w
  · exact wd1 w
  · exact wd2 w
  · exact wd3 w
theorem head_small (s : Bytes) (lim : Lim) (x y : St) (p c : Nat) (hw : want s lim x p = (true, y)) (hc : (s.getD p 0).toNat = c) :
    R7.head s lim x p = if lim.i ≤ y.out.length then (none, fault y p 10) else if 27 < c % 32 then (none, fault y p 9) else if c / 32 == 7 && (decide (c % 32 < 20) || decide (23 < c % 32)) then (none, fault y p 11) else if c % 32 < 24 then (some (c / 32, c % 32, p + 1), y)
      else match argN s lim (2 ^ (c % 32 - 24)) y (p + 1) 0 with
        | (none, z) => (none, z)
        | (some n, z) => if (headB (c / 32) n).length = 2 ^ (c % 32 - 24) + 1 then (some (c / 32, n, p + 1 + 2 ^ (c % 32 - 24)), z) else (none, fault z p 9) := by
  unfold R7.head
  rw [hw]
  simp only [hc]
  rfl

set_option maxRecDepth 100000 in
set_option maxHeartbeats 4000000 in
theorem rhead_any (s : Bytes) (lim : Lim) (hm : lim.may = true) (hs : s.length ≤ 140737488355327) (b p : Nat) (x : St) (vo : Value) (w : World) (h : RdRep w b s lim x vo) (hp : p ≤ s.length) (hol : x.out.length ≤ 1000000) :
    Calls Tryd.prog 58 #[.pointer (some ⟨b, 0, none⟩), .int .i64 (p : Nat)] w fun r w' => r = .returned (headV (R7.head s lim x p).1) ∧ RdRep w' b s lim (R7.head s lim x p).2 vo ∧ Fr (rfoot b vo) w w' := by
  have hmay := Cf.may_of hm
  have hml : s.length ≤ maxLen := by unfold maxLen; omega
  have HM := Px.hid (And.intro hml (And.intro hmay.2.2.2.2.1 hmay.2.2.2.2.2.1))
  have hw0 := want_any b _ p s lim x _ _ w h.rd hml hmay.2.2.2.2.1 hmay.2.2.2.2.2.1 (Nat.le_trans hp hml)
  have H := Px.hid h
  clear h hml hmay
  cases hwt : want s lim x p with
  | mk wb y =>
    have hyo := want_out s lim x p
    rw [hwt] at hw0 hyo
    have HW := Px.hid hw0
    clear hw0
    cases wb with
    | false =>
      have HR := Px.hid (show R7.head s lim x p = (none, y) by unfold R7.head; rw [hwt])
      have HYO := Px.hid hyo
      clear hwt hyo
      go_enter Tryd.func58, Tryd.ntmps58
      go_wp2_with fail
      refine HW.out.mono ?_
      rintro e w1 ⟨rfl, hr, hf⟩
      have HX := Px.hid (And.intro (H.out.step hr hf HYO.out) (It.foot (vo := vo) hf))
      clear hr hf
      go_wp2
      refine bodyPost_ret (v := headV none) (by simp [results, Tryd.results58, go_sem, headV]) rfl ?_
      rw [HR.out]
      exact ⟨rfl, HX.out.1, HX.out.2⟩
    | true =>
      obtain ⟨hps, hpb, hyt⟩ := want_true hwt
      clear hyt
      obtain ⟨c, hc⟩ : ∃ c, c = (s.getD p 0).toNat := ⟨_, rfl⟩
      have hcb : c < 256 := by rw [hc]; exact UInt8.toNat_lt _
      have hix : ∀ w, (Instr.index 9 (S s) (.int .i64 (p : Nat))).run Tryd.prog w = .ok (.int .u8 (c : Nat)) w := fun w => by rw [hc]; exact idx_S s p hps w
      have HR := Px.hid (head_small s lim x y p c hwt hc.symm)
      have HYO := Px.hid hyo
      have HC := Px.hid hc
      have hol2 : y.out.length ≤ 1000000 := by rw [hyo]; exact hol
      clear hwt hyo hc hol
      obtain ⟨k, hk⟩ : ∃ k, k = c / 32 := ⟨_, rfl⟩
      obtain ⟨a, ha⟩ : ∃ a, a = c % 32 := ⟨_, rfl⟩
      have hq : (c : Int) / 32 = (k : Int) := by omega
      have hmd : (c : Int) % 32 = (a : Int) := by omega
      have hk8 : k < 8 := by omega
      have ha32 : a < 32 := by omega
      rw [← hk, ← ha] at HR
      clear hk ha
      go_enter Tryd.func58, Tryd.ntmps58
      go_wp2_with fail
      refine HW.out.mono ?_
      rintro e w1 ⟨rfl, hr, hf⟩
      have hx := H.out.step hr hf HYO.out
      have HX := Px.hid (And.intro hx (It.foot (vo := vo) hf))
      clear hr hf HW H
      obtain ⟨oa, oc, hov, _⟩ := hx.out.len
      have c11 : w1.cell? ⟨b, 11, none⟩ = some (.slice oa y.out.length oc) := by rw [← hov]; exact hx.cell11
      obtain ⟨c0, _, c2, _, _, _, _, _, _⟩ := hx.rd.cells
      clear hx hov
      rcases Bool.eq_false_or_eq_true (decide (lim.i ≤ (y.out.length : Int))) with hd | hd
      · have HR := Px.hid (HR.out.trans (if_pos (of_decide_eq_true hd)))
        go_wp2_with fail
        go_quiet (fail)
        go_wp2_with fail
        refine (xfault_any b _ p 10 s lim y _ _ _ (HX.out.1.rd.drewN nq)).mono ?_
        rintro e w2 ⟨rfl, hr, hf⟩
        have HY := Px.hid (And.intro ((HX.out.1.drewN nq).step hr hf rfl) ((HX.out.2.drewN nq).trans (It.foot (vo := vo) hf) (fun _ _ h => h)))
        clear hr hf
        go_wp2
        refine bodyPost_ret (v := headV none) (by simp [results, Tryd.results58, go_sem, headV]) rfl ?_
        rw [HR.out]
        exact ⟨rfl, HY.out.1, HY.out.2⟩
      · have HR := Px.hid (HR.out.trans (if_neg (of_decide_eq_false hd)))
        go_wp2_with fail
        go_quiet (fail)
        have HX := Px.hid (And.intro (HX.out.1.drewN nq) (HX.out.2.drewN nq))
        obtain ⟨WX, hWX⟩ : ∃ WX, WX = w1.drewN nq := ⟨_, rfl⟩
        rw [← hWX] at HX ⊢
        clear hWX c0 c2 c11
        have c0 := HX.out.1.rd.cells.1
        by_cases h27 : 27 < a
        · have HR := Px.hid (HR.out.trans (if_pos h27))
          have z27 : (27 : Int) < a := by omega
          go_wp2_with fail
          refine (xfault_any b _ p 9 s lim y _ _ _ HX.out.1.rd).mono ?_
          rintro e w2 ⟨rfl, hr, hf⟩
          have HY := Px.hid (And.intro (HX.out.1.step hr hf rfl) (HX.out.2.trans (It.foot (vo := vo) hf) (fun _ _ h => h)))
          clear hr hf
          go_wp2
          refine bodyPost_ret (v := headV none) (by simp [results, Tryd.results58, go_sem, headV]) rfl ?_
          rw [HR.out]
          exact ⟨rfl, HY.out.1, HY.out.2⟩
        · have HR := Px.hid (HR.out.trans (if_neg h27))
          have z27 : ¬ (27 : Int) < a := by omega
          by_cases h7 : (k == 7 && (decide (a < 20) || decide (23 < a))) = true
          · have HR := Px.hid (HR.out.trans (if_pos h7))
            simp only [Bool.and_eq_true, beq_iff_eq, Bool.or_eq_true, decide_eq_true_eq] at h7
            obtain ⟨h7a, h7b⟩ := h7
            have zk : ((k : Int) == 7) = true := by simp; omega
            have HK := Px.hid h7a
            clear h7a
            rcases Nat.lt_or_ge a 20 with h20 | h20
            · have z20 : (a : Int) < 20 := by omega
              clear h7b
              go_wp2_with fail
              refine (xfault_any b _ p 11 s lim y _ _ _ HX.out.1.rd).mono ?_
              rintro e w2 ⟨rfl, hr, hf⟩
              have HY := Px.hid (And.intro (HX.out.1.step hr hf rfl) (HX.out.2.trans (It.foot (vo := vo) hf) (fun _ _ h => h)))
              clear hr hf
              go_wp2
              refine bodyPost_ret (v := headV none) (by simp [results, Tryd.results58, go_sem, headV]) rfl ?_
              rw [HR.out]
              exact ⟨rfl, HY.out.1, HY.out.2⟩
            · have z20 : ¬ (a : Int) < 20 := by omega
              have z23 : (23 : Int) < a := by omega
              clear h7b
              go_wp2_with fail
              refine (xfault_any b _ p 11 s lim y _ _ _ HX.out.1.rd).mono ?_
              rintro e w2 ⟨rfl, hr, hf⟩
              have HY := Px.hid (And.intro (HX.out.1.step hr hf rfl) (HX.out.2.trans (It.foot (vo := vo) hf) (fun _ _ h => h)))
              clear hr hf
              go_wp2
              refine bodyPost_ret (v := headV none) (by simp [results, Tryd.results58, go_sem, headV]) rfl ?_
              rw [HR.out]
              exact ⟨rfl, HY.out.1, HY.out.2⟩
          · have HR := Px.hid (HR.out.trans (if_neg h7))
            have h7' : k = 7 → 20 ≤ a ∧ a ≤ 23 := by
              intro e
              simp only [Bool.and_eq_true, beq_iff_eq, Bool.or_eq_true, decide_eq_true_eq, not_and, not_or] at h7
              have := h7 e
              omega
            clear h7
            have hk7 : (((k : Int) == 7) = false) ∨ (((k : Int) == 7) = true ∧ ¬ (a : Int) < 20 ∧ ¬ (23 : Int) < a) := by
              by_cases e : k = 7
              · have := h7' e
                exact .inr ⟨by simp; omega, by omega, by omega⟩
              · exact .inl (by simp; omega)
            clear h7'
            by_cases h24 : a < 24
            · have HR := Px.hid (HR.out.trans (if_pos h24))
              have z24 : (a : Int) < 24 := by omega
              rcases hk7 with zk | ⟨zk, z20, z23⟩
              all_goals
                go_wp2
                refine bodyPost_ret (v := headV (some (k, a, p + 1))) (by simp [results, Tryd.results58, go_sem, headV]) rfl ?_
                rw [HR.out]
                exact ⟨rfl, HX.out.1, HX.out.2⟩
            · have HR := Px.hid (HR.out.trans (if_neg h24))
              have z24 : ¬ (a : Int) < 24 := by omega
              have hwd := widths a (by omega) (by omega)
              have hw8 := Cf.two_pow_le a (by omega)
              have hw1 := Nat.one_le_two_pow (n := a - 24)
              obtain ⟨W, hW⟩ : ∃ W, W = 2 ^ (a - 24) := ⟨_, rfl⟩
              rw [← hW] at hwd hw8 hw1 HR
              clear hW h24
              have zk : ((k : Int) == 7) = false := by
                rcases hk7 with zk | ⟨_, _, z⟩
                · exact zk
                · omega
              clear hk7
              go_wp2_with fail
              go_loopw [11, 12] (fun nn i wr => ∃ j n z, 1 ≤ j ∧ j ≤ W + 1 ∧ i = .int .i64 (j : Nat) ∧ nn = .int .u64 (n : Nat) ∧ Hid (n < 256 ^ (j - 1) ∧ z.out.length ≤ 1000000 ∧ RdRep wr b s lim z vo ∧ Fr (rfoot b vo) w wr ∧ argN s lim W y (p + 1) 0 = argN s lim (W + 1 - j) z (p + j) n)) (fun _ i _ => W + 1 - (intOf i).toNat)
              case atStart => exact ⟨1, 0, y, Nat.le_refl _, by omega, rfl, rfl, Px.hid ⟨by simp, hol2, HX.out.1, HX.out.2, by rw [Nat.add_sub_cancel]⟩⟩
              case round =>
                clear c0 HX
                obtain ⟨j, n, z, hj1, hj2, rfl, rfl, HZ⟩ := hrel
                obtain ⟨hn, hzl, hz, hzf, harg⟩ := HZ.out
                have c0 := hz.rd.cells.1
                by_cases hlt : j ≤ W
                · have hltz : (j : Int) ≤ (W : Int) := by omega
                  have hn7 : n < 72057594037927936 := Nat.lt_of_lt_of_le hn (by have : 256 ^ (j - 1) ≤ 256 ^ 7 := Nat.pow_le_pow_right (by omega) (by omega); simpa using this)
                  have hpj : ((p + j : Nat) : Int) = (p : Int) + j := by omega
                  have hw0 := want_any b _ (p + j) s lim z _ _ wr hz.rd HM.out.1 HM.out.2.1 HM.out.2.2 (by have := HM.out.1; unfold maxLen at *; omega)
                  rw [hpj] at hw0
                  cases hwt : want s lim z (p + j) with
                  | mk wb z2 =>
                    have hzo := want_out s lim z (p + j)
                    rw [hwt] at hw0 hzo
                    have harg2 : argN s lim W y (p + 1) 0 = match (wb, z2) with | (false, u) => (none, u) | (true, u) => argN s lim (W - j) u (p + j + 1) (n * 256 + (s.getD (p + j) 0).toNat) := by
                      rw [harg, show W + 1 - j = (W - j) + 1 by omega]
                      conv => lhs; unfold argN; rw [hwt]
                      rfl
                    cases wb with
                    | false =>
                      have HR := Px.hid (show R7.head s lim x p = (none, z2) by rw [HR.out, harg2])
                      have HW := Px.hid hw0
                      have HZO := Px.hid (And.intro hz (And.intro hzf hzo))
                      clear hwt hw0 hzo harg2 harg hz hzf hn hpj c0
                      go_wp2_with fail
                      refine HW.out.mono ?_
                      rintro e w2 ⟨rfl, hr, hf⟩
                      have HY := Px.hid (And.intro (HZO.out.1.step hr hf HZO.out.2.2) (HZO.out.2.1.trans (It.foot (vo := vo) hf) (fun _ _ h => h)))
                      clear hr hf
                      go_wp2
                      refine bodyPost_ret (v := headV none) (by simp [results, Tryd.results58, go_sem, headV]) rfl ?_
                      rw [HR.out]
                      exact ⟨rfl, HY.out.1, HY.out.2⟩
                    | true =>
                      obtain ⟨hps2, hpb2, hyt⟩ := want_true hwt
                      clear hyt
                      obtain ⟨d, hd⟩ : ∃ d, d = (s.getD (p + j) 0).toNat := ⟨_, rfl⟩
                      have hdb : d < 256 := by rw [hd]; exact UInt8.toNat_lt _
                      have hixj : ∀ w, (Instr.index 9 (S s) (.int .i64 ((p : Int) + j))).run Tryd.prog w = .ok (.int .u8 (d : Nat)) w := fun w => by rw [hd, ← hpj]; exact idx_S s (p + j) hps2 w
                      rw [← hd] at harg2
                      have HN := Px.hid (And.intro (show n * 256 + d < 256 ^ (j + 1 - 1) by rw [Nat.add_sub_cancel, show j = (j - 1) + 1 by omega, Nat.pow_succ]; omega) harg2)
                      have HW := Px.hid hw0
                      have HZO := Px.hid (And.intro hz (And.intro hzf hzo))
                      have hwa : IntKind.u64.wrap ((n : Int) * 256) = (n : Int) * 256 := IntWalk.u64_in _ ⟨by omega, by omega⟩
                      have hwb : IntKind.u64.wrap ((n : Int) * 256 + d) = (n : Int) * 256 + d := IntWalk.u64_in _ ⟨by omega, by omega⟩
                      clear hwt hw0 hzo harg2 harg hz hzf hn hd c0 hn7
                      go_wp2_with fail
                      refine HW.out.mono ?_
                      rintro e w2 ⟨rfl, hr, hf⟩
                      have hst := HZO.out.1.step hr hf HZO.out.2.2
                      have c0 := hst.rd.cells.1
                      have HY := Px.hid (And.intro hst (HZO.out.2.1.trans (It.foot (vo := vo) hf) (fun _ _ h => h)))
                      clear hr hf hst
                      go_wp2
                      go_roundw
                      case rel => exact ⟨j + 1, n * 256 + d, z2, by omega, by omega, by go_num, by go_num, Px.hid ⟨HN.out.1, by rw [HZO.out.2.2]; exact HZ.out.2.1, HY.out.1, HY.out.2, by rw [HN.out.2]; rw [show W - j = W + 1 - (j + 1) by omega, Nat.add_assoc]⟩⟩
                      case measure => simp [intOf]; omega
                · have hltz : ¬ (j : Int) ≤ (W : Int) := by omega
                  have hje : j = W + 1 := by omega
                  have HA := Px.hid (show argN s lim W y (p + 1) 0 = (some n, z) by rw [harg, show W + 1 - j = 0 by omega]; rfl)
                  have HZO := Px.hid (And.intro hz hzf)
                  have hn64 : n < 18446744073709551616 := Nat.lt_of_lt_of_le hn (Cf.pow256_le _ (by omega))
                  have HN := Px.hid hn64
                  clear harg hz hzf hn hn64 hje hlt HZ
                  go_wp2_with fail
                  refine (head17_any k n _ hk8 HN.out).mono ?_
                  rintro e w2 ⟨rfl, hs2⟩
                  have HY := Px.hid (And.intro (HZO.out.1.same hs2) (HZO.out.2.trans (hs2.fr (rfoot b vo)) (fun _ _ h => h)))
                  have hsz : (ByteArray.mk (headB k n).toArray).size = (headB k n).length := size_S _
                  clear hs2 c0
                  by_cases hlen : (headB k n).length = W + 1
                  · have HR := Px.hid (show R7.head s lim x p = (some (k, n, p + 1 + W), z) by rw [HR.out, HA.out]; simp only; rw [if_pos hlen])
                    have zl : (((headB k n).length : Int) == (W : Int) + 1) = true := by simp; omega
                    have zl2 : (((headB k n).length : Int) != (W : Int) + 1) = false := by simp; omega
                    clear hlen
                    go_wp2
                    refine bodyPost_ret (v := headV (some (k, n, p + 1 + W))) (by simp [results, Tryd.results58, go_sem, headV]) rfl ?_
                    rw [HR.out]
                    exact ⟨rfl, HY.out.1, HY.out.2⟩
                  · have HR := Px.hid (show R7.head s lim x p = (none, fault z p 9) by rw [HR.out, HA.out]; simp only; rw [if_neg hlen])
                    have zl : (((headB k n).length : Int) == (W : Int) + 1) = false := by simp; omega
                    have zl2 : (((headB k n).length : Int) != (W : Int) + 1) = true := by simp; omega
                    clear hlen
                    go_wp2_with fail
                    refine (xfault_any b _ p 9 s lim z _ _ _ HY.out.1.rd).mono ?_
                    rintro e w3 ⟨rfl, hr, hf⟩
                    have HY2 := Px.hid (And.intro (HY.out.1.step hr hf rfl) (HY.out.2.trans (It.foot (vo := vo) hf) (fun _ _ h => h)))
                    clear hr hf
                    go_wp2
                    refine bodyPost_ret (v := headV none) (by simp [results, Tryd.results58, go_sem, headV]) rfl ?_
                    rw [HR.out]
                    exact ⟨rfl, HY2.out.1, HY2.out.2⟩
end Go.Proofs.YtclbbfmpkhfigaaDoor

/-! The walk over the reference's item (layer 17), kind by kind. -/
namespace Go.Proofs.YtclbbfmpkhfigaaDoor
open Go.RowKit Go.Px Go.Px.R7

/-- What all kinds share: the head was read. -/
def Headed (s : Bytes) (lim : Lim) (x : St) (p kk n q : Nat) (y : St) : Prop := R7.head s lim x p = (some (kk, n, q), y)

theorem inner_frames_6 (s : Bytes) (lim : Lim) (d : Nat) (hm : lim.may = true) (_n q : Nat) (x : St) (hg : Good s lim x q d) (t : Nat) (z : St) (e : item s lim d x q = (some t, z)) : z.frames = x.frames := by
  have := item_sim (s := s) hm d x q _ hg.sim hg.out
  rw [e] at this
  exact this.1.frames
theorem inner_frames_4 (s : Bytes) (lim : Lim) (d : Nat) (hm : lim.may = true) : ∀ (n q : Nat) (x : St), Good s lim x q d → ∀ (t : Nat) (z : St), itemsN (item s lim d) n x q = (some t, z) → z.frames = x.frames := by
  intro n
  induction n with
  | zero =>
    intro q x _ t z e
    unfold itemsN at e
    simp only [Prod.mk.injEq] at e
    rw [e.2]
  | succ n ih =>
    intro q x hg t z e
    unfold itemsN at e
    cases hr : item s lim d x q with
    | mk o y =>
      rw [hr] at e
      cases o with
      | none => simp at e
      | some r => rw [ih r y (hg.item hm hr) t z e]; exact inner_frames_6 s lim d hm 0 q x hg r y hr
theorem inner_frames_5' (s : Bytes) (lim : Lim) (d : Nat) (hm : lim.may = true) : ∀ (n : Nat) (l : Option Bytes) (q : Nat) (x : St), Good s lim x q d → ∀ (t : Nat) (z : St), pairsN s (item s lim d) n l x q = (some t, z) → z.frames = x.frames := by
  intro n
  induction n with
  | zero =>
    intro l q x _ t z e
    unfold pairsN at e
    simp only [Prod.mk.injEq] at e
    rw [e.2]
  | succ n ih =>
    intro l q x hg t z e
    unfold pairsN at e
    cases hr : item s lim d x q with
    | mk o y =>
      rw [hr] at e
      cases o with
      | none => simp at e
      | some r =>
        simp only at e
        split at e
        · simp at e
        · cases hr2 : item s lim d y r with
          | mk o2 y2 =>
            rw [hr2] at e
            cases o2 with
            | none => simp at e
            | some r2 =>
              have hg1 := hg.item hm hr
              rw [ih _ r2 y2 (hg1.item hm hr2) t z e, inner_frames_6 s lim d hm 0 r y hg1 r2 y2 hr2]
              exact inner_frames_6 s lim d hm 0 q x hg r y hr
theorem inner_frames_5 (s : Bytes) (lim : Lim) (d : Nat) (hm : lim.may = true) (n q : Nat) (x : St) (hg : Good s lim x q d) (t : Nat) (z : St) (e : pairsN s (item s lim d) n none x q = (some t, z)) : z.frames = x.frames :=
  inner_frames_5' s lim d hm n none q x hg t z e

set_option maxRecDepth 100000 in
set_option maxHeartbeats 4000000 in
theorem item_0 (s : Bytes) (lim : Lim) (hm : lim.may = true) (hs : s.length ≤ 140737488355327) (d : Nat) (b p dp n q : Nat) (x y : St) (F : Nat → Prop) (w : World) (h : RdAt w b s lim x F) (hg : Good s lim x p d) (hd : ((dp + d : Nat) : Int) = lim.d) (hh : Headed s lim x p 0 n q y) :
    Calls Tryd.prog 46 #[.pointer (some ⟨b, 0, none⟩), .int .i64 (p : Nat), .int .i64 (dp : Nat)] w fun r w' => r = .returned (itemV (((some q, { y with out := y.out ++ [⟨0, n, []⟩] }) : Option Nat × St)).1) ∧ Did w b s lim F (((some q, { y with out := y.out ++ [⟨0, n, []⟩] }) : Option Nat × St)).2 w' := by
  obtain ⟨vo, h, rfl⟩ := h
  have hmay := Cf.may_of hm
  have hol := hg.out
  have ho : x.out.length ≤ 1000000 := by omega
  obtain ⟨hmv, hpq, hyo, hn64, hk8, hlt⟩ := hg.head hh
  have hqs := hmv.qs
  have hqb := hmv.qb
  have hyl : y.out.length ≤ 1000000 := by rw [hyo]; exact ho
  have hw := rhead_any s lim hm hs b p x vo w h hg.ps ho
  have e : R7.head s lim x p = (some (0, n, q), y) := hh
  rw [e] at hw
  have HW := Px.hid hw
  have HG := Px.hid (And.intro hg (And.intro hm (And.intro hmv (And.intro hyo (And.intro hlt hn64)))))
  have hdp : ((dp : Nat) : Int) + (d : Nat) = lim.d := by omega
  have HD := Px.hid hd
  clear hw e hh hg hmv hyo hlt hk8 h hm hol ho hd hmay
  go_enter Tryd.func46, Tryd.ntmps46
  go_wp2_with fail
  refine HW.out.mono ?_
  rintro e w1 ⟨rfl, hx, hxf⟩
  have HX := Px.hid (And.intro hx hxf)
  clear hx hxf HW
  unfold headV
  have f11 := HX.out.1.rd.free 11
  have hb : b < w1.heap.size := HX.out.1.rd.lt
  have c11 : w1.cell? ⟨b, 11, none⟩ = some vo := HX.out.1.cell11
  obtain ⟨i0, hi0, hz0, hz1, hz2⟩ := info_parts Tryd.infoAtom
  go_upto_region 18 with fail
  go_cut [] (fun wx => RAfter w1 wx b s lim y ⟨0, n, []⟩ vo)
  case first =>
    go_wp2_with (at_builtin; go_must (refine wpList_append_lies _ rfl _ _ _ rfl 0 72 i0 _ 3 32 Tryd.underlying32 hi0 hz0 hz1 hz2 rfl (by omega) vo y.out.length (y.out.flatMap cAtom) rfl (HX.out.1.out.alloc _) ⟨w1.heap.size, 0, none⟩ 1 1 (cAtom ⟨0, n, []⟩) rfl rfl (World.news_of_block (cs := #[.int .i64 0, .int .u64 n, S []]) (t := 72) (fr := (0, 0)) (heap_alloc_new w1 _)) (by simp [cAtom, Value.oneCell']) (by omega) (by unfold maxLen; omega) (by omega) (by omega) (w1.heap.size + 1) (by simp) ?_))
    intro gg cap w1 hown1 hgrow hat hlt
    have k11 := grown_cell1 hgrow c11 HX.out.1.ob.ne
    have e11 := grown_free1 hgrow c11 f11 HX.out.1.ob.ne
    go_wp2_with fail
    go_meet
    exact HX.out.1.afterOut hown1 (grown_alloc1 hgrow) (hat.elim .inl (fun e => .inr (by omega)))
  case rest =>
    obtain ⟨vo', hy, hyf, hyn⟩ := hcut
    have HY := Px.hid (And.intro hy (And.intro hyf hyn))
    clear hy hyf hyn c11 f11
    go_wp2
    go_ret2
    exact ⟨rfl, _, ⟨_, HY.out.1, rfl⟩, HX.out.2.step (Fresh.refl _ _) HY.out.2.1, Fresh.trans (Fresh.refl _ _) HX.out.2.size HY.out.2.2⟩

set_option maxRecDepth 100000 in
set_option maxHeartbeats 4000000 in
theorem item_1 (s : Bytes) (lim : Lim) (hm : lim.may = true) (hs : s.length ≤ 140737488355327) (d : Nat) (b p dp n q : Nat) (x y : St) (F : Nat → Prop) (w : World) (h : RdAt w b s lim x F) (hg : Good s lim x p d) (hd : ((dp + d : Nat) : Int) = lim.d) (hh : Headed s lim x p 1 n q y) :
    Calls Tryd.prog 46 #[.pointer (some ⟨b, 0, none⟩), .int .i64 (p : Nat), .int .i64 (dp : Nat)] w fun r w' => r = .returned (itemV (((some q, { y with out := y.out ++ [⟨1, n, []⟩] }) : Option Nat × St)).1) ∧ Did w b s lim F (((some q, { y with out := y.out ++ [⟨1, n, []⟩] }) : Option Nat × St)).2 w' := by
  obtain ⟨vo, h, rfl⟩ := h
  have hmay := Cf.may_of hm
  have hol := hg.out
  have ho : x.out.length ≤ 1000000 := by omega
  obtain ⟨hmv, hpq, hyo, hn64, hk8, hlt⟩ := hg.head hh
  have hqs := hmv.qs
  have hqb := hmv.qb
  have hyl : y.out.length ≤ 1000000 := by rw [hyo]; exact ho
  have hw := rhead_any s lim hm hs b p x vo w h hg.ps ho
  have e : R7.head s lim x p = (some (1, n, q), y) := hh
  rw [e] at hw
  have HW := Px.hid hw
  have HG := Px.hid (And.intro hg (And.intro hm (And.intro hmv (And.intro hyo (And.intro hlt hn64)))))
  have hdp : ((dp : Nat) : Int) + (d : Nat) = lim.d := by omega
  have HD := Px.hid hd
  clear hw e hh hg hmv hyo hlt hk8 h hm hol ho hd hmay
  go_enter Tryd.func46, Tryd.ntmps46
  go_wp2_with fail
  refine HW.out.mono ?_
  rintro e w1 ⟨rfl, hx, hxf⟩
  have HX := Px.hid (And.intro hx hxf)
  clear hx hxf HW
  unfold headV
  have f11 := HX.out.1.rd.free 11
  have hb : b < w1.heap.size := HX.out.1.rd.lt
  have c11 : w1.cell? ⟨b, 11, none⟩ = some vo := HX.out.1.cell11
  obtain ⟨i0, hi0, hz0, hz1, hz2⟩ := info_parts Tryd.infoAtom
  go_upto_region 18 with fail
  go_cut [] (fun wx => RAfter w1 wx b s lim y ⟨1, n, []⟩ vo)
  case first =>
    go_wp2_with (at_builtin; go_must (refine wpList_append_lies _ rfl _ _ _ rfl 0 72 i0 _ 3 32 Tryd.underlying32 hi0 hz0 hz1 hz2 rfl (by omega) vo y.out.length (y.out.flatMap cAtom) rfl (HX.out.1.out.alloc _) ⟨w1.heap.size, 0, none⟩ 1 1 (cAtom ⟨1, n, []⟩) rfl rfl (World.news_of_block (cs := #[.int .i64 1, .int .u64 n, S []]) (t := 72) (fr := (0, 0)) (heap_alloc_new w1 _)) (by simp [cAtom, Value.oneCell']) (by omega) (by unfold maxLen; omega) (by omega) (by omega) (w1.heap.size + 1) (by simp) ?_))
    intro gg cap w1 hown1 hgrow hat hlt
    have k11 := grown_cell1 hgrow c11 HX.out.1.ob.ne
    have e11 := grown_free1 hgrow c11 f11 HX.out.1.ob.ne
    go_wp2_with fail
    go_meet
    exact HX.out.1.afterOut hown1 (grown_alloc1 hgrow) (hat.elim .inl (fun e => .inr (by omega)))
  case rest =>
    obtain ⟨vo', hy, hyf, hyn⟩ := hcut
    have HY := Px.hid (And.intro hy (And.intro hyf hyn))
    clear hy hyf hyn c11 f11
    go_wp2
    go_ret2
    exact ⟨rfl, _, ⟨_, HY.out.1, rfl⟩, HX.out.2.step (Fresh.refl _ _) HY.out.2.1, Fresh.trans (Fresh.refl _ _) HX.out.2.size HY.out.2.2⟩

set_option maxRecDepth 100000 in
set_option maxHeartbeats 4000000 in
theorem item_7 (s : Bytes) (lim : Lim) (hm : lim.may = true) (hs : s.length ≤ 140737488355327) (d : Nat) (b p dp n q : Nat) (x y : St) (F : Nat → Prop) (w : World) (h : RdAt w b s lim x F) (hg : Good s lim x p d) (hd : ((dp + d : Nat) : Int) = lim.d) (hh : Headed s lim x p 7 n q y) :
    Calls Tryd.prog 46 #[.pointer (some ⟨b, 0, none⟩), .int .i64 (p : Nat), .int .i64 (dp : Nat)] w fun r w' => r = .returned (itemV (((some q, { y with out := y.out ++ [⟨7, n, []⟩] }) : Option Nat × St)).1) ∧ Did w b s lim F (((some q, { y with out := y.out ++ [⟨7, n, []⟩] }) : Option Nat × St)).2 w' := by
  obtain ⟨vo, h, rfl⟩ := h
  have hmay := Cf.may_of hm
  have hol := hg.out
  have ho : x.out.length ≤ 1000000 := by omega
  obtain ⟨hmv, hpq, hyo, hn64, hk8, hlt⟩ := hg.head hh
  have hqs := hmv.qs
  have hqb := hmv.qb
  have hyl : y.out.length ≤ 1000000 := by rw [hyo]; exact ho
  have hw := rhead_any s lim hm hs b p x vo w h hg.ps ho
  have e : R7.head s lim x p = (some (7, n, q), y) := hh
  rw [e] at hw
  have HW := Px.hid hw
  have HG := Px.hid (And.intro hg (And.intro hm (And.intro hmv (And.intro hyo (And.intro hlt hn64)))))
  have hdp : ((dp : Nat) : Int) + (d : Nat) = lim.d := by omega
  have HD := Px.hid hd
  clear hw e hh hg hmv hyo hlt hk8 h hm hol ho hd hmay
  go_enter Tryd.func46, Tryd.ntmps46
  go_wp2_with fail
  refine HW.out.mono ?_
  rintro e w1 ⟨rfl, hx, hxf⟩
  have HX := Px.hid (And.intro hx hxf)
  clear hx hxf HW
  unfold headV
  have f11 := HX.out.1.rd.free 11
  have hb : b < w1.heap.size := HX.out.1.rd.lt
  have c11 : w1.cell? ⟨b, 11, none⟩ = some vo := HX.out.1.cell11
  obtain ⟨i0, hi0, hz0, hz1, hz2⟩ := info_parts Tryd.infoAtom
  go_upto_region 18 with fail
  go_cut [] (fun wx => RAfter w1 wx b s lim y ⟨7, n, []⟩ vo)
  case first =>
    go_wp2_with (at_builtin; go_must (refine wpList_append_lies _ rfl _ _ _ rfl 0 72 i0 _ 3 32 Tryd.underlying32 hi0 hz0 hz1 hz2 rfl (by omega) vo y.out.length (y.out.flatMap cAtom) rfl (HX.out.1.out.alloc _) ⟨w1.heap.size, 0, none⟩ 1 1 (cAtom ⟨7, n, []⟩) rfl rfl (World.news_of_block (cs := #[.int .i64 7, .int .u64 n, S []]) (t := 72) (fr := (0, 0)) (heap_alloc_new w1 _)) (by simp [cAtom, Value.oneCell']) (by omega) (by unfold maxLen; omega) (by omega) (by omega) (w1.heap.size + 1) (by simp) ?_))
    intro gg cap w1 hown1 hgrow hat hlt
    have k11 := grown_cell1 hgrow c11 HX.out.1.ob.ne
    have e11 := grown_free1 hgrow c11 f11 HX.out.1.ob.ne
    go_wp2_with fail
    go_meet
    exact HX.out.1.afterOut hown1 (grown_alloc1 hgrow) (hat.elim .inl (fun e => .inr (by omega)))
  case rest =>
    obtain ⟨vo', hy, hyf, hyn⟩ := hcut
    have HY := Px.hid (And.intro hy (And.intro hyf hyn))
    clear hy hyf hyn c11 f11
    go_wp2
    go_ret2
    exact ⟨rfl, _, ⟨_, HY.out.1, rfl⟩, HX.out.2.step (Fresh.refl _ _) HY.out.2.1, Fresh.trans (Fresh.refl _ _) HX.out.2.size HY.out.2.2⟩

set_option maxRecDepth 100000 in
set_option maxHeartbeats 4000000 in
theorem item_4_full (s : Bytes) (lim : Lim) (hm : lim.may = true) (hs : s.length ≤ 140737488355327) (b p dp n q : Nat) (x y : St) (F : Nat → Prop) (w : World) (h : RdAt w b s lim x F) (hg : Good s lim x p 0) (hd : ((dp + 0 : Nat) : Int) = lim.d) (hh : Headed s lim x p 4 n q y) :
    Calls Tryd.prog 46 #[.pointer (some ⟨b, 0, none⟩), .int .i64 (p : Nat), .int .i64 (dp : Nat)] w fun r w' => r = .returned (itemV (((none, fault y p 10) : Option Nat × St)).1) ∧ Did w b s lim F (((none, fault y p 10) : Option Nat × St)).2 w' := by
  obtain ⟨vo, h, rfl⟩ := h
  have hmay := Cf.may_of hm
  have hol := hg.out
  have ho : x.out.length ≤ 1000000 := by omega
  obtain ⟨hmv, hpq, hyo, hn64, hk8, hlt⟩ := hg.head hh
  have hqs := hmv.qs
  have hqb := hmv.qb
  have hyl : y.out.length ≤ 1000000 := by rw [hyo]; exact ho
  have hw := rhead_any s lim hm hs b p x vo w h hg.ps ho
  have e : R7.head s lim x p = (some (4, n, q), y) := hh
  rw [e] at hw
  have HW := Px.hid hw
  have HG := Px.hid (And.intro hg (And.intro hm (And.intro hmv (And.intro hyo (And.intro hlt hn64)))))
  have hdp : ((dp : Nat) : Int) + (0 : Nat) = lim.d := by omega
  have HD := Px.hid hd
  clear hw e hh hg hmv hyo hlt hk8 h hm hol ho hd hmay
  have hdd : lim.d ≤ (dp : Int) := by omega
  have hdc : decide (lim.d ≤ (dp : Int)) = true := decide_eq_true hdd
  go_enter Tryd.func46, Tryd.ntmps46
  go_wp2_with fail
  refine HW.out.mono ?_
  rintro e w1 ⟨rfl, hx, hxf⟩
  have HX := Px.hid (And.intro hx hxf)
  clear hx hxf HW
  unfold headV
  obtain ⟨_, c1, _, _, _, _, _, _, _⟩ := HX.out.1.rd.cells
  go_wp2_with fail
  refine (xfault_any b _ p 10 s lim y _ _ _ HX.out.1.rd).mono ?_
  rintro e w2 ⟨rfl, hr, hf⟩
  have HY := Px.hid (And.intro (HX.out.1.step hr hf rfl) (HX.out.2.trans (It.foot (vo := vo) hf) (fun _ _ h => h)))
  clear hr hf
  go_wp2
  go_ret2
  exact ⟨rfl, _, ⟨_, HY.out.1, rfl⟩, HY.out.2, Fresh.refl _ _⟩

set_option maxRecDepth 100000 in
set_option maxHeartbeats 4000000 in
theorem item_5_full (s : Bytes) (lim : Lim) (hm : lim.may = true) (hs : s.length ≤ 140737488355327) (b p dp n q : Nat) (x y : St) (F : Nat → Prop) (w : World) (h : RdAt w b s lim x F) (hg : Good s lim x p 0) (hd : ((dp + 0 : Nat) : Int) = lim.d) (hh : Headed s lim x p 5 n q y) :
    Calls Tryd.prog 46 #[.pointer (some ⟨b, 0, none⟩), .int .i64 (p : Nat), .int .i64 (dp : Nat)] w fun r w' => r = .returned (itemV (((none, fault y p 10) : Option Nat × St)).1) ∧ Did w b s lim F (((none, fault y p 10) : Option Nat × St)).2 w' := by
  obtain ⟨vo, h, rfl⟩ := h
  have hmay := Cf.may_of hm
  have hol := hg.out
  have ho : x.out.length ≤ 1000000 := by omega
  obtain ⟨hmv, hpq, hyo, hn64, hk8, hlt⟩ := hg.head hh
  have hqs := hmv.qs
  have hqb := hmv.qb
  have hyl : y.out.length ≤ 1000000 := by rw [hyo]; exact ho
  have hw := rhead_any s lim hm hs b p x vo w h hg.ps ho
  have e : R7.head s lim x p = (some (5, n, q), y) := hh
  rw [e] at hw
  have HW := Px.hid hw
  have HG := Px.hid (And.intro hg (And.intro hm (And.intro hmv (And.intro hyo (And.intro hlt hn64)))))
  have hdp : ((dp : Nat) : Int) + (0 : Nat) = lim.d := by omega
  have HD := Px.hid hd
  clear hw e hh hg hmv hyo hlt hk8 h hm hol ho hd hmay
  have hdd : lim.d ≤ (dp : Int) := by omega
  have hdc : decide (lim.d ≤ (dp : Int)) = true := decide_eq_true hdd
  go_enter Tryd.func46, Tryd.ntmps46
  go_wp2_with fail
  refine HW.out.mono ?_
  rintro e w1 ⟨rfl, hx, hxf⟩
  have HX := Px.hid (And.intro hx hxf)
  clear hx hxf HW
  unfold headV
  obtain ⟨_, c1, _, _, _, _, _, _, _⟩ := HX.out.1.rd.cells
  go_wp2_with fail
  refine (xfault_any b _ p 10 s lim y _ _ _ HX.out.1.rd).mono ?_
  rintro e w2 ⟨rfl, hr, hf⟩
  have HY := Px.hid (And.intro (HX.out.1.step hr hf rfl) (HX.out.2.trans (It.foot (vo := vo) hf) (fun _ _ h => h)))
  clear hr hf
  go_wp2
  go_ret2
  exact ⟨rfl, _, ⟨_, HY.out.1, rfl⟩, HY.out.2, Fresh.refl _ _⟩

set_option maxRecDepth 100000 in
set_option maxHeartbeats 4000000 in
theorem item_6_full (s : Bytes) (lim : Lim) (hm : lim.may = true) (hs : s.length ≤ 140737488355327) (b p dp n q : Nat) (x y : St) (F : Nat → Prop) (w : World) (h : RdAt w b s lim x F) (hg : Good s lim x p 0) (hd : ((dp + 0 : Nat) : Int) = lim.d) (hh : Headed s lim x p 6 n q y) :
    Calls Tryd.prog 46 #[.pointer (some ⟨b, 0, none⟩), .int .i64 (p : Nat), .int .i64 (dp : Nat)] w fun r w' => r = .returned (itemV (((none, fault y p 10) : Option Nat × St)).1) ∧ Did w b s lim F (((none, fault y p 10) : Option Nat × St)).2 w' := by
  obtain ⟨vo, h, rfl⟩ := h
  have hmay := Cf.may_of hm
  have hol := hg.out
  have ho : x.out.length ≤ 1000000 := by omega
  obtain ⟨hmv, hpq, hyo, hn64, hk8, hlt⟩ := hg.head hh
  have hqs := hmv.qs
  have hqb := hmv.qb
  have hyl : y.out.length ≤ 1000000 := by rw [hyo]; exact ho
  have hw := rhead_any s lim hm hs b p x vo w h hg.ps ho
  have e : R7.head s lim x p = (some (6, n, q), y) := hh
  rw [e] at hw
  have HW := Px.hid hw
  have HG := Px.hid (And.intro hg (And.intro hm (And.intro hmv (And.intro hyo (And.intro hlt hn64)))))
  have hdp : ((dp : Nat) : Int) + (0 : Nat) = lim.d := by omega
  have HD := Px.hid hd
  clear hw e hh hg hmv hyo hlt hk8 h hm hol ho hd hmay
  have hdd : lim.d ≤ (dp : Int) := by omega
  have hdc : decide (lim.d ≤ (dp : Int)) = true := decide_eq_true hdd
  go_enter Tryd.func46, Tryd.ntmps46
  go_wp2_with fail
  refine HW.out.mono ?_
  rintro e w1 ⟨rfl, hx, hxf⟩
  have HX := Px.hid (And.intro hx hxf)
  clear hx hxf HW
  unfold headV
  obtain ⟨_, c1, _, _, _, _, _, _, _⟩ := HX.out.1.rd.cells
  go_wp2_with fail
  refine (xfault_any b _ p 10 s lim y _ _ _ HX.out.1.rd).mono ?_
  rintro e w2 ⟨rfl, hr, hf⟩
  have HY := Px.hid (And.intro (HX.out.1.step hr hf rfl) (HX.out.2.trans (It.foot (vo := vo) hf) (fun _ _ h => h)))
  clear hr hf
  go_wp2
  go_ret2
  exact ⟨rfl, _, ⟨_, HY.out.1, rfl⟩, HY.out.2, Fresh.refl _ _⟩

set_option maxRecDepth 100000 in
set_option maxHeartbeats 4000000 in
theorem item_4 (s : Bytes) (lim : Lim) (hm : lim.may = true) (hs : s.length ≤ 140737488355327) (d : Nat) (hI : ItemC s lim d) (b p dp n q : Nat) (x y : St) (F : Nat → Prop) (w : World) (h : RdAt w b s lim x F) (hg : Good s lim x p (d + 1)) (hd : ((dp + (d + 1) : Nat) : Int) = lim.d) (hh : Headed s lim x p 4 n q y) :
    Calls Tryd.prog 46 #[.pointer (some ⟨b, 0, none⟩), .int .i64 (p : Nat), .int .i64 (dp : Nat)] w fun r w' => r = .returned (itemV (holdN s (item s lim d) 4 n y q).1) ∧ Did w b s lim F (holdN s (item s lim d) 4 n y q).2 w' := by
  obtain ⟨vo, h, rfl⟩ := h
  have hmay := Cf.may_of hm
  have hol := hg.out
  have ho : x.out.length ≤ 1000000 := by omega
  obtain ⟨hmv, hpq, hyo, hn64, hk8, hlt⟩ := hg.head hh
  have hqs := hmv.qs
  have hqb := hmv.qb
  have hyl : y.out.length ≤ 1000000 := by rw [hyo]; exact ho
  have hw := rhead_any s lim hm hs b p x vo w h hg.ps ho
  have e : R7.head s lim x p = (some (4, n, q), y) := hh
  rw [e] at hw
  have HW := Px.hid hw
  have HG := Px.hid (And.intro hg (And.intro hm (And.intro hmv (And.intro hyo (And.intro hlt hn64)))))
  have hdp : ((dp : Nat) : Int) + ((d + 1) : Nat) = lim.d := by omega
  have HD := Px.hid hd
  clear hw e hh hg hmv hyo hlt hk8 h hm hol ho hd hmay
  have HI := Px.hid hI
  have HML := Px.hid (show s.length ≤ maxLen by unfold maxLen; omega)
  clear hI
  have hdd : ¬ lim.d ≤ (dp : Int) := by push_cast at hdp; omega
  have hdc : decide (lim.d ≤ (dp : Int)) = false := decide_eq_false hdd
  have hdp2 : (dp : Int) ≤ 32 := by have := Cf.may_of HG.out.2.1; omega
  have hfr : y.frames ≤ 1000 := by have := HG.out.1.deep; have := Cf.may_of HG.out.2.1; rw [HG.out.2.2.1.frames]; omega
  have HR := Px.hid (show holdN s (item s lim d) 4 n y q = (match itemsN (item s lim d) n { y with out := y.out ++ [⟨4, n, []⟩], frames := y.frames + 1 } q with | (some t, z) => (some t, { z with frames := z.frames - 1 }) | (none, z) => (none, z)) from rfl)
  have HGG := Px.hid (show Good s lim { y with out := y.out ++ [⟨4, n, []⟩], frames := y.frames + 1 } q d from by
    have hg := HG.out.1
    have hmv := HG.out.2.2.1
    exact ⟨hmv.qs, hmv.qb, hmv.err, hmv.taken, hmv.ended, by have := hg.deep; have := hmv.frames; show ((y.frames + 1 + d : Nat) : Int) = lim.d; omega, by have := HG.out.2.2.2.1; have := HG.out.2.2.2.2.1; simp [HG.out.2.2.2.1]; omega⟩)
  have HZFR := Px.hid (show ∀ t z, itemsN (item s lim d) n { y with out := y.out ++ [⟨4, n, []⟩], frames := y.frames + 1 } q = (some t, z) → z.frames = y.frames + 1 from fun t z e => inner_frames_4 s lim d HG.out.2.1 n q _ HGG.out t z e)
  have HDD := Px.hid (show ((dp + 1 + d : Nat) : Int) = lim.d by have := HD.out; omega)
  clear HD
  go_enter Tryd.func46, Tryd.ntmps46
  go_wp2_with fail
  refine HW.out.mono ?_
  rintro e w1 ⟨rfl, hx, hxf⟩
  have HX := Px.hid (And.intro hx hxf)
  clear hx hxf HW
  unfold headV
  obtain ⟨_, c1, _, _, _, _, _, _, _⟩ := HX.out.1.rd.cells
  have f11 := HX.out.1.rd.free 11
  have hb : b < w1.heap.size := HX.out.1.rd.lt
  have c11 : w1.cell? ⟨b, 11, none⟩ = some vo := HX.out.1.cell11
  obtain ⟨i0, hi0, hz0, hz1, hz2⟩ := info_parts Tryd.infoAtom
  go_upto_region 18 with fail
  go_cut [] (fun wx => RAfter w1 wx b s lim y ⟨4, n, []⟩ vo)
  case first =>
    go_wp2_with (at_builtin; go_must (refine wpList_append_lies _ rfl _ _ _ rfl 0 72 i0 _ 3 32 Tryd.underlying32 hi0 hz0 hz1 hz2 rfl (by omega) vo y.out.length (y.out.flatMap cAtom) rfl (HX.out.1.out.alloc _) ⟨w1.heap.size, 0, none⟩ 1 1 (cAtom ⟨4, n, []⟩) rfl rfl (World.news_of_block (cs := #[.int .i64 4, .int .u64 n, S []]) (t := 72) (fr := (0, 0)) (heap_alloc_new w1 _)) (by simp [cAtom, Value.oneCell']) (by omega) (by unfold maxLen; omega) (by omega) (by omega) (w1.heap.size + 1) (by simp) ?_))
    intro gg cap w1 hown1 hgrow hat hlt
    have k11 := grown_cell1 hgrow c11 HX.out.1.ob.ne
    have e11 := grown_free1 hgrow c11 f11 HX.out.1.ob.ne
    go_wp2_with fail
    go_meet
    exact HX.out.1.afterOut hown1 (grown_alloc1 hgrow) (hat.elim .inl (fun e => .inr (by omega)))
  case rest =>
    obtain ⟨vo', hy, hyf, hyn⟩ := hcut
    have HY := Px.hid (And.intro hy (And.intro hyf hyn))
    clear hy hyf hyn c11 f11
    clear c1
    obtain ⟨_, _, _, _, _, _, _, c9, _⟩ := HY.out.1.rd.cells
    have f9 := HY.out.1.rd.free 9
    have hzz := HY.out.1.rd.setFrames (y.frames + 1)
    have en : ((y.frames + 1 : Nat) : Int) = (y.frames : Int) + 1 := by omega
    rw [en] at hzz
    have hzf : Fr (It b) wc (wc.setCell ⟨b, 9, none⟩ (.int .i64 ((y.frames : Int) + 1))) := It.set _
    have HZ := Px.hid (show RdAt (wc.setCell ⟨b, 9, none⟩ (.int .i64 ((y.frames : Int) + 1))) b s lim { y with out := y.out ++ [⟨4, n, []⟩], frames := y.frames + 1 } (rfoot b vo') ∧ Fr (rfoot b vo) w (wc.setCell ⟨b, 9, none⟩ (.int .i64 ((y.frames : Int) + 1))) ∧ Fresh w (rfoot b vo) (rfoot b vo') from
      ⟨⟨_, HY.out.1.step hzz hzf rfl, rfl⟩, (HX.out.2.step (Fresh.refl _ _) HY.out.2.1).step (Fresh.trans (Fresh.refl _ _) HX.out.2.size HY.out.2.2) (It.foot (vo := vo') hzf), Fresh.trans (Fresh.refl _ _) HX.out.2.size HY.out.2.2⟩)
    clear hzz hzf en HX HY
    go_wp2_with fail
    have hcl := items_any s lim d HG.out.2.1 HI.out b q n (dp + 1) _ _ _ HZ.out.1 HGG.out HDD.out HG.out.2.2.2.2.2
    have edp : ((dp + 1 : Nat) : Int) = (dp : Int) + 1 := by omega
    rw [edp] at hcl
    refine hcl.mono ?_
    clear hcl edp c9 f9
    rintro e w2 ⟨rfl, hd⟩
    cases hr : itemsN (item s lim d) n { y with out := y.out ++ [⟨4, n, []⟩], frames := y.frames + 1 } q with
    | mk o z =>
      rw [hr] at hd HR
      have HDI := Px.hid (Did.trans HZ.out.2.1 HZ.out.2.2 hd)
      clear hd
      cases o with
      | none =>
        unfold itemV
        go_wp2
        go_ret2
        rw [HR.out]
        exact ⟨rfl, HDI.out⟩
      | some t =>
        have hzfr : 1 ≤ z.frames ∧ z.frames ≤ 1001 := by
          have := HZFR.out t z hr
          omega
        clear hr
        obtain ⟨F2, d1, d2, d3⟩ := HDI.out
        obtain ⟨vo2, rep, rfl⟩ := d1
        obtain ⟨_, _, _, _, _, _, _, c9, _⟩ := rep.rd.cells
        have f9 := rep.rd.free 9
        have hzz := rep.rd.setFrames (z.frames - 1)
        have en : ((z.frames - 1 : Nat) : Int) = (z.frames : Int) - 1 := by omega
        rw [en] at hzz
        have HFIN := Px.hid (And.intro (rep.step hzz (It.set _) rfl) (And.intro (d2.step d3 (It.foot (vo := vo2) (It.set (i := 9) (.int .i64 ((z.frames : Int) - 1))))) d3))
        clear hzz rep d2 d3 HDI en
        unfold itemV
        go_wp2
        go_ret2
        rw [HR.out]
        exact ⟨rfl, _, ⟨_, HFIN.out.1, rfl⟩, HFIN.out.2.1, HFIN.out.2.2⟩

set_option maxRecDepth 100000 in
set_option maxHeartbeats 4000000 in
theorem item_5 (s : Bytes) (lim : Lim) (hm : lim.may = true) (hs : s.length ≤ 140737488355327) (d : Nat) (hI : ItemC s lim d) (b p dp n q : Nat) (x y : St) (F : Nat → Prop) (w : World) (h : RdAt w b s lim x F) (hg : Good s lim x p (d + 1)) (hd : ((dp + (d + 1) : Nat) : Int) = lim.d) (hh : Headed s lim x p 5 n q y) :
    Calls Tryd.prog 46 #[.pointer (some ⟨b, 0, none⟩), .int .i64 (p : Nat), .int .i64 (dp : Nat)] w fun r w' => r = .returned (itemV (holdN s (item s lim d) 5 n y q).1) ∧ Did w b s lim F (holdN s (item s lim d) 5 n y q).2 w' := by
  obtain ⟨vo, h, rfl⟩ := h
  have hmay := Cf.may_of hm
  have hol := hg.out
  have ho : x.out.length ≤ 1000000 := by omega
  obtain ⟨hmv, hpq, hyo, hn64, hk8, hlt⟩ := hg.head hh
  have hqs := hmv.qs
  have hqb := hmv.qb
  have hyl : y.out.length ≤ 1000000 := by rw [hyo]; exact ho
  have hw := rhead_any s lim hm hs b p x vo w h hg.ps ho
  have e : R7.head s lim x p = (some (5, n, q), y) := hh
  rw [e] at hw
  have HW := Px.hid hw
  have HG := Px.hid (And.intro hg (And.intro hm (And.intro hmv (And.intro hyo (And.intro hlt hn64)))))
  have hdp : ((dp : Nat) : Int) + ((d + 1) : Nat) = lim.d := by omega
  have HD := Px.hid hd
  clear hw e hh hg hmv hyo hlt hk8 h hm hol ho hd hmay
  have HI := Px.hid hI
  have HML := Px.hid (show s.length ≤ maxLen by unfold maxLen; omega)
  clear hI
  have hdd : ¬ lim.d ≤ (dp : Int) := by push_cast at hdp; omega
  have hdc : decide (lim.d ≤ (dp : Int)) = false := decide_eq_false hdd
  have hdp2 : (dp : Int) ≤ 32 := by have := Cf.may_of HG.out.2.1; omega
  have hfr : y.frames ≤ 1000 := by have := HG.out.1.deep; have := Cf.may_of HG.out.2.1; rw [HG.out.2.2.1.frames]; omega
  have HR := Px.hid (show holdN s (item s lim d) 5 n y q = (match pairsN s (item s lim d) n none { y with out := y.out ++ [⟨5, n, []⟩], frames := y.frames + 1 } q with | (some t, z) => (some t, { z with frames := z.frames - 1 }) | (none, z) => (none, z)) from rfl)
  have HGG := Px.hid (show Good s lim { y with out := y.out ++ [⟨5, n, []⟩], frames := y.frames + 1 } q d from by
    have hg := HG.out.1
    have hmv := HG.out.2.2.1
    exact ⟨hmv.qs, hmv.qb, hmv.err, hmv.taken, hmv.ended, by have := hg.deep; have := hmv.frames; show ((y.frames + 1 + d : Nat) : Int) = lim.d; omega, by have := HG.out.2.2.2.1; have := HG.out.2.2.2.2.1; simp [HG.out.2.2.2.1]; omega⟩)
  have HZFR := Px.hid (show ∀ t z, pairsN s (item s lim d) n none { y with out := y.out ++ [⟨5, n, []⟩], frames := y.frames + 1 } q = (some t, z) → z.frames = y.frames + 1 from fun t z e => inner_frames_5 s lim d HG.out.2.1 n q _ HGG.out t z e)
  have HDD := Px.hid (show ((dp + 1 + d : Nat) : Int) = lim.d by have := HD.out; omega)
  clear HD
  go_enter Tryd.func46, Tryd.ntmps46
  go_wp2_with fail
  refine HW.out.mono ?_
  rintro e w1 ⟨rfl, hx, hxf⟩
  have HX := Px.hid (And.intro hx hxf)
  clear hx hxf HW
  unfold headV
  obtain ⟨_, c1, _, _, _, _, _, _, _⟩ := HX.out.1.rd.cells
  have f11 := HX.out.1.rd.free 11
  have hb : b < w1.heap.size := HX.out.1.rd.lt
  have c11 : w1.cell? ⟨b, 11, none⟩ = some vo := HX.out.1.cell11
  obtain ⟨i0, hi0, hz0, hz1, hz2⟩ := info_parts Tryd.infoAtom
  go_upto_region 18 with fail
  go_cut [] (fun wx => RAfter w1 wx b s lim y ⟨5, n, []⟩ vo)
  case first =>
    go_wp2_with (at_builtin; go_must (refine wpList_append_lies _ rfl _ _ _ rfl 0 72 i0 _ 3 32 Tryd.underlying32 hi0 hz0 hz1 hz2 rfl (by omega) vo y.out.length (y.out.flatMap cAtom) rfl (HX.out.1.out.alloc _) ⟨w1.heap.size, 0, none⟩ 1 1 (cAtom ⟨5, n, []⟩) rfl rfl (World.news_of_block (cs := #[.int .i64 5, .int .u64 n, S []]) (t := 72) (fr := (0, 0)) (heap_alloc_new w1 _)) (by simp [cAtom, Value.oneCell']) (by omega) (by unfold maxLen; omega) (by omega) (by omega) (w1.heap.size + 1) (by simp) ?_))
    intro gg cap w1 hown1 hgrow hat hlt
    have k11 := grown_cell1 hgrow c11 HX.out.1.ob.ne
    have e11 := grown_free1 hgrow c11 f11 HX.out.1.ob.ne
    go_wp2_with fail
    go_meet
    exact HX.out.1.afterOut hown1 (grown_alloc1 hgrow) (hat.elim .inl (fun e => .inr (by omega)))
  case rest =>
    obtain ⟨vo', hy, hyf, hyn⟩ := hcut
    have HY := Px.hid (And.intro hy (And.intro hyf hyn))
    clear hy hyf hyn c11 f11
    clear c1
    obtain ⟨_, _, _, _, _, _, _, c9, _⟩ := HY.out.1.rd.cells
    have f9 := HY.out.1.rd.free 9
    have hzz := HY.out.1.rd.setFrames (y.frames + 1)
    have en : ((y.frames + 1 : Nat) : Int) = (y.frames : Int) + 1 := by omega
    rw [en] at hzz
    have hzf : Fr (It b) wc (wc.setCell ⟨b, 9, none⟩ (.int .i64 ((y.frames : Int) + 1))) := It.set _
    have HZ := Px.hid (show RdAt (wc.setCell ⟨b, 9, none⟩ (.int .i64 ((y.frames : Int) + 1))) b s lim { y with out := y.out ++ [⟨5, n, []⟩], frames := y.frames + 1 } (rfoot b vo') ∧ Fr (rfoot b vo) w (wc.setCell ⟨b, 9, none⟩ (.int .i64 ((y.frames : Int) + 1))) ∧ Fresh w (rfoot b vo) (rfoot b vo') from
      ⟨⟨_, HY.out.1.step hzz hzf rfl, rfl⟩, (HX.out.2.step (Fresh.refl _ _) HY.out.2.1).step (Fresh.trans (Fresh.refl _ _) HX.out.2.size HY.out.2.2) (It.foot (vo := vo') hzf), Fresh.trans (Fresh.refl _ _) HX.out.2.size HY.out.2.2⟩)
    clear hzz hzf en HX HY
    go_wp2_with fail
    have hcl := pairs_any s lim d HG.out.2.1 HML.out HI.out b q n (dp + 1) _ _ _ HZ.out.1 HGG.out HDD.out HG.out.2.2.2.2.2
    have edp : ((dp + 1 : Nat) : Int) = (dp : Int) + 1 := by omega
    rw [edp] at hcl
    refine hcl.mono ?_
    clear hcl edp c9 f9
    rintro e w2 ⟨rfl, hd⟩
    cases hr : pairsN s (item s lim d) n none { y with out := y.out ++ [⟨5, n, []⟩], frames := y.frames + 1 } q with
    | mk o z =>
      rw [hr] at hd HR
      have HDI := Px.hid (Did.trans HZ.out.2.1 HZ.out.2.2 hd)
      clear hd
      cases o with
      | none =>
        unfold itemV
        go_wp2
        go_ret2
        rw [HR.out]
        exact ⟨rfl, HDI.out⟩
      | some t =>
        have hzfr : 1 ≤ z.frames ∧ z.frames ≤ 1001 := by
          have := HZFR.out t z hr
          omega
        clear hr
        obtain ⟨F2, d1, d2, d3⟩ := HDI.out
        obtain ⟨vo2, rep, rfl⟩ := d1
        obtain ⟨_, _, _, _, _, _, _, c9, _⟩ := rep.rd.cells
        have f9 := rep.rd.free 9
        have hzz := rep.rd.setFrames (z.frames - 1)
        have en : ((z.frames - 1 : Nat) : Int) = (z.frames : Int) - 1 := by omega
        rw [en] at hzz
        have HFIN := Px.hid (And.intro (rep.step hzz (It.set _) rfl) (And.intro (d2.step d3 (It.foot (vo := vo2) (It.set (i := 9) (.int .i64 ((z.frames : Int) - 1))))) d3))
        clear hzz rep d2 d3 HDI en
        unfold itemV
        go_wp2
        go_ret2
        rw [HR.out]
        exact ⟨rfl, _, ⟨_, HFIN.out.1, rfl⟩, HFIN.out.2.1, HFIN.out.2.2⟩

set_option maxRecDepth 100000 in
set_option maxHeartbeats 4000000 in
theorem item_6 (s : Bytes) (lim : Lim) (hm : lim.may = true) (hs : s.length ≤ 140737488355327) (d : Nat) (hI : ItemC s lim d) (b p dp n q : Nat) (x y : St) (F : Nat → Prop) (w : World) (h : RdAt w b s lim x F) (hg : Good s lim x p (d + 1)) (hd : ((dp + (d + 1) : Nat) : Int) = lim.d) (hh : Headed s lim x p 6 n q y) :
    Calls Tryd.prog 46 #[.pointer (some ⟨b, 0, none⟩), .int .i64 (p : Nat), .int .i64 (dp : Nat)] w fun r w' => r = .returned (itemV (holdN s (item s lim d) 6 n y q).1) ∧ Did w b s lim F (holdN s (item s lim d) 6 n y q).2 w' := by
  obtain ⟨vo, h, rfl⟩ := h
  have hmay := Cf.may_of hm
  have hol := hg.out
  have ho : x.out.length ≤ 1000000 := by omega
  obtain ⟨hmv, hpq, hyo, hn64, hk8, hlt⟩ := hg.head hh
  have hqs := hmv.qs
  have hqb := hmv.qb
  have hyl : y.out.length ≤ 1000000 := by rw [hyo]; exact ho
  have hw := rhead_any s lim hm hs b p x vo w h hg.ps ho
  have e : R7.head s lim x p = (some (6, n, q), y) := hh
  rw [e] at hw
  have HW := Px.hid hw
  have HG := Px.hid (And.intro hg (And.intro hm (And.intro hmv (And.intro hyo (And.intro hlt hn64)))))
  have hdp : ((dp : Nat) : Int) + ((d + 1) : Nat) = lim.d := by omega
  have HD := Px.hid hd
  clear hw e hh hg hmv hyo hlt hk8 h hm hol ho hd hmay
  have HI := Px.hid hI
  have HML := Px.hid (show s.length ≤ maxLen by unfold maxLen; omega)
  clear hI
  have hdd : ¬ lim.d ≤ (dp : Int) := by push_cast at hdp; omega
  have hdc : decide (lim.d ≤ (dp : Int)) = false := decide_eq_false hdd
  have hdp2 : (dp : Int) ≤ 32 := by have := Cf.may_of HG.out.2.1; omega
  have hfr : y.frames ≤ 1000 := by have := HG.out.1.deep; have := Cf.may_of HG.out.2.1; rw [HG.out.2.2.1.frames]; omega
  have HR := Px.hid (show holdN s (item s lim d) 6 n y q = (match item s lim d { y with out := y.out ++ [⟨6, n, []⟩], frames := y.frames + 1 } q with | (some t, z) => (some t, { z with frames := z.frames - 1 }) | (none, z) => (none, z)) from rfl)
  have HGG := Px.hid (show Good s lim { y with out := y.out ++ [⟨6, n, []⟩], frames := y.frames + 1 } q d from by
    have hg := HG.out.1
    have hmv := HG.out.2.2.1
    exact ⟨hmv.qs, hmv.qb, hmv.err, hmv.taken, hmv.ended, by have := hg.deep; have := hmv.frames; show ((y.frames + 1 + d : Nat) : Int) = lim.d; omega, by have := HG.out.2.2.2.1; have := HG.out.2.2.2.2.1; simp [HG.out.2.2.2.1]; omega⟩)
  have HZFR := Px.hid (show ∀ t z, item s lim d { y with out := y.out ++ [⟨6, n, []⟩], frames := y.frames + 1 } q = (some t, z) → z.frames = y.frames + 1 from fun t z e => inner_frames_6 s lim d HG.out.2.1 n q _ HGG.out t z e)
  have HDD := Px.hid (show ((dp + 1 + d : Nat) : Int) = lim.d by have := HD.out; omega)
  clear HD
  go_enter Tryd.func46, Tryd.ntmps46
  go_wp2_with fail
  refine HW.out.mono ?_
  rintro e w1 ⟨rfl, hx, hxf⟩
  have HX := Px.hid (And.intro hx hxf)
  clear hx hxf HW
  unfold headV
  obtain ⟨_, c1, _, _, _, _, _, _, _⟩ := HX.out.1.rd.cells
  have f11 := HX.out.1.rd.free 11
  have hb : b < w1.heap.size := HX.out.1.rd.lt
  have c11 : w1.cell? ⟨b, 11, none⟩ = some vo := HX.out.1.cell11
  obtain ⟨i0, hi0, hz0, hz1, hz2⟩ := info_parts Tryd.infoAtom
  go_upto_region 18 with fail
  go_cut [] (fun wx => RAfter w1 wx b s lim y ⟨6, n, []⟩ vo)
  case first =>
    go_wp2_with (at_builtin; go_must (refine wpList_append_lies _ rfl _ _ _ rfl 0 72 i0 _ 3 32 Tryd.underlying32 hi0 hz0 hz1 hz2 rfl (by omega) vo y.out.length (y.out.flatMap cAtom) rfl (HX.out.1.out.alloc _) ⟨w1.heap.size, 0, none⟩ 1 1 (cAtom ⟨6, n, []⟩) rfl rfl (World.news_of_block (cs := #[.int .i64 6, .int .u64 n, S []]) (t := 72) (fr := (0, 0)) (heap_alloc_new w1 _)) (by simp [cAtom, Value.oneCell']) (by omega) (by unfold maxLen; omega) (by omega) (by omega) (w1.heap.size + 1) (by simp) ?_))
    intro gg cap w1 hown1 hgrow hat hlt
    have k11 := grown_cell1 hgrow c11 HX.out.1.ob.ne
    have e11 := grown_free1 hgrow c11 f11 HX.out.1.ob.ne
    go_wp2_with fail
    go_meet
    exact HX.out.1.afterOut hown1 (grown_alloc1 hgrow) (hat.elim .inl (fun e => .inr (by omega)))
  case rest =>
    obtain ⟨vo', hy, hyf, hyn⟩ := hcut
    have HY := Px.hid (And.intro hy (And.intro hyf hyn))
    clear hy hyf hyn c11 f11
    clear c1
    obtain ⟨_, _, _, _, _, _, _, c9, _⟩ := HY.out.1.rd.cells
    have f9 := HY.out.1.rd.free 9
    have hzz := HY.out.1.rd.setFrames (y.frames + 1)
    have en : ((y.frames + 1 : Nat) : Int) = (y.frames : Int) + 1 := by omega
    rw [en] at hzz
    have hzf : Fr (It b) wc (wc.setCell ⟨b, 9, none⟩ (.int .i64 ((y.frames : Int) + 1))) := It.set _
    have HZ := Px.hid (show RdAt (wc.setCell ⟨b, 9, none⟩ (.int .i64 ((y.frames : Int) + 1))) b s lim { y with out := y.out ++ [⟨6, n, []⟩], frames := y.frames + 1 } (rfoot b vo') ∧ Fr (rfoot b vo) w (wc.setCell ⟨b, 9, none⟩ (.int .i64 ((y.frames : Int) + 1))) ∧ Fresh w (rfoot b vo) (rfoot b vo') from
      ⟨⟨_, HY.out.1.step hzz hzf rfl, rfl⟩, (HX.out.2.step (Fresh.refl _ _) HY.out.2.1).step (Fresh.trans (Fresh.refl _ _) HX.out.2.size HY.out.2.2) (It.foot (vo := vo') hzf), Fresh.trans (Fresh.refl _ _) HX.out.2.size HY.out.2.2⟩)
    clear hzz hzf en HX HY
    go_wp2_with fail
    have hcl := HI.out b q (dp + 1) _ _ _ HZ.out.1 HGG.out HDD.out
    have edp : ((dp + 1 : Nat) : Int) = (dp : Int) + 1 := by omega
    rw [edp] at hcl
    refine hcl.mono ?_
    clear hcl edp c9 f9
    rintro e w2 ⟨rfl, hd⟩
    cases hr : item s lim d { y with out := y.out ++ [⟨6, n, []⟩], frames := y.frames + 1 } q with
    | mk o z =>
      rw [hr] at hd HR
      have HDI := Px.hid (Did.trans HZ.out.2.1 HZ.out.2.2 hd)
      clear hd
      cases o with
      | none =>
        unfold itemV
        go_wp2
        go_ret2
        rw [HR.out]
        exact ⟨rfl, HDI.out⟩
      | some t =>
        have hzfr : 1 ≤ z.frames ∧ z.frames ≤ 1001 := by
          have := HZFR.out t z hr
          omega
        clear hr
        obtain ⟨F2, d1, d2, d3⟩ := HDI.out
        obtain ⟨vo2, rep, rfl⟩ := d1
        obtain ⟨_, _, _, _, _, _, _, c9, _⟩ := rep.rd.cells
        have f9 := rep.rd.free 9
        have hzz := rep.rd.setFrames (z.frames - 1)
        have en : ((z.frames - 1 : Nat) : Int) = (z.frames : Int) - 1 := by omega
        rw [en] at hzz
        have HFIN := Px.hid (And.intro (rep.step hzz (It.set _) rfl) (And.intro (d2.step d3 (It.foot (vo := vo2) (It.set (i := 9) (.int .i64 ((z.frames : Int) - 1))))) d3))
        clear hzz rep d2 d3 HDI en
        unfold itemV
        go_wp2
        go_ret2
        rw [HR.out]
        exact ⟨rfl, _, ⟨_, HFIN.out.1, rfl⟩, HFIN.out.2.1, HFIN.out.2.2⟩

set_option maxRecDepth 100000 in
set_option maxHeartbeats 4000000 in
theorem item_2 (s : Bytes) (lim : Lim) (hm : lim.may = true) (hs : s.length ≤ 140737488355327) (d : Nat) (b p dp n q : Nat) (x y : St) (F : Nat → Prop) (w : World) (h : RdAt w b s lim x F) (hg : Good s lim x p d) (hd : ((dp + d : Nat) : Int) = lim.d) (hh : Headed s lim x p 2 n q y) :
    Calls Tryd.prog 46 #[.pointer (some ⟨b, 0, none⟩), .int .i64 (p : Nat), .int .i64 (dp : Nat)] w fun r w' => r = .returned (itemV (textN s lim 2 n y p q).1) ∧ Did w b s lim F (textN s lim 2 n y p q).2 w' := by
  obtain ⟨vo, h, rfl⟩ := h
  have hmay := Cf.may_of hm
  have hol := hg.out
  have ho : x.out.length ≤ 1000000 := by omega
  obtain ⟨hmv, hpq, hyo, hn64, hk8, hlt⟩ := hg.head hh
  have hqs := hmv.qs
  have hqb := hmv.qb
  have hyl : y.out.length ≤ 1000000 := by rw [hyo]; exact ho
  have hw := rhead_any s lim hm hs b p x vo w h hg.ps ho
  have e : R7.head s lim x p = (some (2, n, q), y) := hh
  rw [e] at hw
  have HW := Px.hid hw
  have HG := Px.hid (And.intro hg (And.intro hm (And.intro hmv (And.intro hyo (And.intro hlt hn64)))))
  have hdp : ((dp : Nat) : Int) + (d : Nat) = lim.d := by omega
  have HD := Px.hid hd
  clear hw e hh hg hmv hyo hlt hk8 h hm hol ho hd hmay
  have HML := Px.hid (show s.length ≤ maxLen by unfold maxLen; omega)
  go_enter Tryd.func46, Tryd.ntmps46
  go_wp2_with fail
  refine HW.out.mono ?_
  rintro e w1 ⟨rfl, hx, hxf⟩
  have HX := Px.hid (And.intro hx hxf)
  clear hx hxf HW
  unfold headV
  obtain ⟨_, _, _, _, _, _, _, _, _⟩ := HX.out.1.rd.cells
  go_wp2
  go_loopw [10, 12] (fun a i wr => ∃ j z, j ≤ n ∧ i = .int .u64 (j : Nat) ∧ a = .int .i64 ((q + j : Nat) : Int) ∧ q + j ≤ s.length ∧ Hid (RdRep wr b s lim z vo ∧ Fr (rfoot b vo) w wr ∧ wantN s lim n y q = wantN s lim (n - j) z (q + j) ∧ z.out = y.out)) (fun _ i _ => n - (intOf i).toNat)
  case atStart => exact ⟨0, y, Nat.zero_le _, rfl, rfl, hqs, Px.hid ⟨HX.out.1, HX.out.2, rfl, rfl⟩⟩
  case round =>
    clear HX
    obtain ⟨j, z, hj, rfl, rfl, hjs, HZ⟩ := hrel
    have hn64 := HG.out.2.2.2.2.2
    by_cases hlt : j < n
    · have hltz : (j : Int) < (n : Int) := by omega
      have hwj : IntKind.u64.wrap ((j : Int) + 1) = (j : Int) + 1 := IntWalk.u64_in _ ⟨by omega, by omega⟩
      have hmay := Cf.may_of HG.out.2.1
      have hw0 := want_any b _ (q + j) s lim z _ _ wr HZ.out.1.rd HML.out hmay.2.2.2.2.1 hmay.2.2.2.2.2.1 (Nat.le_trans hjs HML.out)
      have hpj : ((q + j : Nat) : Int) = (q : Int) + j := by omega
      rw [hpj] at hw0
      cases hwt : want s lim z (q + j) with
      | mk wb z2 =>
        have hzo := want_out s lim z (q + j)
        rw [hwt] at hw0 hzo
        have harg : wantN s lim n y q = match (wb, z2) with | (false, u) => (false, u) | (true, u) => wantN s lim (n - (j + 1)) u (q + j + 1) := by
          rw [HZ.out.2.2.1, show n - j = (n - (j + 1)) + 1 by omega]
          conv => lhs; unfold wantN; rw [hwt]
          rfl
        cases wb with
        | false =>
          have HR := Px.hid (show textN s lim 2 n y p q = (none, z2) by unfold textN; rw [harg])
          have HW2 := Px.hid hw0
          have HZO := Px.hid hzo
          clear hwt hw0 hzo harg hn64 hmay hpj
          go_wp2_with fail
          refine HW2.out.mono ?_
          rintro e w2 ⟨rfl, hr, hf⟩
          have HY := Px.hid (And.intro (HZ.out.1.step hr hf HZO.out) (HZ.out.2.1.trans (It.foot (vo := vo) hf) (fun _ _ h => h)))
          clear hr hf
          go_wp2
          go_ret2
          rw [HR.out]
          exact ⟨rfl, _, ⟨_, HY.out.1, rfl⟩, HY.out.2, Fresh.refl _ _⟩
        | true =>
          obtain ⟨hps2, hpb2, hyt⟩ := want_true hwt
          have HARG := Px.hid harg
          have HW2 := Px.hid hw0
          have HZO := Px.hid hzo
          clear hwt hw0 hzo harg hn64 hmay hpj hyt
          go_wp2_with fail
          refine HW2.out.mono ?_
          rintro e w2 ⟨rfl, hr, hf⟩
          have HY := Px.hid (And.intro (HZ.out.1.step hr hf HZO.out) (HZ.out.2.1.trans (It.foot (vo := vo) hf) (fun _ _ h => h)))
          clear hr hf
          go_wp2
          go_roundw
          case rel => exact ⟨j + 1, z2, by omega, by go_num, by go_num, by omega, Px.hid ⟨HY.out.1, HY.out.2, HARG.out, HZO.out.trans HZ.out.2.2.2⟩⟩
          case measure => simp [intOf]; omega
    · have hltz : ¬ (j : Int) < (n : Int) := by omega
      have hje : j = n := by omega
      subst hje
      have hwn : wantN s lim j y q = (true, z) := by rw [HZ.out.2.2.1, Nat.sub_self]; rfl
      have hcv : IntKind.i64.wrap (j : Int) = (j : Int) := IntWalk.i64_in _ ⟨by omega, by omega⟩
      have hsl : ∀ w, (Instr.slice 9 (S s) (some (.int .i64 (q : Int))) (some (.int .i64 ((q : Int) + j))) none).run Tryd.prog w = .ok (S ((s.take (q + j)).drop q)) w := fun w => by
        have := slice_S s q (q + j) (by omega) hjs w
        have hpj : ((q + j : Nat) : Int) = (q : Int) + j := by omega
        rw [hpj] at this
        exact this
      have HR := Px.hid (show textN s lim 2 j y p q = (if ((2 == 3) && !Lib.validD ((s.take (q + j)).drop q)) = true then (none, fault z p 9) else (some (q + j), { z with out := z.out ++ [⟨2, 0, (s.take (q + j)).drop q⟩] })) by unfold textN; rw [hwn]; rfl)
      have htl : ((s.take (q + j)).drop q).length ≤ maxLen := by have := HML.out; rw [List.length_drop, List.length_take]; omega
      obtain ⟨t, ht⟩ : ∃ t, t = (s.take (q + j)).drop q := ⟨_, rfl⟩
      rw [← ht] at HR hsl htl
      have HTL := Px.hid htl
      have hzl : z.out.length ≤ 1000000 := by rw [HZ.out.2.2.2]; exact hyl
      have c0 := HZ.out.1.rd.cells.1
      clear ht htl hwn hn64
      have HR := Px.hid (HR.out.trans (if_neg (by simp)))
      have HX := Px.hid (And.intro HZ.out.1 HZ.out.2.1)
      clear HZ
      have f11 := HX.out.1.rd.free 11
      have hb : b < wr.heap.size := HX.out.1.rd.lt
      have c11 : wr.cell? ⟨b, 11, none⟩ = some vo := HX.out.1.cell11
      obtain ⟨i0, hi0, hz0, hz1, hz2⟩ := info_parts Tryd.infoAtom
      go_upto_region 14 with fail
      go_cut [] (fun wx => RAfter wr wx b s lim z ⟨2, 0, t⟩ vo)
      case first =>
        go_wp2_with (at_builtin; go_must (refine wpList_append_lies _ rfl _ _ _ rfl 0 72 i0 _ 3 32 Tryd.underlying32 hi0 hz0 hz1 hz2 rfl (by omega) vo z.out.length (z.out.flatMap cAtom) rfl (HX.out.1.out.alloc _) ⟨wr.heap.size, 0, none⟩ 1 1 (cAtom ⟨2, 0, t⟩) rfl rfl (World.news_of_block (cs := #[.int .i64 2, .int .u64 0, S t]) (t := 72) (fr := (0, 0)) (heap_alloc_new wr _)) (by simp [cAtom, Value.oneCell']) (by omega) (by unfold maxLen; omega) (by omega) (by omega) (wr.heap.size + 1) (by simp) ?_))
        intro gg cap w1 hown1 hgrow hat hlt
        have k11 := grown_cell1 hgrow c11 HX.out.1.ob.ne
        have e11 := grown_free1 hgrow c11 f11 HX.out.1.ob.ne
        go_wp2_with fail
        go_meet
        exact HX.out.1.afterOut hown1 (grown_alloc1 hgrow) (hat.elim .inl (fun e => .inr (by omega)))
      case rest =>
        obtain ⟨vo', hy, hyf, hyn⟩ := hcut
        have HY := Px.hid (And.intro hy (And.intro hyf hyn))
        clear hy hyf hyn c11 f11
        go_wp2
        go_ret2
        rw [HR.out]
        exact ⟨rfl, _, ⟨_, HY.out.1, rfl⟩, HX.out.2.step (Fresh.refl _ _) HY.out.2.1, Fresh.trans (Fresh.refl _ _) HX.out.2.size HY.out.2.2⟩

set_option maxRecDepth 100000 in
set_option maxHeartbeats 4000000 in
theorem item_3 (s : Bytes) (lim : Lim) (hm : lim.may = true) (hs : s.length ≤ 140737488355327) (d : Nat) (b p dp n q : Nat) (x y : St) (F : Nat → Prop) (w : World) (h : RdAt w b s lim x F) (hg : Good s lim x p d) (hd : ((dp + d : Nat) : Int) = lim.d) (hh : Headed s lim x p 3 n q y) :
    Calls Tryd.prog 46 #[.pointer (some ⟨b, 0, none⟩), .int .i64 (p : Nat), .int .i64 (dp : Nat)] w fun r w' => r = .returned (itemV (textN s lim 3 n y p q).1) ∧ Did w b s lim F (textN s lim 3 n y p q).2 w' := by
  obtain ⟨vo, h, rfl⟩ := h
  have hmay := Cf.may_of hm
  have hol := hg.out
  have ho : x.out.length ≤ 1000000 := by omega
  obtain ⟨hmv, hpq, hyo, hn64, hk8, hlt⟩ := hg.head hh
  have hqs := hmv.qs
  have hqb := hmv.qb
  have hyl : y.out.length ≤ 1000000 := by rw [hyo]; exact ho
  have hw := rhead_any s lim hm hs b p x vo w h hg.ps ho
  have e : R7.head s lim x p = (some (3, n, q), y) := hh
  rw [e] at hw
  have HW := Px.hid hw
  have HG := Px.hid (And.intro hg (And.intro hm (And.intro hmv (And.intro hyo (And.intro hlt hn64)))))
  have hdp : ((dp : Nat) : Int) + (d : Nat) = lim.d := by omega
  have HD := Px.hid hd
  clear hw e hh hg hmv hyo hlt hk8 h hm hol ho hd hmay
  have HML := Px.hid (show s.length ≤ maxLen by unfold maxLen; omega)
  go_enter Tryd.func46, Tryd.ntmps46
  go_wp2_with fail
  refine HW.out.mono ?_
  rintro e w1 ⟨rfl, hx, hxf⟩
  have HX := Px.hid (And.intro hx hxf)
  clear hx hxf HW
  unfold headV
  obtain ⟨_, _, _, _, _, _, _, _, _⟩ := HX.out.1.rd.cells
  go_wp2
  go_loopw [10, 12] (fun a i wr => ∃ j z, j ≤ n ∧ i = .int .u64 (j : Nat) ∧ a = .int .i64 ((q + j : Nat) : Int) ∧ q + j ≤ s.length ∧ Hid (RdRep wr b s lim z vo ∧ Fr (rfoot b vo) w wr ∧ wantN s lim n y q = wantN s lim (n - j) z (q + j) ∧ z.out = y.out)) (fun _ i _ => n - (intOf i).toNat)
  case atStart => exact ⟨0, y, Nat.zero_le _, rfl, rfl, hqs, Px.hid ⟨HX.out.1, HX.out.2, rfl, rfl⟩⟩
  case round =>
    clear HX
    obtain ⟨j, z, hj, rfl, rfl, hjs, HZ⟩ := hrel
    have hn64 := HG.out.2.2.2.2.2
    by_cases hlt : j < n
    · have hltz : (j : Int) < (n : Int) := by omega
      have hwj : IntKind.u64.wrap ((j : Int) + 1) = (j : Int) + 1 := IntWalk.u64_in _ ⟨by omega, by omega⟩
      have hmay := Cf.may_of HG.out.2.1
      have hw0 := want_any b _ (q + j) s lim z _ _ wr HZ.out.1.rd HML.out hmay.2.2.2.2.1 hmay.2.2.2.2.2.1 (Nat.le_trans hjs HML.out)
      have hpj : ((q + j : Nat) : Int) = (q : Int) + j := by omega
      rw [hpj] at hw0
      cases hwt : want s lim z (q + j) with
      | mk wb z2 =>
        have hzo := want_out s lim z (q + j)
        rw [hwt] at hw0 hzo
        have harg : wantN s lim n y q = match (wb, z2) with | (false, u) => (false, u) | (true, u) => wantN s lim (n - (j + 1)) u (q + j + 1) := by
          rw [HZ.out.2.2.1, show n - j = (n - (j + 1)) + 1 by omega]
          conv => lhs; unfold wantN; rw [hwt]
          rfl
        cases wb with
        | false =>
          have HR := Px.hid (show textN s lim 3 n y p q = (none, z2) by unfold textN; rw [harg])
          have HW2 := Px.hid hw0
          have HZO := Px.hid hzo
          clear hwt hw0 hzo harg hn64 hmay hpj
          go_wp2_with fail
          refine HW2.out.mono ?_
          rintro e w2 ⟨rfl, hr, hf⟩
          have HY := Px.hid (And.intro (HZ.out.1.step hr hf HZO.out) (HZ.out.2.1.trans (It.foot (vo := vo) hf) (fun _ _ h => h)))
          clear hr hf
          go_wp2
          go_ret2
          rw [HR.out]
          exact ⟨rfl, _, ⟨_, HY.out.1, rfl⟩, HY.out.2, Fresh.refl _ _⟩
        | true =>
          obtain ⟨hps2, hpb2, hyt⟩ := want_true hwt
          have HARG := Px.hid harg
          have HW2 := Px.hid hw0
          have HZO := Px.hid hzo
          clear hwt hw0 hzo harg hn64 hmay hpj hyt
          go_wp2_with fail
          refine HW2.out.mono ?_
          rintro e w2 ⟨rfl, hr, hf⟩
          have HY := Px.hid (And.intro (HZ.out.1.step hr hf HZO.out) (HZ.out.2.1.trans (It.foot (vo := vo) hf) (fun _ _ h => h)))
          clear hr hf
          go_wp2
          go_roundw
          case rel => exact ⟨j + 1, z2, by omega, by go_num, by go_num, by omega, Px.hid ⟨HY.out.1, HY.out.2, HARG.out, HZO.out.trans HZ.out.2.2.2⟩⟩
          case measure => simp [intOf]; omega
    · have hltz : ¬ (j : Int) < (n : Int) := by omega
      have hje : j = n := by omega
      subst hje
      have hwn : wantN s lim j y q = (true, z) := by rw [HZ.out.2.2.1, Nat.sub_self]; rfl
      have hcv : IntKind.i64.wrap (j : Int) = (j : Int) := IntWalk.i64_in _ ⟨by omega, by omega⟩
      have hsl : ∀ w, (Instr.slice 9 (S s) (some (.int .i64 (q : Int))) (some (.int .i64 ((q : Int) + j))) none).run Tryd.prog w = .ok (S ((s.take (q + j)).drop q)) w := fun w => by
        have := slice_S s q (q + j) (by omega) hjs w
        have hpj : ((q + j : Nat) : Int) = (q : Int) + j := by omega
        rw [hpj] at this
        exact this
      have HR := Px.hid (show textN s lim 3 j y p q = (if ((3 == 3) && !Lib.validD ((s.take (q + j)).drop q)) = true then (none, fault z p 9) else (some (q + j), { z with out := z.out ++ [⟨3, 0, (s.take (q + j)).drop q⟩] })) by unfold textN; rw [hwn]; rfl)
      have htl : ((s.take (q + j)).drop q).length ≤ maxLen := by have := HML.out; rw [List.length_drop, List.length_take]; omega
      obtain ⟨t, ht⟩ : ∃ t, t = (s.take (q + j)).drop q := ⟨_, rfl⟩
      rw [← ht] at HR hsl htl
      have HTL := Px.hid htl
      have hzl : z.out.length ≤ 1000000 := by rw [HZ.out.2.2.2]; exact hyl
      have c0 := HZ.out.1.rd.cells.1
      clear ht htl hwn hn64
      by_cases hv : Lib.validD t = true
      · have HR := Px.hid (HR.out.trans (if_neg (by simp [hv])))
        have HV := Px.hid hv
        clear hv
        go_wp2_with fail
        refine (text_any t _ HTL.out).mono ?_
        rintro e w2 ⟨rfl, hs2⟩
        have HX := Px.hid (And.intro (HZ.out.1.same hs2) (HZ.out.2.1.trans (hs2.fr (rfoot b vo)) (fun _ _ h => h)))
        rw [HV.out]
        clear hs2 c0 HZ
        have f11 := HX.out.1.rd.free 11
        have hb : b < w2.heap.size := HX.out.1.rd.lt
        have c11 : w2.cell? ⟨b, 11, none⟩ = some vo := HX.out.1.cell11
        obtain ⟨i0, hi0, hz0, hz1, hz2⟩ := info_parts Tryd.infoAtom
        go_upto_region 14 with fail
        go_cut [] (fun wx => RAfter w2 wx b s lim z ⟨3, 0, t⟩ vo)
        case first =>
          go_wp2_with (at_builtin; go_must (refine wpList_append_lies _ rfl _ _ _ rfl 0 72 i0 _ 3 32 Tryd.underlying32 hi0 hz0 hz1 hz2 rfl (by omega) vo z.out.length (z.out.flatMap cAtom) rfl (HX.out.1.out.alloc _) ⟨w2.heap.size, 0, none⟩ 1 1 (cAtom ⟨3, 0, t⟩) rfl rfl (World.news_of_block (cs := #[.int .i64 3, .int .u64 0, S t]) (t := 72) (fr := (0, 0)) (heap_alloc_new w2 _)) (by simp [cAtom, Value.oneCell']) (by omega) (by unfold maxLen; omega) (by omega) (by omega) (w2.heap.size + 1) (by simp) ?_))
          intro gg cap w1 hown1 hgrow hat hlt
          have k11 := grown_cell1 hgrow c11 HX.out.1.ob.ne
          have e11 := grown_free1 hgrow c11 f11 HX.out.1.ob.ne
          go_wp2_with fail
          go_meet
          exact HX.out.1.afterOut hown1 (grown_alloc1 hgrow) (hat.elim .inl (fun e => .inr (by omega)))
        case rest =>
          obtain ⟨vo', hy, hyf, hyn⟩ := hcut
          have HY := Px.hid (And.intro hy (And.intro hyf hyn))
          clear hy hyf hyn c11 f11
          go_wp2
          go_ret2
          rw [HR.out]
          exact ⟨rfl, _, ⟨_, HY.out.1, rfl⟩, HX.out.2.step (Fresh.refl _ _) HY.out.2.1, Fresh.trans (Fresh.refl _ _) HX.out.2.size HY.out.2.2⟩
      · have hv : Lib.validD t = false := by simpa using hv
        have HR := Px.hid (HR.out.trans (if_pos (by simp [hv])))
        have HV := Px.hid hv
        clear hv
        go_wp2_with fail
        refine (text_any t _ HTL.out).mono ?_
        rintro e w2 ⟨rfl, hs2⟩
        have HX := Px.hid (And.intro (HZ.out.1.same hs2) (HZ.out.2.1.trans (hs2.fr (rfoot b vo)) (fun _ _ h => h)))
        rw [HV.out]
        clear hs2 c0 HZ
        go_wp2_with fail
        refine (xfault_any b _ p 9 s lim z _ _ _ HX.out.1.rd).mono ?_
        rintro e w3 ⟨rfl, hr, hf⟩
        have HY := Px.hid (And.intro (HX.out.1.step hr hf rfl) (HX.out.2.trans (It.foot (vo := vo) hf) (fun _ _ h => h)))
        clear hr hf
        go_wp2
        go_ret2
        rw [HR.out]
        exact ⟨rfl, _, ⟨_, HY.out.1, rfl⟩, HY.out.2, Fresh.refl _ _⟩

set_option maxRecDepth 100000 in
set_option maxHeartbeats 1000000 in
theorem item_none (s : Bytes) (lim : Lim) (hm : lim.may = true) (hs : s.length ≤ 140737488355327) (d b p dp : Nat) (x y : St) (F : Nat → Prop) (w : World) (h : RdAt w b s lim x F) (hg : Good s lim x p d) (hh : R7.head s lim x p = (none, y)) :
    Calls Tryd.prog 46 #[.pointer (some ⟨b, 0, none⟩), .int .i64 (p : Nat), .int .i64 (dp : Nat)] w fun r w' => r = .returned (itemV none) ∧ Did w b s lim F y w' := by
  obtain ⟨vo, h, rfl⟩ := h
  have hmay := Cf.may_of hm
  have hol := hg.out
  have hw := rhead_any s lim hm hs b p x vo w h hg.ps (by omega)
  rw [hh] at hw
  have HW := Px.hid hw
  clear hw hh hg hol hmay h hm
  go_enter Tryd.func46, Tryd.ntmps46
  go_wp2_with fail
  refine HW.out.mono ?_
  rintro e w1 ⟨rfl, hx, hxf⟩
  have HX := Px.hid (And.intro hx hxf)
  clear hx hxf HW
  unfold headV
  go_wp2
  go_ret2
  exact ⟨rfl, _, ⟨_, HX.out.1, rfl⟩, HX.out.2, Fresh.refl _ _⟩

theorem item_any (s : Bytes) (lim : Lim) (hm : lim.may = true) (hs : s.length ≤ 140737488355327) : ∀ d, ItemC s lim d := by
  intro d
  induction d with
  | zero =>
    intro b p dp x F w h hg hd
    have hitem : item s lim 0 x p = match R7.head s lim x p with
      | (none, y) => (none, y)
      | (some (k, n, at_), y) =>
        if k == 2 || k == 3 then textN s lim k n y p at_
        else if k == 4 || k == 5 || k == 6 then (none, fault y p 10)
        else (some at_, { y with out := y.out ++ [⟨k, n, []⟩] }) := rfl
    cases hr : R7.head s lim x p with
    | mk o y =>
      rw [hr] at hitem
      cases o with
      | none => rw [hitem]; exact item_none s lim hm hs 0 b p dp x y F w h hg hr
      | some t =>
        obtain ⟨kk, n, q⟩ := t
        obtain ⟨_, _, _, _, hk8, _⟩ := hg.head hr
        rw [hitem]
        have h8 : kk = 0 ∨ kk = 1 ∨ kk = 2 ∨ kk = 3 ∨ kk = 4 ∨ kk = 5 ∨ kk = 6 ∨ kk = 7 := by omega
        rcases h8 with rfl | rfl | rfl | rfl | rfl | rfl | rfl | rfl
        · exact item_0 s lim hm hs 0 b p dp n q x y F w h hg hd hr
        · exact item_1 s lim hm hs 0 b p dp n q x y F w h hg hd hr
        · exact item_2 s lim hm hs 0 b p dp n q x y F w h hg hd hr
        · exact item_3 s lim hm hs 0 b p dp n q x y F w h hg hd hr
        · exact item_4_full s lim hm hs b p dp n q x y F w h hg hd hr
        · exact item_5_full s lim hm hs b p dp n q x y F w h hg hd hr
        · exact item_6_full s lim hm hs b p dp n q x y F w h hg hd hr
        · exact item_7 s lim hm hs 0 b p dp n q x y F w h hg hd hr
  | succ d ih =>
    intro b p dp x F w h hg hd
    have hitem : item s lim (d + 1) x p = match R7.head s lim x p with
      | (none, y) => (none, y)
      | (some (k, n, at_), y) =>
        if k == 2 || k == 3 then textN s lim k n y p at_
        else if k == 4 || k == 5 || k == 6 then holdN s (item s lim d) k n y at_
        else (some at_, { y with out := y.out ++ [⟨k, n, []⟩] }) := rfl
    cases hr : R7.head s lim x p with
    | mk o y =>
      rw [hr] at hitem
      cases o with
      | none => rw [hitem]; exact item_none s lim hm hs (d + 1) b p dp x y F w h hg hr
      | some t =>
        obtain ⟨kk, n, q⟩ := t
        obtain ⟨_, _, _, _, hk8, _⟩ := hg.head hr
        rw [hitem]
        have h8 : kk = 0 ∨ kk = 1 ∨ kk = 2 ∨ kk = 3 ∨ kk = 4 ∨ kk = 5 ∨ kk = 6 ∨ kk = 7 := by omega
        rcases h8 with rfl | rfl | rfl | rfl | rfl | rfl | rfl | rfl
        · exact item_0 s lim hm hs (d + 1) b p dp n q x y F w h hg hd hr
        · exact item_1 s lim hm hs (d + 1) b p dp n q x y F w h hg hd hr
        · exact item_2 s lim hm hs (d + 1) b p dp n q x y F w h hg hd hr
        · exact item_3 s lim hm hs (d + 1) b p dp n q x y F w h hg hd hr
        · exact item_4 s lim hm hs d ih b p dp n q x y F w h hg hd hr
        · exact item_5 s lim hm hs d ih b p dp n q x y F w h hg hd hr
        · exact item_6 s lim hm hs d ih b p dp n q x y F w h hg hd hr
        · exact item_7 s lim hm hs (d + 1) b p dp n q x y F w h hg hd hr
end Go.Proofs.YtclbbfmpkhfigaaDoor

/-! The walks over the reference's Read and Same (layer 17) and the statements' read (layer 20). -/
namespace Go.Proofs.YtclbbfmpkhfigaaDoor
open Go.RowKit Go.Px Go.Px.R7

/-- A reader by value. -/
def rdV (s : Bytes) (lim : Lim) (x : St) : Value :=
  .agg #[S s, .int .i64 lim.d, .int .i64 lim.i, .int .i64 lim.b, .int .i64 lim.r, .slice none 0 0, .int .i64 x.err, .int .i64 x.place, .int .i64 (x.taken : Nat), .int .i64 (x.frames : Nat), .bool x.ended]
theorem Rd.cells2 {w : World} {b T : Nat} {s : Bytes} {lim : Lim} {x : St} {vn : Value} {tl : List Value} (h : Rd w b T s lim x vn tl) :
    w.cell? ⟨b, 4, none⟩ = some (.int .i64 lim.r) ∧ w.cell? ⟨b, 5, none⟩ = some vn := ⟨cellOf h.blk 4 (by simp [rdCells]), cellOf h.blk 5 (by simp [rdCells])⟩
theorem start_rep {w : World} {b : Nat} (s : Bytes) (lim : Lim) (h : w.heap[b]? = some (.cells #[S s, .int .i64 lim.d, .int .i64 lim.i, .int .i64 lim.b, .int .i64 lim.r, .slice none 0 0, .int .i64 0, .int .i64 0, .int .i64 0, .int .i64 0, .bool false, .slice none 0 0] 94 (0, 0))) :
    RdRep w b s lim R7.start (.slice none 0 0) :=
  ⟨⟨h⟩, owns_nil _ _ _ _, fun k hk => by simp [Value.ownBlock] at hk⟩
theorem start_good (s : Bytes) (lim : Lim) (hm : lim.may = true) : Good s lim R7.start 0 lim.d.toNat := by
  have hmay := Cf.may_of hm
  exact ⟨Nat.zero_le _, by omega, rfl, rfl, rfl, by show ((0 + lim.d.toNat : Nat) : Int) = lim.d; omega, by show ((0 : Nat) : Int) ≤ lim.i; omega⟩

def zero68 : Array Value := #[.string ByteArray.empty, .int .i64 0, .int .i64 0, .int .i64 0, .int .i64 0, .slice none 0 0, .int .i64 0, .int .i64 0, .int .i64 0, .int .i64 0, .bool false]
/-- While it is read: the reader and the block of the result are the call's own. -/
def RFin (w w4 : World) (s : Bytes) (lim : Lim) (y : St) : Prop := ∃ vo, RdRep w4 (w.heap.size + 1 + 1) s lim y vo ∧ Same w w4 ∧ w4.heap[w.heap.size + 1]? = some (.cells zero68 68 (0, 0)) ∧ (∀ k, rfoot (w.heap.size + 1 + 1) vo k → w.heap.size + 2 ≤ k)
theorem RFin.did {w w4 w5 : World} {s : Bytes} {lim : Lim} {y z : St} {vo : Value} (_ : RdRep w4 (w.heap.size + 1 + 1) s lim y vo) (h2 : Same w w4) (h3 : w4.heap[w.heap.size + 1]? = some (.cells zero68 68 (0, 0))) (h4 : ∀ k, rfoot (w.heap.size + 1 + 1) vo k → w.heap.size + 2 ≤ k)
    (hd : Did w4 (w.heap.size + 1 + 1) s lim (rfoot (w.heap.size + 1 + 1) vo) z w5) : RFin w w5 s lim z := by
  obtain ⟨F', ⟨vo', k1, rfl⟩, k2, k3⟩ := hd
  have hlt := ltOf h3
  refine ⟨vo', k1, ?_, ?_, ?_⟩
  · exact Fr.toSame ((h2.fr _).trans k2 (fun _ _ x => x)) (fun k hk => by have := h4 k hk; omega)
  · exact (k2.block _ hlt (fun e => by have := h4 _ e; omega)).trans h3
  · intro k hk
    rcases k3 k hk with e | e
    · exact h4 k e
    · omega
theorem RFin.it {w w4 w5 : World} {s : Bytes} {lim : Lim} {y z : St} (h : RFin w w4 s lim y) (hz : z.out = y.out) (hr : ∀ vo, Rd w4 (w.heap.size + 1 + 1) 94 s lim y (.slice none 0 0) [vo] → Rd w5 (w.heap.size + 1 + 1) 94 s lim z (.slice none 0 0) [vo]) (hf : Fr (It (w.heap.size + 1 + 1)) w4 w5) : RFin w w5 s lim z := by
  obtain ⟨vo, h1, h2, h3, h4⟩ := h
  exact RFin.did h1 h2 h3 h4 ⟨_, ⟨vo, h1.step (hr vo h1.rd) hf hz, rfl⟩, It.foot hf, Fresh.refl _ _⟩
theorem RFin.begin (w : World) (s : Bytes) (lim : Lim) : RFin w (((w.alloc (.cells #[.int .i64 lim.d, .int .i64 lim.i, .int .i64 lim.b, .int .i64 lim.r] 24 (0, 0))).alloc (.cells zero68 68 (0, 0))).alloc (.cells #[S s, .int .i64 lim.d, .int .i64 lim.i, .int .i64 lim.b, .int .i64 lim.r, .slice none 0 0, .int .i64 0, .int .i64 0, .int .i64 0, .int .i64 0, .bool false, .slice none 0 0] 94 (0, 0))) s lim R7.start := by
  refine ⟨.slice none 0 0, start_rep s lim ?_, (((Fr.refl _ w).alloc _).alloc _).alloc _, ?_, ?_⟩
  · have := heap_alloc_new ((w.alloc (.cells #[.int .i64 lim.d, .int .i64 lim.i, .int .i64 lim.b, .int .i64 lim.r] 24 (0, 0))).alloc (.cells zero68 68 (0, 0))) (.cells #[S s, .int .i64 lim.d, .int .i64 lim.i, .int .i64 lim.b, .int .i64 lim.r, .slice none 0 0, .int .i64 0, .int .i64 0, .int .i64 0, .int .i64 0, .bool false, .slice none 0 0] 94 (0, 0))
    simpa using this
  · rw [Below.heap_alloc _ _ _ (by simp)]
    have := heap_alloc_new (w.alloc (.cells #[.int .i64 lim.d, .int .i64 lim.i, .int .i64 lim.b, .int .i64 lim.r] 24 (0, 0))) (.cells zero68 68 (0, 0))
    simpa using this
  · rintro k (rfl | hk)
    · omega
    · simp [Value.ownBlock] at hk

theorem chain11 (w : World) (b : Nat) (v0 v1 v2 v3 v4 v5 v6 v7 v8 v9 v10 : Value) : Fr (fun k => k = b) w (((((((((((w.setCell ⟨b, 0, none⟩ v0).setCell ⟨b, 1, none⟩ v1).setCell ⟨b, 2, none⟩ v2).setCell ⟨b, 3, none⟩ v3).setCell ⟨b, 4, none⟩ v4).setCell ⟨b, 5, none⟩ v5).setCell ⟨b, 6, none⟩ v6).setCell ⟨b, 7, none⟩ v7).setCell ⟨b, 8, none⟩ v8).setCell ⟨b, 9, none⟩ v9).setCell ⟨b, 10, none⟩ v10).drew := ((((((((((((Fr.refl (fun k => k = b) w).setCell (p := ⟨b, 0, none⟩) (.inl rfl) v0).setCell (p := ⟨b, 1, none⟩) (.inl rfl) v1).setCell (p := ⟨b, 2, none⟩) (.inl rfl) v2).setCell (p := ⟨b, 3, none⟩) (.inl rfl) v3).setCell (p := ⟨b, 4, none⟩) (.inl rfl) v4).setCell (p := ⟨b, 5, none⟩) (.inl rfl) v5).setCell (p := ⟨b, 6, none⟩) (.inl rfl) v6).setCell (p := ⟨b, 7, none⟩) (.inl rfl) v7).setCell (p := ⟨b, 8, none⟩) (.inl rfl) v8).setCell (p := ⟨b, 9, none⟩) (.inl rfl) v9).setCell (p := ⟨b, 10, none⟩) (.inl rfl) v10).drew
theorem list_bad {x : St} (h : ¬ x.err = 0) : R7.list x = [] := by unfold R7.list; rw [if_neg (by simpa using h)]
theorem list_ok {x : St} (h : x.err = 0) : R7.list x = x.out := by unfold R7.list; rw [if_pos (by simpa using h)]
theorem rfin_same {w w4 w5 : World} (h : Same w w4) (hc : Fr (fun k => k = w.heap.size + 1) w4 w5) : Same w w5 :=
  Fr.toSame ((h.fr (fun k => k = w.heap.size + 1)).trans hc (fun _ _ x => x)) (fun k hk => by omega)
theorem want_frames {s : Bytes} {lim : Lim} {x z : St} {p : Nat} {b : Bool} (h : want s lim x p = (b, z)) : want s lim { x with frames := 0 } p = (b, { z with frames := 0 }) := by
  unfold want at h ⊢
  by_cases h1 : p < s.length ∧ (p : Int) < lim.b
  · rw [if_pos h1] at h ⊢
    simp only [Prod.mk.injEq] at h
    obtain ⟨rfl, rfl⟩ := h
    rfl
  · rw [if_neg h1] at h ⊢
    by_cases h2 : lim.b < s.length
    · rw [if_pos h2] at h ⊢
      simp only [Prod.mk.injEq] at h
      obtain ⟨rfl, rfl⟩ := h
      rfl
    · rw [if_neg h2] at h ⊢
      simp only [Prod.mk.injEq] at h
      obtain ⟨rfl, rfl⟩ := h
      rfl
set_option maxRecDepth 100000 in
set_option maxHeartbeats 4000000 in
theorem read17_any (s : Bytes) (lim : Lim) (w : World) (hm : lim.may = true) (hs : s.length ≤ 140737488355327) :
    Calls Tryd.prog 34 #[S s, limV lim] w fun r w' => ∃ v, r = .returned (.tuple #[v, rdV s lim (R7.read s lim)]) ∧ Owns w' 72 3 cAtom v (list (R7.read s lim)) ∧ Same w w' ∧ (∀ g, v.ownBlock = some g → w.heap.size ≤ g) := by
  have hd : ((lim.d.toNat : Nat) : Int) = lim.d := by have := Cf.may_of hm; omega
  have HM := Px.hid (And.intro hm (And.intro hs hd))
  have hsz : (ByteArray.mk s.toArray).size = s.length := size_S s
  have hsl : s.length ≤ 140737488355327 := hs
  clear hm hs hd
  unfold limV
  go_enter Tryd.func34, Tryd.ntmps34
  go_wp2_with fail
  have HF := Px.hid (RFin.begin w s lim)
  have hi := item_any s lim HM.out.1 HM.out.2.1 lim.d.toNat (w.heap.size + 1 + 1) 0 0 R7.start _ _ ⟨_, HF.out.choose_spec.1, rfl⟩ (start_good s lim HM.out.1) (by rw [Nat.zero_add]; exact HM.out.2.2)
  have HI := Px.hid hi
  clear hi
  refine HI.out.mono ?_
  rintro e w1 ⟨rfl, hd⟩
  have hgood := start_good s lim HM.out.1
  cases hr : R7.item s lim lim.d.toNat R7.start 0 with
  | mk o y =>
    rw [hr] at hd
    have HY := Px.hid (show RFin w w1 s lim y from by
      have hs := HF.out.choose_spec
      exact RFin.did hs.1 hs.2.1 hs.2.2.1 hs.2.2.2 hd)
    have hsim := item_sim (s := s) HM.out.1 lim.d.toNat R7.start 0 _ hgood.sim hgood.out
    rw [hr] at hsim
    clear hd HF HI
    cases o with
    | none =>
      have HE := Px.hid (show R7.read s lim = y by unfold R7.read; rw [hr])
      have hne : ¬ y.err = 0 := hsim.xerr
      have hneb : (y.err == 0) = false := by simpa using hne
      have hneb2 : (y.err != 0) = true := by simpa using hne
      have HN := Px.hid hne
      clear hne hsim hr hgood
      unfold itemV
      obtain ⟨vo, h1, h2, h3, h4⟩ := HY.out
      obtain ⟨c0, c1, c2, c3, c6, c7, c8, c9, c10⟩ := h1.rd.cells
      obtain ⟨c4, c5⟩ := h1.rd.cells2
      have c11 := h1.cell11
      have hz : ∀ i v, zero68[i]? = some v → w1.cell? ⟨w.heap.size + 1, i, none⟩ = some v := fun i v e => cellOf h3 i e
      have z0 := hz 0 _ rfl
      have z1 := hz 1 _ rfl
      have z2 := hz 2 _ rfl
      have z3 := hz 3 _ rfl
      have z4 := hz 4 _ rfl
      have z5 := hz 5 _ rfl
      have z6 := hz 6 _ rfl
      have z7 := hz 7 _ rfl
      have z8 := hz 8 _ rfl
      have z9 := hz 9 _ rfl
      have z10 := hz 10 _ rfl
      have zf : ∀ i, w1.frozen? ⟨w.heap.size + 1, i, none⟩ = false := freeOf h3
      have f0 := zf 0
      have f1 := zf 1
      have f2 := zf 2
      have f3 := zf 3
      have f4 := zf 4
      have f5 := zf 5
      have f6 := zf 6
      have f7 := zf 7
      have f8 := zf 8
      have f9 := zf 9
      have f10 := zf 10
      have HK := Px.hid (And.intro h1 (And.intro h2 (And.intro h3 h4)))
      clear h1 h2 h3 h4 hz zf HY
      go_wp2_with fail
      go_region
      all_goals
        go_wp2
        refine bodyPost_ret (v := .tuple #[.slice none 0 0, rdV s lim y]) (by simp [results, Tryd.results34, go_sem, rdV, z0, z1, z2, z3, z4, z5, z6, z7, z8, z9, z10]) rfl ?_
        rw [HE.out]
        refine ⟨_, rfl, ?_, ?_, fun g hg => by simp [Value.ownBlock] at hg⟩
        · rw [list_bad HN.out]; exact owns_nil _ _ _ _
        · exact rfin_same HK.out.2.1 (chain11 _ _ _ _ _ _ _ _ _ _ _ _ _)
    | some q =>
      obtain ⟨i1, _⟩ := hsim
      have hye := i1.err
      have hqs := i1.qs
      have HI1 := Px.hid i1
      unfold itemV
      by_cases hlt : q < s.length
      · have hltz : (q : Int) < (s.length : Int) := by omega
        have HE := Px.hid (show R7.read s lim = (match want s lim y q with | (true, y) => fault y q 9 | (false, y) => y) by unfold R7.read; rw [hr]; simp only; rw [if_pos hlt]; rfl)
        have hmay := Cf.may_of HM.out.1
        have hml : s.length ≤ maxLen := by unfold maxLen; omega
        have hw0 := fun vo (h : Rd w1 (w.heap.size + 1 + 1) 94 s lim y (.slice none 0 0) [vo]) => want_any (w.heap.size + 1 + 1) _ q s lim y _ _ w1 h hml hmay.2.2.2.2.1 hmay.2.2.2.2.2.1 (Nat.le_trans hqs hml)
        have hzo := want_out s lim y q
        cases hwt : want s lim y q with
        | mk wb z =>
          rw [hwt] at hw0 hzo HE
          cases wb with
          | false =>
            have hne : ¬ z.err = 0 := by
              have h2 := want_no (f := { Cf.init lim with text := s.take q, out := y.out, next := 0 }) (x := { y with frames := 0 }) (p := q) (y := { z with frames := 0 }) (s := s) (lim := lim) ⟨rfl, rfl, i1.qs, i1.qb, rfl, i1.err, i1.taken, rfl, i1.ended⟩ (by simp) (want_frames hwt)
              exact h2.xerr
            have HZO := Px.hid hzo
            have HW := Px.hid hw0
            have hneb : (z.err == 0) = false := by simpa using hne
            have hneb2 : (z.err != 0) = true := by simpa using hne
            have HN := Px.hid hne
            clear hne hr hgood i1 hye hwt hw0 hzo hmay hml hlt
            obtain ⟨vo0, r1, _⟩ := HY.out
            have HRD := Px.hid r1
            clear r1
            go_wp2_with fail
            refine (HW.out vo0 HRD.out.rd).mono ?_
            rintro e w2 ⟨rfl, hrd, hf⟩
            have HY := Px.hid (show RFin w w2 s lim z from by
              obtain ⟨vo1, k1, k2, k3, k4⟩ := HY.out
              have e : vo1 = vo0 := by
                have a := k1.cell11
                have b := HRD.out.cell11
                rw [a] at b
                exact Option.some.inj b
              subst e
              exact RFin.did k1 k2 k3 k4 ⟨_, ⟨vo1, k1.step hrd hf HZO.out, rfl⟩, It.foot hf, Fresh.refl _ _⟩)
            clear hrd hf HRD HW
            obtain ⟨vo, h1, h2, h3, h4⟩ := HY.out
            obtain ⟨c0, c1, c2, c3, c6, c7, c8, c9, c10⟩ := h1.rd.cells
            obtain ⟨c4, c5⟩ := h1.rd.cells2
            have c11 := h1.cell11
            have hz : ∀ i v, zero68[i]? = some v → w2.cell? ⟨w.heap.size + 1, i, none⟩ = some v := fun i v e => cellOf h3 i e
            have z0 := hz 0 _ rfl
            have z1 := hz 1 _ rfl
            have z2 := hz 2 _ rfl
            have z3 := hz 3 _ rfl
            have z4 := hz 4 _ rfl
            have z5 := hz 5 _ rfl
            have z6 := hz 6 _ rfl
            have z7 := hz 7 _ rfl
            have z8 := hz 8 _ rfl
            have z9 := hz 9 _ rfl
            have z10 := hz 10 _ rfl
            have zf : ∀ i, w2.frozen? ⟨w.heap.size + 1, i, none⟩ = false := freeOf h3
            have f0 := zf 0
            have f1 := zf 1
            have f2 := zf 2
            have f3 := zf 3
            have f4 := zf 4
            have f5 := zf 5
            have f6 := zf 6
            have f7 := zf 7
            have f8 := zf 8
            have f9 := zf 9
            have f10 := zf 10
            have HK := Px.hid (And.intro h1 (And.intro h2 (And.intro h3 h4)))
            clear h1 h2 h3 h4 hz zf HY
            go_wp2_with fail
            go_region
            all_goals
              go_wp2
              refine bodyPost_ret (v := .tuple #[.slice none 0 0, rdV s lim z]) (by simp [results, Tryd.results34, go_sem, rdV, z0, z1, z2, z3, z4, z5, z6, z7, z8, z9, z10]) rfl ?_
              rw [HE.out]
              refine ⟨_, rfl, ?_, ?_, fun g hg => by simp [Value.ownBlock] at hg⟩
              · rw [list_bad HN.out]; exact owns_nil _ _ _ _
              · exact rfin_same HK.out.2.1 (chain11 _ _ _ _ _ _ _ _ _ _ _ _ _)
          | true =>
            have HZO := Px.hid hzo
            have HW := Px.hid hw0
            have HN := Px.hid (show ¬ (fault z (q : Int) 9).err = 0 by simp [fault])
            clear hr hgood i1 hye hwt hw0 hzo hmay hml hlt
            obtain ⟨vo0, r1, _⟩ := HY.out
            have HRD := Px.hid r1
            clear r1
            go_wp2_with fail
            refine (HW.out vo0 HRD.out.rd).mono ?_
            rintro e w2 ⟨rfl, hrd, hf⟩
            have HRD2 := Px.hid (And.intro hrd hf)
            clear hrd hf
            go_wp2_with fail
            refine (xfault_any (w.heap.size + 1 + 1) _ q 9 s lim z _ _ w2 HRD2.out.1).mono ?_
            rintro e w3 ⟨rfl, hrd, hf⟩
            have HY := Px.hid (show RFin w w3 s lim (fault z (q : Int) 9) from by
              obtain ⟨vo1, k1, k2, k3, k4⟩ := HY.out
              have e : vo1 = vo0 := by
                have a := k1.cell11
                have b := HRD.out.cell11
                rw [a] at b
                exact Option.some.inj b
              subst e
              exact RFin.did k1 k2 k3 k4 ⟨_, ⟨vo1, (k1.step HRD2.out.1 HRD2.out.2 HZO.out).step hrd hf rfl, rfl⟩, It.foot (HRD2.out.2.trans hf (fun _ _ h => h)), Fresh.refl _ _⟩)
            clear hrd hf HRD HW HRD2
            obtain ⟨vo, h1, h2, h3, h4⟩ := HY.out
            obtain ⟨c0, c1, c2, c3, c6, c7, c8, c9, c10⟩ := h1.rd.cells
            obtain ⟨c4, c5⟩ := h1.rd.cells2
            have c11 := h1.cell11
            have hz : ∀ i v, zero68[i]? = some v → w3.cell? ⟨w.heap.size + 1, i, none⟩ = some v := fun i v e => cellOf h3 i e
            have z0 := hz 0 _ rfl
            have z1 := hz 1 _ rfl
            have z2 := hz 2 _ rfl
            have z3 := hz 3 _ rfl
            have z4 := hz 4 _ rfl
            have z5 := hz 5 _ rfl
            have z6 := hz 6 _ rfl
            have z7 := hz 7 _ rfl
            have z8 := hz 8 _ rfl
            have z9 := hz 9 _ rfl
            have z10 := hz 10 _ rfl
            have zf : ∀ i, w3.frozen? ⟨w.heap.size + 1, i, none⟩ = false := freeOf h3
            have f0 := zf 0
            have f1 := zf 1
            have f2 := zf 2
            have f3 := zf 3
            have f4 := zf 4
            have f5 := zf 5
            have f6 := zf 6
            have f7 := zf 7
            have f8 := zf 8
            have f9 := zf 9
            have f10 := zf 10
            have HK := Px.hid (And.intro h1 (And.intro h2 (And.intro h3 h4)))
            clear h1 h2 h3 h4 hz zf HY
            go_wp2_with fail
            go_region
            all_goals
              go_wp2
              refine bodyPost_ret (v := .tuple #[.slice none 0 0, rdV s lim (fault z (q : Int) 9)]) (by simp [results, Tryd.results34, go_sem, rdV, z0, z1, z2, z3, z4, z5, z6, z7, z8, z9, z10]) rfl ?_
              rw [HE.out]
              refine ⟨_, rfl, ?_, ?_, fun g hg => by simp [Value.ownBlock] at hg⟩
              · rw [list_bad HN.out]; exact owns_nil _ _ _ _
              · exact rfin_same HK.out.2.1 (chain11 _ _ _ _ _ _ _ _ _ _ _ _ _)
      · have hltz : ¬ (q : Int) < (s.length : Int) := by omega
        have HE := Px.hid (show R7.read s lim = y by unfold R7.read; rw [hr]; simp only; rw [if_neg hlt])
        have hneb : (y.err == 0) = true := by simpa using hye
        have hneb2 : (y.err != 0) = false := by simp [hye]
        have HN := Px.hid hye
        clear hye hr hgood i1 hlt
        obtain ⟨vo, h1, h2, h3, h4⟩ := HY.out
        obtain ⟨c0, c1, c2, c3, c6, c7, c8, c9, c10⟩ := h1.rd.cells
        obtain ⟨c4, c5⟩ := h1.rd.cells2
        have c11 := h1.cell11
        have hz : ∀ i v, zero68[i]? = some v → w1.cell? ⟨w.heap.size + 1, i, none⟩ = some v := fun i v e => cellOf h3 i e
        have z0 := hz 0 _ rfl
        have z1 := hz 1 _ rfl
        have z2 := hz 2 _ rfl
        have z3 := hz 3 _ rfl
        have z4 := hz 4 _ rfl
        have z5 := hz 5 _ rfl
        have z6 := hz 6 _ rfl
        have z7 := hz 7 _ rfl
        have z8 := hz 8 _ rfl
        have z9 := hz 9 _ rfl
        have z10 := hz 10 _ rfl
        have zf : ∀ i, w1.frozen? ⟨w.heap.size + 1, i, none⟩ = false := freeOf h3
        have f0 := zf 0
        have f1 := zf 1
        have f2 := zf 2
        have f3 := zf 3
        have f4 := zf 4
        have f5 := zf 5
        have f6 := zf 6
        have f7 := zf 7
        have f8 := zf 8
        have f9 := zf 9
        have f10 := zf 10
        have HK := Px.hid (And.intro h1 (And.intro h2 (And.intro h3 h4)))
        clear h1 h2 h3 h4 hz zf HY
        go_wp2_with fail
        go_region
        all_goals
          go_wp2
          refine bodyPost_ret (v := .tuple #[vo, rdV s lim y]) (by simp [results, Tryd.results34, go_sem, rdV, z0, z1, z2, z3, z4, z5, z6, z7, z8, z9, z10]) rfl ?_
          rw [HE.out]
          refine ⟨_, rfl, ?_, ?_, fun g hg => by have := HK.out.2.2.2 g (.inr hg); omega⟩
          · rw [list_ok HN.out]; exact HK.out.1.out.fr (F := fun k => k = w.heap.size + 1) (chain11 _ _ _ _ _ _ _ _ _ _ _ _ _) (fun k hk e => by have := HK.out.2.2.2 k (.inr hk); omega)
          · exact rfin_same HK.out.2.1 (chain11 _ _ _ _ _ _ _ _ _ _ _ _ _)
end Go.Proofs.YtclbbfmpkhfigaaDoor

/-! The walks over the reference's Same (layer 17) and the statements' read (layer 20). -/
namespace Go.Proofs.YtclbbfmpkhfigaaDoor
open Go.RowKit Go.Px Go.Px.R7

set_option maxRecDepth 100000 in
set_option maxHeartbeats 2000000 in
theorem same_any (w : World) (va vb : Value) (l : List Atom) (ha : Owns w 72 3 cAtom va l) (hb : Owns w 72 3 cAtom vb l) :
    Calls Tryd.prog 20 #[va, vb] w fun r w' => r = .returned (.bool true) ∧ Same w w' := by
  obtain ⟨aa, ac, hva, hac1, hac2, _⟩ := ha.len
  obtain ⟨ba, bc, hvb, _, _, _⟩ := hb.len
  subst hva hvb
  have HA := Px.hid (And.intro ha hb)
  have hlm : l.length ≤ maxLen := Nat.le_trans hac1 hac2
  unfold maxLen at hlm
  clear ha hb hac1 hac2
  go_enter Tryd.func20, Tryd.ntmps20
  go_wp2
  go_loopw [5] (fun i wr => ∃ k : Nat, k ≤ l.length ∧ i = .int .i64 (k : Nat) ∧ Same w wr) (fun i _ => l.length - (intOf i).toNat)
  case atStart => exact ⟨0, Nat.zero_le _, rfl, Same.refl w⟩
  case round =>
    obtain ⟨k, hk, rfl, hs⟩ := hrel
    by_cases hlt : k < l.length
    · have hltz : (k : Int) < (l.length : Int) := by omega
      obtain ⟨g1, p1, e1, _, _, c1, _⟩ := (Owns.same HA.out.1 hs).at cAtom_len (j := k) (a := l[k]) (by simp [hlt])
      obtain ⟨g2, p2, e2, _, _, c2, _⟩ := (Owns.same HA.out.2 hs).at cAtom_len (j := k) (a := l[k]) (by simp [hlt])
      simp only [Value.slice.injEq, true_and] at e1 e2
      obtain ⟨rfl, rfl⟩ := e1
      obtain ⟨rfl, rfl⟩ := e2
      have x0 := c1 0 _ rfl
      have x1 := c1 1 _ rfl
      have x2 := c1 2 _ rfl
      have y0 := c2 0 _ rfl
      have y1 := c2 1 _ rfl
      have y2 := c2 2 _ rfl
      have HS := Px.hid hs
      clear c1 c2 hs HA
      obtain ⟨kd, hkd⟩ : ∃ kd, kd = l[k].kind := ⟨_, rfl⟩
      obtain ⟨nm, hnm⟩ : ∃ nm, nm = l[k].num := ⟨_, rfl⟩
      obtain ⟨tx, htx⟩ : ∃ tx, tx = l[k].text := ⟨_, rfl⟩
      rw [← hkd] at x0 y0
      rw [← hnm] at x1 y1
      rw [← htx] at x2 y2
      clear hkd hnm htx
      rw [Nat.add_zero] at x0 y0
      go_wp2_with fail
      go_quiet (fail)
      go_wp2
      go_roundw
      case rel => exact ⟨k + 1, by omega, by go_num, (HS.out.drewN nq)⟩
      case measure => simp [intOf]; omega
    · have hltz : ¬ (k : Int) < (l.length : Int) := by omega
      have HS := Px.hid hs
      clear hs
      go_wp2
      go_ret
      exact ⟨rfl, HS.out⟩

/-- What the statements' read hands back. -/
def readV (v : Value) (x : St) : Value := .tuple #[v, .int .i64 x.place, .int .i64 x.err, .int .i64 (x.taken : Nat), .int .i64 (x.frames : Nat), .int .i64 (if x.ended then 0 else x.err)]
set_option maxRecDepth 100000 in
set_option maxHeartbeats 2000000 in
theorem lawread_any (s : Bytes) (lim : Lim) (w : World) (hm : lim.may = true) (hs : s.length ≤ 140737488355327) :
    Calls Tryd.prog 18 #[S s, limV lim] w fun r w' => ∃ v, r = .returned (readV v (R7.read s lim)) ∧ Owns w' 72 3 cAtom v (R7.list (R7.read s lim)) ∧ Same w w' := by
  have HM := Px.hid (And.intro hm hs)
  clear hm hs
  unfold limV
  go_enter Tryd.func18, Tryd.ntmps18
  go_wp2_with fail
  refine (read17_any s lim _ HM.out.1 HM.out.2).mono ?_
  rintro e w1 ⟨v, rfl, hv, hs, hvf⟩
  have HV := Px.hid (And.intro hv (And.intro (Same.trans ((Fr.refl (fun _ => False) w).alloc _) hs) hvf))
  clear hv hs hvf
  obtain ⟨x, hx⟩ : ∃ x, x = R7.read s lim := ⟨_, rfl⟩
  rw [← hx] at HV ⊢
  have HX := Px.hid hx
  clear hx
  unfold rdV
  cases he : x.ended
  · have HR := Px.hid (show readV v x = .tuple #[v, .int .i64 x.place, .int .i64 x.err, .int .i64 (x.taken : Nat), .int .i64 (x.frames : Nat), .int .i64 x.err] by unfold readV; rw [he]; rfl)
    clear he
    go_wp2_with fail
    go_quiet (fail)
    go_wp2
    refine bodyPost_ret (v := .tuple #[v, .int .i64 x.place, .int .i64 x.err, .int .i64 (x.taken : Nat), .int .i64 (x.frames : Nat), .int .i64 x.err]) (by simp [results, Tryd.results18, go_sem]) rfl ?_
    rw [← HX.out]
    refine ⟨v, congrArg Ending.returned HR.out.symm, ?_⟩
    exact ⟨(HV.out.1.alloc _).drewN nq, (HV.out.2.1.alloc _).drewN nq⟩
  · have HR := Px.hid (show readV v x = .tuple #[v, .int .i64 x.place, .int .i64 x.err, .int .i64 (x.taken : Nat), .int .i64 (x.frames : Nat), .int .i64 0] by unfold readV; rw [he]; rfl)
    clear he
    go_wp2_with fail
    go_quiet (fail)
    go_wp2
    refine bodyPost_ret (v := .tuple #[v, .int .i64 x.place, .int .i64 x.err, .int .i64 (x.taken : Nat), .int .i64 (x.frames : Nat), .int .i64 0]) (by simp [results, Tryd.results18, go_sem]) rfl ?_
    rw [← HX.out]
    refine ⟨v, congrArg Ending.returned HR.out.symm, ?_⟩
    exact ⟨(HV.out.1.alloc _).drewN nq, (HV.out.2.1.alloc _).drewN nq⟩
end Go.Proofs.YtclbbfmpkhfigaaDoor

/-! The walks over the statements CborfeedPieces and CborfeedStates. -/
namespace Go.Proofs.YtclbbfmpkhfigaaDoor
open Go.RowKit Go.Px Go.Px.Cf

/-- A slice that reads as these strings. -/
structure StrsAt (w : World) (v : Value) (ss : List Bytes) : Prop where
  slice : ∃ a cap, v = .slice a ss.length cap
  len : ss.length ≤ maxLen
  each : ∀ i (h : i < ss.length), ss[i].length ≤ maxLen
  cell : ∀ i (h : i < ss.length), ∃ b off cap, v = .slice (some ⟨b, off, none⟩) ss.length cap ∧ b < w.heap.size ∧ w.cell? ⟨b, off + i, none⟩ = some (S ss[i])
theorem StrsAt.same {w w' : World} {v : Value} {ss : List Bytes} (h : StrsAt w v ss) (hs : Same w w') : StrsAt w' v ss :=
  ⟨h.slice, h.len, h.each, fun i hi => by
    obtain ⟨b, off, cap, h1, h2, h3⟩ := h.cell i hi
    exact ⟨b, off, cap, h1, Nat.lt_of_lt_of_le h2 hs.size, (hs.cell (p := ⟨b, off + i, none⟩) h2 (fun x => x)).trans h3⟩⟩
theorem app_S (a b : List UInt8) : (ByteArray.mk a.toArray) ++ (ByteArray.mk b.toArray) = ⟨(a ++ b).toArray⟩ := by
  apply ByteArray.ext
  simp
/-- The pieces so far. -/
def upto (ss : List Bytes) (k : Nat) : Bytes := (ss.take k).flatten
theorem Own.sm {w w' : World} {b : Nat} {f : Feed} (h : Own w w' b f) : Same w w' := by
  obtain ⟨_, _, _, h, _⟩ := h
  exact h
theorem upto_succ (ss : List Bytes) (k : Nat) (h : k < ss.length) : upto ss (k + 1) = upto ss k ++ ss[k] := by
  unfold upto
  rw [List.take_succ_eq_append_getElem h, List.flatten_append]
  simp

/-- What the feed tells, by the reference. -/
theorem feed_now (s : Bytes) (lim : Lim) (hm : lim.may = true) : (if (R7.read s lim).ended then 0 else (R7.read s lim).err) = (Cf.write (Cf.init lim) s).err := (R7.feed_ref s lim hm).1.symm

set_option maxRecDepth 100000 in
set_option maxHeartbeats 4000000 in
theorem law_CborfeedPieces {v : Value} (ss : List Bytes) (l : Lim) (w : World) (hv : StrsAt w v ss) (hT : Tabs w) :
    Calls Tryd.prog 3 #[v, limV l] w fun e w' => e = .returned (.bool true) ∧ Below w.heap.size w w' := by
  have HT := Px.hid hT
  have HV := Px.hid hv
  obtain ⟨va, vc, hvs⟩ := hv.slice
  have hlm := hv.len
  unfold maxLen at hlm
  subst hvs
  clear hT hv
  unfold limV
  go_enter Tryd.func3, Tryd.ntmps3
  go_wp2_with fail
  have HL := Px.hid (LimIn.boxed w l)
  refine (wakes_any _ (HT.out.lim HL.out) (HT.out.lim HL.out).two).mono ?_
  rintro e w1 ⟨rfl, hs⟩
  have HL := Px.hid (HL.out.same hs)
  have HL1 := HL
  have HT := Px.hid (HT.out.lim HL.out)
  have HV := Px.hid (HV.out.same HL.out.1)
  clear hs
  obtain ⟨c0, c1, c2, c3⟩ := HL.out.cells
  cases hm : l.may
  · have HM := Px.hid hm
    clear hm
    go_wp2_with fail
    refine (new_no l _ HM.out).mono ?_
    rintro e w2 ⟨rfl, hs⟩
    have HL := Px.hid (HL.out.same hs)
    clear hs c0 c1 c2 c3
    obtain ⟨c0, c1, c2, c3⟩ := HL.out.cells
    go_wp2_with fail
    refine (refMay_any l _).mono ?_
    rintro e w3 ⟨rfl, hs⟩
    have HL := Px.hid (HL.out.same hs)
    clear hs
    rw [HM.out]
    go_wp2
    go_ret
    exact ⟨rfl, HL.out.1.below⟩
  · have HM := Px.hid hm
    clear hm
    go_wp2_with fail
    refine (Own.new (Same.refl w1) HM.out).mono ?_
    rintro e w2 ⟨b, rfl, ho, hs, hb⟩
    have HO := Px.hid ho
    have HL := Px.hid (HL.out.same hs)
    clear ho hs hb c0 c1 c2 c3
    obtain ⟨c0, c1, c2, c3⟩ := HL.out.cells
    go_wp2_with fail
    refine (refMay_any l _).mono ?_
    rintro e w3 ⟨rfl, hs⟩
    have HO := Px.hid (HO.out.same hs)
    have HL := Px.hid (HL.out.same hs)
    clear hs c0 c1 c2 c3
    rw [HM.out]
    by_cases h100 : 100 < ss.length
    · have hz : (100 : Int) < (ss.length : Int) := by omega
      clear h100
      go_wp2
      go_ret
      exact ⟨rfl, HL.out.1.below⟩
    · have hz : ¬ (100 : Int) < (ss.length : Int) := by omega
      go_wp2
      go_loopw [7, 60] (fun al i wr => ∃ k : Nat, k ≤ ss.length ∧ i = .int .i64 (k : Nat) ∧ al = S (upto ss k) ∧ Hid ((upto ss k).length ≤ 4000 ∧ Own w1 wr b (Cf.write (Cf.init l) (upto ss k)))) (fun _ i _ => ss.length - (intOf i).toNat)
      case atStart => exact ⟨0, Nat.zero_le _, rfl, rfl, Px.hid ⟨by simp [upto], HO.out⟩⟩
      case round =>
        clear HO HL
        obtain ⟨k, hk, rfl, rfl, HR⟩ := hrel
        obtain ⟨hl4, ho⟩ := HR.out
        obtain ⟨c0, c1, c2, c3⟩ := (HL1.out.same ho.sm).cells
        have hsz : (ByteArray.mk (upto ss k).toArray).size = (upto ss k).length := size_S _
        by_cases hlt : k < ss.length
        · have hltz : (k : Int) < (ss.length : Int) := by omega
          obtain ⟨vb, voff, vc2, hve, hvb, hcell⟩ := HV.out.cell k hlt
          simp only [Value.slice.injEq, true_and] at hve
          obtain ⟨rfl, rfl⟩ := hve
          have hcell := (ho.sm.cell (p := ⟨vb, voff + k, none⟩) hvb (fun x => x)).trans hcell
          have HUP := Px.hid (upto_succ ss k hlt)
          have hpl := HV.out.each k hlt
          unfold maxLen at hpl
          obtain ⟨pc, hpc⟩ : ∃ pc, pc = ss[k] := ⟨_, rfl⟩
          rw [← hpc] at hcell HUP hpl
          have hpsz : (ByteArray.mk pc.toArray).size = pc.length := size_S _
          clear hpc ho
          by_cases h2000 : 2000 < (upto ss k).length
          · have z1 : (2000 : Int) < ((upto ss k).length : Int) := by omega
            clear h2000
            go_wp2
            go_ret
            exact ⟨rfl, (HL1.out.1.trans HR.out.2.sm).below⟩
          · have z1 : ¬ (2000 : Int) < ((upto ss k).length : Int) := by omega
            by_cases hp2000 : 2000 < pc.length
            · have z2 : (2000 : Int) < (pc.length : Int) := by omega
              clear h2000 hp2000
              go_wp2
              go_ret
              exact ⟨rfl, (HL1.out.1.trans HR.out.2.sm).below⟩
            · have z2 : ¬ (2000 : Int) < (pc.length : Int) := by omega
              have happ := app_S (upto ss k) pc
              have HLL := Px.hid (show (upto ss k ++ pc).length ≤ 4000 by rw [List.length_append]; omega)
              have HPL := Px.hid (show pc.length ≤ maxLen by unfold maxLen; omega)
              clear h2000 hp2000
              go_wp2_with fail
              refine (HR.out.2.write HT.out.two HT.out pc HPL.out).mono ?_
              rintro e w4 ⟨rfl, ho⟩
              rw [← Cf.write_append, ← HUP.out] at ho ⊢
              have hnow := feed_now (upto ss (k + 1)) l HM.out
              rw [← HUP.out] at HLL
              have HO := Px.hid ho
              clear c0 c1 c2 c3 hcell happ hpsz hsz
              obtain ⟨c0, c1, c2, c3⟩ := (HL1.out.same ho.sm).cells
              have HN := Px.hid hnow
              clear ho hnow
              go_wp2_with fail
              refine (lawread_any (upto ss (k + 1)) l _ HM.out (by have := HLL.out; omega)).mono ?_
              rintro e w5 ⟨vr, rfl, hvr, hs⟩
              unfold readV
              rw [HN.out]
              have HO := Px.hid (HO.out.same hs)
              clear hvr hs c0 c1 c2 c3
              go_wp2
              go_roundw
              case rel => exact ⟨k + 1, by omega, by go_num, rfl, Px.hid ⟨HLL.out, HO.out⟩⟩
              case measure => simp [intOf]; omega
        · have hltz : ¬ (k : Int) < (ss.length : Int) := by omega
          have hke : k = ss.length := by omega
          have hfr := R7.feed_ref (upto ss k) l HM.out
          have HF := Px.hid (show Cf.End (Cf.write (Cf.init l) (upto ss k)) = (R7.list (R7.read (upto ss k) l), (R7.read (upto ss k) l).place, (R7.read (upto ss k) l).err) from hfr.2.1)
          have HK := Px.hid hke
          clear hfr ho c0 c1 c2 c3 hke hk
          go_wp2_with fail
          refine HR.out.2.ends.mono ?_
          rintro e w4 ⟨ve, rfl, hve, hs, hvf⟩
          rw [HF.out] at hve ⊢
          have HO := Px.hid (HR.out.2.same hs)
          have HE := Px.hid hve
          clear hve hs hvf
          obtain ⟨c0, c1, c2, c3⟩ := (HL1.out.same HO.out.sm).cells
          go_wp2_with fail
          refine (lawread_any (upto ss k) l _ HM.out (by have := HR.out.1; omega)).mono ?_
          rintro e w5 ⟨vr, rfl, hvr, hs⟩
          unfold readV
          obtain ⟨nw, hnw⟩ : ∃ nw, nw = (if (R7.read (upto ss k) l).ended then 0 else (R7.read (upto ss k) l).err) := ⟨_, rfl⟩
          rw [← hnw]
          clear hnw
          have HO := Px.hid (HO.out.same hs)
          have HE := Px.hid (And.intro (Owns.same HE.out hs) hvr)
          clear hvr hs c0 c1 c2 c3
          go_wp2_with fail
          refine (same_any _ ve vr _ HE.out.1 HE.out.2).mono ?_
          rintro e w6 ⟨rfl, hs⟩
          have HO := Px.hid (HO.out.same hs)
          clear hs
          go_wp2
          go_ret
          exact ⟨rfl, (HL1.out.1.trans HO.out.sm).below⟩
set_option maxRecDepth 100000 in
set_option maxHeartbeats 4000000 in
theorem law_CborfeedStates {v : Value} (ss : List Bytes) (l : Lim) (w : World) (hv : StrsAt w v ss) (hT : Tabs w) :
    Calls Tryd.prog 4 #[v, limV l] w fun e w' => e = .returned (.bool true) ∧ Below w.heap.size w w' := by
  have HT := Px.hid hT
  have HV := Px.hid hv
  obtain ⟨va, vc, hvs⟩ := hv.slice
  have hlm := hv.len
  unfold maxLen at hlm
  subst hvs
  clear hT hv
  unfold limV
  go_enter Tryd.func4, Tryd.ntmps4
  go_wp2_with fail
  have HL := Px.hid (LimIn.boxed w l)
  refine (wakes_any _ (HT.out.lim HL.out) (HT.out.lim HL.out).two).mono ?_
  rintro e w1 ⟨rfl, hs⟩
  have HL := Px.hid (HL.out.same hs)
  have HL1 := HL
  have HT := Px.hid (HT.out.lim HL.out)
  have HV := Px.hid (HV.out.same HL.out.1)
  clear hs
  obtain ⟨c0, c1, c2, c3⟩ := HL.out.cells
  cases hm : l.may
  · have HM := Px.hid hm
    clear hm
    go_wp2_with fail
    refine (new_no l _ HM.out).mono ?_
    rintro e w2 ⟨rfl, hs⟩
    have HL := Px.hid (HL.out.same hs)
    clear hs c0 c1 c2 c3
    obtain ⟨c0, c1, c2, c3⟩ := HL.out.cells
    go_wp2_with fail
    refine (refMay_any l _).mono ?_
    rintro e w3 ⟨rfl, hs⟩
    have HL := Px.hid (HL.out.same hs)
    clear hs
    rw [HM.out]
    go_wp2
    go_ret
    exact ⟨rfl, HL.out.1.below⟩
  · have HM := Px.hid hm
    clear hm
    go_wp2_with fail
    refine (Own.new (Same.refl w1) HM.out).mono ?_
    rintro e w2 ⟨b, rfl, ho, hs, hb⟩
    have HO := Px.hid ho
    have HL := Px.hid (HL.out.same hs)
    clear ho hs hb c0 c1 c2 c3
    by_cases h100 : 100 < ss.length
    · have hz : (100 : Int) < (ss.length : Int) := by omega
      clear h100
      go_wp2
      go_ret
      exact ⟨rfl, HL.out.1.below⟩
    · have hz : ¬ (100 : Int) < (ss.length : Int) := by omega
      go_wp2
      go_loopw [7, 40] (fun al i wr => ∃ k : Nat, k ≤ ss.length ∧ i = .int .i64 (k : Nat) ∧ al = S (upto ss k) ∧ Hid ((upto ss k).length ≤ 4000 ∧ Own w1 wr b (Cf.write (Cf.init l) (upto ss k)))) (fun _ i _ => ss.length - (intOf i).toNat)
      case atStart => exact ⟨0, Nat.zero_le _, rfl, rfl, Px.hid ⟨by simp [upto], HO.out⟩⟩
      case round =>
        clear HO HL
        obtain ⟨k, hk, rfl, rfl, HR⟩ := hrel
        obtain ⟨hl4, ho⟩ := HR.out
        obtain ⟨c0, c1, c2, c3⟩ := (HL1.out.same ho.sm).cells
        have hsz : (ByteArray.mk (upto ss k).toArray).size = (upto ss k).length := size_S _
        by_cases hlt : k < ss.length
        · have hltz : (k : Int) < (ss.length : Int) := by omega
          obtain ⟨vb, voff, vc2, hve, hvb, hcell⟩ := HV.out.cell k hlt
          simp only [Value.slice.injEq, true_and] at hve
          obtain ⟨rfl, rfl⟩ := hve
          have hcell := (ho.sm.cell (p := ⟨vb, voff + k, none⟩) hvb (fun x => x)).trans hcell
          have HUP := Px.hid (upto_succ ss k hlt)
          have hpl := HV.out.each k hlt
          unfold maxLen at hpl
          obtain ⟨pc, hpc⟩ : ∃ pc, pc = ss[k] := ⟨_, rfl⟩
          rw [← hpc] at hcell HUP hpl
          have hpsz : (ByteArray.mk pc.toArray).size = pc.length := size_S _
          clear hpc ho
          by_cases h2000 : 2000 < (upto ss k).length
          · have z1 : (2000 : Int) < ((upto ss k).length : Int) := by omega
            clear h2000
            go_wp2
            go_ret
            exact ⟨rfl, (HL1.out.1.trans HR.out.2.sm).below⟩
          · have z1 : ¬ (2000 : Int) < ((upto ss k).length : Int) := by omega
            by_cases hp2000 : 2000 < pc.length
            · have z2 : (2000 : Int) < (pc.length : Int) := by omega
              clear h2000 hp2000
              go_wp2
              go_ret
              exact ⟨rfl, (HL1.out.1.trans HR.out.2.sm).below⟩
            · have z2 : ¬ (2000 : Int) < (pc.length : Int) := by omega
              have happ := app_S (upto ss k) pc
              have HLL := Px.hid (show (upto ss k ++ pc).length ≤ 4000 by rw [List.length_append]; omega)
              have HPL := Px.hid (show pc.length ≤ maxLen by unfold maxLen; omega)
              clear h2000 hp2000
              go_wp2_with fail
              refine (HR.out.2.write HT.out.two HT.out pc HPL.out).mono ?_
              rintro e w4 ⟨rfl, ho⟩
              rw [← Cf.write_append, ← HUP.out] at ho ⊢
              have hfr := R7.feed_ref (upto ss (k + 1)) l HM.out
              have hwi := write_within (upto ss (k + 1)) l HM.out
              rw [← HUP.out] at HLL
              have HO := Px.hid ho
              clear c0 c1 c2 c3 hcell happ hpsz hsz
              have HFR := Px.hid (And.intro hfr.2.2.1 (And.intro hfr.2.2.2 hwi))
              clear ho hfr hwi
              go_wp2_with fail
              refine HO.out.ends.mono ?_
              rintro e w5 ⟨ve, rfl, hve, hs, hvf⟩
              have HO := Px.hid (HO.out.same hs)
              clear hve hs hvf
              go_wp2_with fail
              refine HO.out.state.mono ?_
              rintro e w6 ⟨rfl, hs⟩
              have HO := Px.hid (HO.out.same hs)
              clear hs
              rw [HFR.out.1, HFR.out.2.1]
              have hw1 := HFR.out.2.2.1
              have hw2 := HFR.out.2.2.2
              rw [HFR.out.1] at hw1
              rw [HFR.out.2.1] at hw2
              obtain ⟨c0, c1, c2, c3⟩ := (HL1.out.same HO.out.sm).cells
              go_wp2_with fail
              refine (lawread_any (upto ss (k + 1)) l _ HM.out (by have := HLL.out; omega)).mono ?_
              rintro e w7 ⟨vr, rfl, hvr, hs⟩
              unfold readV
              obtain ⟨nw, hnw⟩ : ∃ nw, nw = (if (R7.read (upto ss (k + 1)) l).ended then 0 else (R7.read (upto ss (k + 1)) l).err) := ⟨_, rfl⟩
              rw [← hnw]
              have HO := Px.hid (HO.out.same hs)
              clear hnw hvr hs c0 c1 c2 c3
              obtain ⟨c0, c1, c2, c3⟩ := (HL1.out.same HO.out.sm).cells
              go_wp2
              go_roundw
              case rel => exact ⟨k + 1, by omega, by go_num, rfl, Px.hid ⟨HLL.out, HO.out⟩⟩
              case measure => simp [intOf]; omega
        · have hltz : ¬ (k : Int) < (ss.length : Int) := by omega
          clear ho c0 c1 c2 c3 hk
          go_wp2
          go_ret
          exact ⟨rfl, (HL1.out.1.trans HR.out.2.sm).below⟩
end Go.Proofs.YtclbbfmpkhfigaaDoor
