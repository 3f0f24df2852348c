/-
  The walks over the references' reader (layers 15 and 17): Take, fault, Want. How such a reader lies in memory.
-/
import Derived.Test.YtddiabaagpmkgaaDoorGcB
import Derived.Test.YtddiabaagpmkgaaDoorR7M
namespace Go.Proofs.YtddiabaagpmkgaaDoor
open Go.RowKit Go.Px Go.Px.R7

/-- The first eleven cells of a reader. -/
def rdCells (s : Bytes) (lim : Lim) (x : St) (vn : Value) (tl : List Value) : Array Value :=
  (S s :: .int .i64 lim.d :: .int .i64 lim.i :: .int .i64 lim.b :: .int .i64 lim.r :: vn :: .int .i64 x.err :: .int .i64 x.place :: .int .i64 (x.taken : Nat) :: .int .i64 (x.frames : Nat) :: .bool x.ended :: tl).toArray
structure Rd (w : World) (b T : Nat) (s : Bytes) (lim : Lim) (x : St) (vn : Value) (tl : List Value) : Prop where
  blk : w.heap[b]? = some (.cells (rdCells s lim x vn tl) T (0, 0))
section
variable {w w' : World} {b T : Nat} {s : Bytes} {lim : Lim} {x : St} {vn : Value} {tl : List Value}
theorem Rd.cells (h : Rd w b T s lim x vn tl) :
    w.cell? ⟨b, 0, none⟩ = some (S s) ∧ w.cell? ⟨b, 1, none⟩ = some (.int .i64 lim.d) ∧ w.cell? ⟨b, 2, none⟩ = some (.int .i64 lim.i) ∧ w.cell? ⟨b, 3, none⟩ = some (.int .i64 lim.b) ∧
    w.cell? ⟨b, 6, none⟩ = some (.int .i64 x.err) ∧ w.cell? ⟨b, 7, none⟩ = some (.int .i64 x.place) ∧ w.cell? ⟨b, 8, none⟩ = some (.int .i64 (x.taken : Nat)) ∧ w.cell? ⟨b, 9, none⟩ = some (.int .i64 (x.frames : Nat)) ∧ w.cell? ⟨b, 10, none⟩ = some (.bool x.ended) :=
  ⟨cellOf h.blk 0 (by simp [rdCells]), cellOf h.blk 1 (by simp [rdCells]), cellOf h.blk 2 (by simp [rdCells]), cellOf h.blk 3 (by simp [rdCells]), cellOf h.blk 6 (by simp [rdCells]), cellOf h.blk 7 (by simp [rdCells]),
   cellOf h.blk 8 (by simp [rdCells]), cellOf h.blk 9 (by simp [rdCells]), cellOf h.blk 10 (by simp [rdCells])⟩
theorem Rd.free (h : Rd w b T s lim x vn tl) (i : Nat) : w.frozen? ⟨b, i, none⟩ = false := freeOf h.blk i
theorem Rd.lt (h : Rd w b T s lim x vn tl) : b < w.heap.size := ltOf h.blk
theorem Rd.keep (h : Rd w b T s lim x vn tl) (hk : w'.heap[b]? = w.heap[b]?) : Rd w' b T s lim x vn tl := ⟨hk.trans h.blk⟩
theorem Rd.fr {F : Nat → Prop} (h : Rd w b T s lim x vn tl) (hf : Fr F w w') (hb : ¬ F b) : Rd w' b T s lim x vn tl := h.keep (hf.block b h.lt hb)
theorem Rd.same (h : Rd w b T s lim x vn tl) (hs : Same w w') : Rd w' b T s lim x vn tl := h.fr hs (fun x => x)
theorem Rd.alloc (h : Rd w b T s lim x vn tl) (o : Obj) : Rd (w.alloc o) b T s lim x vn tl := h.keep (Below.heap_alloc w o b h.lt)
theorem Rd.drew (h : Rd w b T s lim x vn tl) : Rd w.drew b T s lim x vn tl := ⟨h.blk⟩
theorem Rd.drewN (h : Rd w b T s lim x vn tl) (n : Nat) : Rd (w.drewN n) b T s lim x vn tl := ⟨h.blk⟩
theorem Rd.set (h : Rd w b T s lim x vn tl) (i : Nat) (v : Value) (y : St) (vn' : Value) (tl' : List Value) (hc : (rdCells s lim x vn tl).setIfInBounds i v = rdCells s lim y vn' tl') : Rd (w.setCell ⟨b, i, none⟩ v) b T s lim y vn' tl' :=
  ⟨by rw [heap_setCell_same w b i _ _ v h.blk, hc]⟩
theorem Rd.setErr (h : Rd w b T s lim x vn tl) (e : Int) : Rd (w.setCell ⟨b, 6, none⟩ (.int .i64 e)) b T s lim { x with err := e } vn tl := h.set 6 _ _ _ _ (by simp [rdCells])
theorem Rd.setPlace (h : Rd w b T s lim x vn tl) (e : Int) : Rd (w.setCell ⟨b, 7, none⟩ (.int .i64 e)) b T s lim { x with place := e } vn tl := h.set 7 _ _ _ _ (by simp [rdCells])
theorem Rd.setTaken (h : Rd w b T s lim x vn tl) (e : Nat) : Rd (w.setCell ⟨b, 8, none⟩ (.int .i64 (e : Nat))) b T s lim { x with taken := e } vn tl := h.set 8 _ _ _ _ (by simp [rdCells])
theorem Rd.setFrames (h : Rd w b T s lim x vn tl) (e : Nat) : Rd (w.setCell ⟨b, 9, none⟩ (.int .i64 (e : Nat))) b T s lim { x with frames := e } vn tl := h.set 9 _ _ _ _ (by simp [rdCells])
theorem Rd.setEnded (h : Rd w b T s lim x vn tl) (e : Bool) : Rd (w.setCell ⟨b, 10, none⟩ (.bool e)) b T s lim { x with ended := e } vn tl := h.set 10 _ _ _ _ (by simp [rdCells])
end

/-- Only this block changes. -/
def It (b : Nat) (k : Nat) : Prop := k = b
theorem It.set {b i : Nat} {w : World} (v : Value) : Fr (It b) w (w.setCell ⟨b, i, none⟩ v) := (Fr.refl (It b) w).setCell (p := ⟨b, i, none⟩) (.inl rfl) v

theorem take_any (b T : Nat) (a : Nat) (s : Bytes) (lim : Lim) (x : St) (vn : Value) (tl : List Value) (w : World) (h : Rd w b T s lim x vn tl) :
    Calls Tryd.prog 81 #[.pointer (some ⟨b, 0, none⟩), .int .i64 (a : Nat)] w fun r w' => r = .returned (.tuple #[]) ∧ Rd w' b T s lim (take x a) vn tl ∧ Fr (It b) w w' := by
  obtain ⟨_, _, _, _, _, _, c8, _, _⟩ := h.cells
  have f8 := h.free 8
  by_cases hlt : x.taken < a
  · have H := Px.hid (And.intro (h.setTaken a) (show take x a = { x with taken := a } by unfold take; rw [Nat.max_eq_right (Nat.le_of_lt hlt)]))
    have hz : (x.taken : Int) < (a : Int) := by omega
    clear h
    go_enter Tryd.func81, Tryd.ntmps81
    go_wp2
    go_end0
    rw [H.out.2]
    exact ⟨rfl, H.out.1, It.set _⟩
  · have H := Px.hid (And.intro h (show take x a = x by unfold take; rw [Nat.max_eq_left (Nat.le_of_not_lt hlt)]))
    have hz : ¬ (x.taken : Int) < (a : Int) := by omega
    clear h
    go_enter Tryd.func81, Tryd.ntmps81
    go_wp2
    go_end0
    rw [H.out.2]
    exact ⟨rfl, H.out.1, Fr.refl _ _⟩
theorem rfault_any (b T : Nat) (p e : Int) (s : Bytes) (lim : Lim) (x : St) (vn : Value) (tl : List Value) (w : World) (h : Rd w b T s lim x vn tl) :
    Calls Tryd.prog 82 #[.pointer (some ⟨b, 0, none⟩), .int .i64 p, .int .i64 e] w fun r w' => r = .returned (.bool false) ∧ Rd w' b T s lim (fault x p e) vn tl ∧ Fr (It b) w w' := by
  obtain ⟨_, _, _, _, c6, c7, _, _, _⟩ := h.cells
  have f6 := h.free 6
  have f7 := h.free 7
  have H := Px.hid ((h.setErr e).setPlace p)
  clear h
  go_enter Tryd.func82, Tryd.ntmps82
  go_wp2
  go_ret
  exact ⟨rfl, H.out, (It.set _).trans (It.set _) (fun _ _ h => h)⟩
theorem xfault_any (b T : Nat) (p e : Int) (s : Bytes) (lim : Lim) (x : St) (vn : Value) (tl : List Value) (w : World) (h : Rd w b T s lim x vn tl) :
    Calls Tryd.prog 62 #[.pointer (some ⟨b, 0, none⟩), .int .i64 p, .int .i64 e] w fun r w' => r = .returned (.bool false) ∧ Rd w' b T s lim (fault x p e) vn tl ∧ Fr (It b) w w' := by
  obtain ⟨_, _, _, _, c6, c7, _, _, _⟩ := h.cells
  have f6 := h.free 6
  have f7 := h.free 7
  have H := Px.hid ((h.setErr e).setPlace p)
  clear h
  go_enter Tryd.func62, Tryd.ntmps62
  go_wp2
  go_ret
  exact ⟨rfl, H.out, (It.set _).trans (It.set _) (fun _ _ h => h)⟩

set_option maxHeartbeats 1000000 in
theorem want_any (b T : Nat) (p : Nat) (s : Bytes) (lim : Lim) (x : St) (vn : Value) (tl : List Value) (w : World) (h : Rd w b T s lim x vn tl) (hs : s.length ≤ maxLen) (hb : 1 ≤ lim.b) (hb2 : lim.b ≤ 262144) (hp : p ≤ maxLen) :
    Calls Tryd.prog 61 #[.pointer (some ⟨b, 0, none⟩), .int .i64 (p : Nat)] w fun r w' => r = .returned (.bool (want s lim x p).1) ∧ Rd w' b T s lim (want s lim x p).2 vn tl ∧ Fr (It b) w w' := by
  unfold maxLen at hs hp
  have hsz : (ByteArray.mk s.toArray).size = s.length := size_S s
  obtain ⟨c0, _, _, c3, _, _, _, _, c10⟩ := h.cells
  by_cases h1 : p < s.length ∧ (p : Int) < lim.b
  · obtain ⟨h1a, h1b⟩ := h1
    have hz : (p : Int) < (s.length : Int) := by omega
    have H := Px.hid (And.intro h (show want s lim x p = (true, take x (p + 1)) by unfold want; rw [if_pos ⟨h1a, h1b⟩]))
    clear h h1a
    go_enter Tryd.func61, Tryd.ntmps61
    go_wp2_with fail
    refine (take_any b T (p + 1) s lim x vn tl _ H.out.1).mono ?_
    rintro e w1 ⟨rfl, hr, hf⟩
    have H2 := Px.hid (And.intro hr hf)
    clear hr hf
    go_wp2
    go_ret
    rw [H.out.2]
    exact ⟨rfl, H2.out.1, H2.out.2⟩
  · have hcase : (¬ (p : Int) < (s.length : Int)) ∨ ((p : Int) < (s.length : Int) ∧ ¬ (p : Int) < lim.b) := by omega
    by_cases h2 : lim.b < s.length
    · have H := Px.hid (And.intro h (show want s lim x p = (false, fault (take x lim.b.toNat) lim.b 10) by unfold want; rw [if_neg h1, if_pos h2]))
      have HB := Px.hid (show ((lim.b.toNat : Nat) : Int) = lim.b by omega)
      have hd : decide (lim.b < (s.length : Int)) = true := decide_eq_true h2
      clear h h1
      rcases hcase with hg | ⟨hg, hg2⟩
      all_goals
        go_enter Tryd.func61, Tryd.ntmps61
        go_wp2_with fail
        go_quiet (fail)
        go_wp2_with fail
        have ht := take_any b T lim.b.toNat s lim x vn tl (w.drewN nq) (H.out.1.drewN nq)
        rw [HB.out] at ht
        refine ht.mono ?_
        clear ht c0 c3 c10
        rintro e w1 ⟨rfl, hr, hf⟩
        obtain ⟨c0, _, _, c3, _, _, _, _, c10⟩ := hr.cells
        have H2 := Px.hid (And.intro hr ((Fr.drewN (Fr.refl (It b) w) nq).trans hf (fun _ _ h => h)))
        clear hr hf
        go_wp2_with fail
        refine (rfault_any b T lim.b 10 s lim _ vn tl _ H2.out.1).mono ?_
        rintro e w2 ⟨rfl, hr, hf⟩
        have H3 := Px.hid (And.intro hr (H2.out.2.trans hf (fun _ _ h => h)))
        clear hr hf
        go_wp2
        go_ret
        rw [H.out.2]
        exact ⟨rfl, H3.out.1, H3.out.2⟩
    · have H := Px.hid (And.intro h (show want s lim x p = (false, { fault (take x s.length) s.length 9 with ended := true }) by unfold want; rw [if_neg h1, if_neg h2]))
      have hd : decide (lim.b < (s.length : Int)) = false := decide_eq_false h2
      have hg : ¬ (p : Int) < (s.length : Int) := by omega
      clear h h1 hcase
      focus
        go_enter Tryd.func61, Tryd.ntmps61
        go_wp2_with fail
        go_quiet (fail)
        go_wp2_with fail
        refine (take_any b T s.length s lim x vn tl (w.drewN nq) (H.out.1.drewN nq)).mono ?_
        clear c0 c3 c10
        rintro e w1 ⟨rfl, hr, hf⟩
        obtain ⟨c0, _, _, c3, _, _, _, _, c10⟩ := hr.cells
        have f10 := hr.free 10
        have H2 := Px.hid (And.intro (hr.setEnded true) (((Fr.drewN (Fr.refl (It b) w) nq).trans hf (fun _ _ h => h)).trans (It.set (i := 10) (.bool true)) (fun _ _ h => h)))
        clear hr hf
        go_wp2_with fail
        refine (rfault_any b T s.length 9 s lim _ vn tl _ H2.out.1).mono ?_
        rintro e w2 ⟨rfl, hr, hf⟩
        have H3 := Px.hid (And.intro hr (H2.out.2.trans hf (fun _ _ h => h)))
        clear hr hf
        go_wp2
        go_ret
        rw [H.out.2]
        exact ⟨rfl, H3.out.1, H3.out.2⟩
end Go.Proofs.YtddiabaagpmkgaaDoor
