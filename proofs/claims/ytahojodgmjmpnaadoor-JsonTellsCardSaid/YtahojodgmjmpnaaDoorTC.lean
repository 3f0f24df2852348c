/-
  Several texts in one: How the program's reader of package json lies in memory; the walks over its wrong, want, peek, must, pass, word, digits. The walks over the program's reader of package json: pass, word, digits. The walks over the program's reader of package json: four, escape.
-/
import Derived.Test.YtahojodgmjmpnaaDoorZiJ
import Derived.Test.YtahojodgmjmpnaaDoorTB
/-! How the program's reader of package json lies in memory; the walks over its wrong, want, peek, must, pass, word, digits. -/
namespace Go.Proofs.YtahojodgmjmpnaaDoor
open Go.RowKit Go.Px

/-- What holds of the text and the limits all along. -/
structure Cj (s : Bytes) (lim : Lim) : Prop where
  top : s.length ≤ 9223372036854775807
  may : lim.may = true
theorem Cj.len {s : Bytes} {lim : Lim} (h : Cj s lim) : s.length ≤ 9223372036854775807 ∧ 1 ≤ lim.b ∧ lim.b ≤ 262144 := by
  have hm := h.may
  unfold Lim.may at hm
  simp only [Bool.and_eq_true, decide_eq_true_eq] at hm
  exact ⟨h.top, by omega, by omega⟩
def jrCells (s : Bytes) (lim : Lim) (a : Nat) (vs vo : Value) : Array Value := #[S s, .int .i64 lim.d, .int .i64 lim.i, .int .i64 lim.b, .int .i64 lim.r, .int .i64 (a : Nat), vs, vo]
/-- The reader itself, without what its slices lead to. -/
structure Jr (w : World) (b : Nat) (s : Bytes) (lim : Lim) (a : Nat) (vs vo : Value) : Prop where
  blk : w.heap[b]? = some (.cells (jrCells s lim a vs vo) 49 (0, 0))
section
variable {w w' : World} {b : Nat} {s : Bytes} {lim : Lim} {a : Nat} {vs vo : Value}
theorem Jr.cells (h : Jr w b s lim a vs vo) : w.cell? ⟨b, 0, none⟩ = some (S s) ∧ w.cell? ⟨b, 1, none⟩ = some (.int .i64 lim.d) ∧ w.cell? ⟨b, 2, none⟩ = some (.int .i64 lim.i) ∧ w.cell? ⟨b, 3, none⟩ = some (.int .i64 lim.b) ∧
    w.cell? ⟨b, 5, none⟩ = some (.int .i64 (a : Nat)) ∧ w.cell? ⟨b, 6, none⟩ = some vs ∧ w.cell? ⟨b, 7, none⟩ = some vo :=
  ⟨cellOf h.blk 0 rfl, cellOf h.blk 1 rfl, cellOf h.blk 2 rfl, cellOf h.blk 3 rfl, cellOf h.blk 5 rfl, cellOf h.blk 6 rfl, cellOf h.blk 7 rfl⟩
theorem Jr.free (h : Jr w b s lim a vs vo) (i : Nat) : w.frozen? ⟨b, i, none⟩ = false := freeOf h.blk i
theorem Jr.lt (h : Jr w b s lim a vs vo) : b < w.heap.size := ltOf h.blk
theorem Jr.keep (h : Jr w b s lim a vs vo) (hk : w'.heap[b]? = w.heap[b]?) : Jr w' b s lim a vs vo := ⟨hk.trans h.blk⟩
theorem Jr.same (h : Jr w b s lim a vs vo) (hs : Same w w') : Jr w' b s lim a vs vo := h.keep (hs.block b h.lt (fun x => x))
theorem Jr.drewN (h : Jr w b s lim a vs vo) (n : Nat) : Jr (w.drewN n) b s lim a vs vo := ⟨h.blk⟩
/-- The place moves on. -/
theorem Jr.move (h : Jr w b s lim a vs vo) (q : Nat) : Jr (w.setCell ⟨b, 5, none⟩ (.int .i64 (q : Nat))) b s lim q vs vo :=
  ⟨by rw [heap_setCell_same w b 5 _ _ _ h.blk]; rfl⟩
end
def jfltV (e : D6.Flt) : Value := .iface 44 (.agg #[.int .i64 e.1, .int .i64 e.2])
/-- The call ends in the program's own panic. -/
def jpanics (e : D6.Flt) : Ending := .panicked [{ v := jfltV e, recovered := false }]
theorem jwrong (b : Nat) (p e : Int) (w : World) : Calls Tryd.prog 22 #[.pointer (some ⟨b, 0, none⟩), .int .i64 p, .int .i64 e] w fun r w' => r = jpanics (p, e) ∧ w = w' := by
  go_enter Tryd.func22, Tryd.ntmps22
  go_wp2
  exact ⟨rfl, rfl, rfl⟩
theorem jwant_no (b p : Nat) (s : Bytes) (lim : Lim) (vs vo : Value) (w : World) (h : Jr w b s lim p vs vo) (e : D6.Flt) (he : D6.want s lim p = .error e) :
    Calls Tryd.prog 21 #[.pointer (some ⟨b, 0, none⟩)] w fun r w' => r = jpanics e ∧ Same w w' := by
  have hsz : (ByteArray.mk s.toArray).size = s.length := size_S s
  obtain ⟨c0, _, _, c3, c5, _, _⟩ := h.cells
  clear h
  unfold D6.want at he
  by_cases h1 : s.length ≤ p
  · rw [if_pos h1] at he
    simp only [Except.error.injEq] at he
    subst he
    go_enter Tryd.func21, Tryd.ntmps21
    go_wp2_with fail
    go_quiet (fail)
    go_wp2_with fail
    refine (jwrong b _ _ _).mono ?_
    rintro e w' ⟨rfl, rfl⟩
    unfold jpanics
    go_wp2
    exact ⟨rfl, rfl, Fr.drewN (Fr.refl _ w) _⟩
  · rw [if_neg h1] at he
    by_cases h2 : lim.b ≤ p
    · rw [if_pos h2] at he
      simp only [Except.error.injEq] at he
      subst he
      have d1 : decide (s.length ≤ p) = false := decide_eq_false h1
      go_enter Tryd.func21, Tryd.ntmps21
      go_wp2_with fail
      go_quiet (fail)
      go_wp2_with fail
      go_quiet (fail)
      go_wp2_with fail
      refine (jwrong b _ _ _).mono ?_
      rintro e w' ⟨rfl, rfl⟩
      unfold jpanics
      go_wp2
      exact ⟨rfl, rfl, Fr.drewN (Fr.refl _ w) _⟩
    · rw [if_neg h2] at he
      cases he
theorem jwant_yes (b p : Nat) (s : Bytes) (lim : Lim) (vs vo : Value) (w : World) (h : Jr w b s lim p vs vo) (c : Nat) (he : D6.want s lim p = .ok c) :
    Calls Tryd.prog 21 #[.pointer (some ⟨b, 0, none⟩)] w fun r w' => r = .returned (.int .u8 (c : Nat)) ∧ Same w w' := by
  have hsz : (ByteArray.mk s.toArray).size = s.length := size_S s
  obtain ⟨c0, _, _, c3, c5, _, _⟩ := h.cells
  clear h
  unfold D6.want at he
  by_cases h1 : s.length ≤ p
  · rw [if_pos h1] at he; cases he
  · rw [if_neg h1] at he
    by_cases h2 : lim.b ≤ p
    · rw [if_pos h2] at he; cases he
    · rw [if_neg h2] at he
      simp only [Except.ok.injEq] at he
      have hix := idx6 s p (by omega)
      simp only [he] at hix
      have d1 : decide (s.length ≤ p) = false := decide_eq_false h1
      have d2 : decide (lim.b ≤ (p : Int)) = false := decide_eq_false h2
      have d3 : (p : Int) < (s.length : Int) := by omega
      clear he h1 h2
      go_enter Tryd.func21, Tryd.ntmps21
      go_wp2_with fail
      go_quiet (fail)
      go_wp2_with fail
      go_quiet (fail)
      go_wp2_with fail
      go_quiet (fail)
      go_wp2
      go_ret
      exact ⟨rfl, Fr.drewN (Fr.drewN (Fr.drewN (Fr.refl _ w) _) _) _⟩
theorem jpeek_any (b p : Nat) (s : Bytes) (lim : Lim) (vs vo : Value) (w : World) (h : Jr w b s lim p vs vo) :
    Calls Tryd.prog 63 #[.pointer (some ⟨b, 0, none⟩)] w fun r w' => r = .returned (.int .u8 (D6.peek s lim p : Nat)) ∧ Same w w' := by
  have hsz : (ByteArray.mk s.toArray).size = s.length := size_S s
  obtain ⟨c0, _, _, c3, c5, _, _⟩ := h.cells
  clear h
  unfold D6.peek
  by_cases h1 : s.length ≤ p
  · rw [if_pos (.inl h1)]
    go_enter Tryd.func63, Tryd.ntmps63
    go_wp2_with fail
    go_quiet (fail)
    go_wp2
    go_ret
    exact ⟨rfl, Fr.drewN (Fr.refl _ w) nq⟩
  · have d1 : decide (s.length ≤ p) = false := decide_eq_false h1
    by_cases h2 : lim.b ≤ p
    · rw [if_pos (.inr h2)]
      clear h1
      go_enter Tryd.func63, Tryd.ntmps63
      go_wp2_with fail
      go_quiet (fail)
      go_wp2
      go_ret
      exact ⟨rfl, Fr.drewN (Fr.refl _ w) nq⟩
    · rw [if_neg (by omega)]
      have hix := idx6 s p (by omega)
      have d2 : decide (lim.b ≤ (p : Int)) = false := decide_eq_false h2
      have d3 : (p : Int) < (s.length : Int) := by omega
      clear h1 h2
      go_enter Tryd.func63, Tryd.ntmps63
      go_wp2_with fail
      go_quiet (fail)
      go_wp2_with fail
      go_quiet (fail)
      go_wp2
      go_ret
      exact ⟨rfl, Fr.drewN (Fr.drewN (Fr.refl _ w) _) _⟩
/-- What a step of the reader leaves: it moved, or it panicked. -/
def JStep (w : World) (b : Nat) (s : Bytes) (lim : Lim) (vs vo : Value) (res : Except D6.Flt Nat) (f : Nat → Value) (r : Ending) (w' : World) : Prop := match res with
  | .error e => r = jpanics e ∧ Fr (It b) w w'
  | .ok q => r = .returned (f q) ∧ Jr w' b s lim q vs vo ∧ Fr (It b) w w'
theorem JStep.bad {w : World} {b : Nat} {s : Bytes} {lim : Lim} {vs vo : Value} {f : Nat → Value} {w' : World} {e : D6.Flt} {res : Except D6.Flt Nat} (h : res = .error e) (hf : Fr (It b) w w') : JStep w b s lim vs vo res f (jpanics e) w' := by
  rw [h]; exact ⟨rfl, hf⟩
theorem JStep.good {w : World} {b : Nat} {s : Bytes} {lim : Lim} {vs vo : Value} {f : Nat → Value} {w' : World} {q : Nat} {r : Ending} {res : Except D6.Flt Nat} (h : res = .ok q) (hr : r = .returned (f q)) (hj : Jr w' b s lim q vs vo) (hf : Fr (It b) w w') : JStep w b s lim vs vo res f r w' := by
  rw [h]; exact ⟨hr, hj, hf⟩
theorem Same.it {b : Nat} {w w' : World} (h : Same w w') : Fr (It b) w w' := h.mono fun _ e => e.elim
theorem want_lt6 {s : Bytes} {lim : Lim} {p c : Nat} (h : D6.want s lim p = .ok c) : p < min s.length lim.b.toNat ∧ (p : Int) < lim.b ∧ c = R6.at_ s p := by
  unfold D6.want at h
  by_cases h1 : s.length ≤ p
  · rw [if_pos h1] at h; cases h
  · rw [if_neg h1] at h
    by_cases h2 : lim.b ≤ p
    · rw [if_pos h2] at h; cases h
    · rw [if_neg h2] at h
      cases h
      exact ⟨by omega, by omega, rfl⟩
/-- A tuple of nothing. -/
def noneV (_ : Nat) : Value := .tuple #[]
theorem jmust_any (b p c : Nat) (s : Bytes) (lim : Lim) (vs vo : Value) (hp : p ≤ 140737488355327) (w : World) (h : Jr w b s lim p vs vo) :
    Calls Tryd.prog 49 #[.pointer (some ⟨b, 0, none⟩), .int .u8 (c : Nat)] w (JStep w b s lim vs vo (D6.must s lim p c) noneV) := by
  obtain ⟨R, hR⟩ : ∃ R, R = D6.must s lim p c := ⟨_, rfl⟩
  rw [← hR]
  unfold D6.must at hR
  obtain ⟨W, hW⟩ : ∃ W, D6.want s lim p = W := ⟨_, rfl⟩
  rw [hW] at hR
  cases W with
  | error e =>
    have HW := Px.hid (jwant_no b p s lim vs vo w h e hW)
    have HR := Px.hid hR
    clear hW hR h
    go_enter Tryd.func49, Tryd.ntmps49
    go_wp2_with fail
    refine HW.out.mono ?_
    rintro r w1 ⟨rfl, hs⟩
    unfold jpanics
    go_wp2
    exact ⟨rfl, JStep.bad HR.out hs.it⟩
  | ok z =>
    have HW := Px.hid (jwant_yes b p s lim vs vo w h z hW)
    simp only at hR
    have hwp := wrap1 p hp
    by_cases hz : z = c
    · rw [if_pos (by simpa using hz)] at hR
      have HR := Px.hid hR
      have HH := Px.hid h
      have e1 : ((z : Int) != (c : Int)) = false := by simp [hz]
      clear hW hR h hz
      go_enter Tryd.func49, Tryd.ntmps49
      go_wp2_with fail
      refine HW.out.mono ?_
      rintro r w1 ⟨rfl, hs⟩
      have h1 := HH.out.same hs
      obtain ⟨_, _, _, _, c5, _, _⟩ := h1.cells
      have f5 := h1.free 5
      have H1 := Px.hid (And.intro (h1.move (p + 1)) (hs.it (b := b)))
      clear h1 hs
      go_wp2
      go_end0
      exact JStep.good HR.out rfl H1.out.1 (H1.out.2.trans (It.set _) (fun _ _ h => h))
    · rw [if_neg (by simpa using hz)] at hR
      have HR := Px.hid hR
      have HH := Px.hid h
      have e1 : ((z : Int) != (c : Int)) = true := by simp; omega
      clear hW hR h hz
      go_enter Tryd.func49, Tryd.ntmps49
      go_wp2_with fail
      refine HW.out.mono ?_
      rintro r w1 ⟨rfl, hs⟩
      have h1 := HH.out.same hs
      obtain ⟨_, _, _, _, c5, _, _⟩ := h1.cells
      have H1 := Px.hid (hs.it (b := b))
      clear h1 hs
      go_wp2_with fail
      refine (jwrong b _ _ _).mono ?_
      rintro r w2 ⟨rfl, rfl⟩
      unfold jpanics
      go_wp2
      exact ⟨rfl, JStep.bad HR.out H1.out⟩
end Go.Proofs.YtahojodgmjmpnaaDoor

/-! The walks over the program's reader of package json: pass, word, digits. -/
namespace Go.Proofs.YtahojodgmjmpnaaDoor
open Go.RowKit Go.Px

theorem Jr.drew {w : World} {b : Nat} {s : Bytes} {lim : Lim} {a : Nat} {vs vo : Value} (h : Jr w b s lim a vs vo) : Jr w.drew b s lim a vs vo := ⟨h.blk⟩
theorem Jr.go {w w1 : World} {b : Nat} {s : Bytes} {lim : Lim} {a : Nat} {vs vo : Value} (h : Jr w1 b s lim a vs vo) (hf : Fr (It b) w w1) (q : Nat) : Jr (w1.setCell ⟨b, 5, none⟩ (.int .i64 (q : Nat))) b s lim q vs vo ∧ Fr (It b) w (w1.setCell ⟨b, 5, none⟩ (.int .i64 (q : Nat))) := ⟨h.move q, It.trans hf (It.set _)⟩
theorem jpassN_succ (s : Bytes) (lim : Lim) (m p : Nat) : D6.passN s lim (m + 1) p = match D6.want s lim p with
  | .error e => .error e
  | .ok c => if R6.blank c then D6.passN s lim m (p + 1) else .ok p := rfl
/-- The byte that stands there, as a value. -/
def byteV (s : Bytes) (q : Nat) : Value := .int .u8 (R6.at_ s q : Nat)
set_option maxHeartbeats 2000000 in
theorem jpass_any (b p : Nat) (s : Bytes) (lim : Lim) (vs vo : Value) (hc : Cj s lim) (hp : p ≤ min s.length lim.b.toNat) (w : World) (h : Jr w b s lim p vs vo) :
    Calls Tryd.prog 30 #[.pointer (some ⟨b, 0, none⟩)] w (JStep w b s lim vs vo (D6.pass s lim p) (byteV s)) := by
  have H := Px.hid (And.intro h (And.intro hp hc))
  clear h hp hc
  go_enter Tryd.func30, Tryd.ntmps30
  go_wp2
  go_loopg [3] (s.length + 1 - p) (fun gk _ wr => ∃ k, k ≤ min s.length lim.b.toNat ∧ gk = s.length + 1 - k ∧ Jr wr b s lim k vs vo ∧ Fr (It b) w wr ∧ D6.passN s lim gk k = D6.pass s lim p)
  case atStart => exact ⟨p, H.out.2.1, rfl, H.out.1, Fr.refl _ _, rfl⟩
  case round =>
    obtain ⟨k, hk, hgk, hj, hfr, hps⟩ := hrel
    obtain ⟨g', rfl⟩ : ∃ g', gk = g' + 1 := ⟨gk - 1, by omega⟩
    rw [jpassN_succ] at hps
    have hlen := H.out.2.2.len
    have hk2 : k ≤ 140737488355327 := by omega
    have hwk := wrap1 k hk2
    obtain ⟨W, hW⟩ : ∃ W, D6.want s lim k = W := ⟨_, rfl⟩
    rw [hW] at hps
    have HF := Px.hid (And.intro hfr (And.intro hgk hj))
    cases W with
    | error e =>
      have HW := Px.hid (jwant_no b k s lim vs vo wr hj e hW)
      have HP := Px.hid hps
      clear hps hW hfr hgk hj hlen hk2 hk H
      go_wp2_with fail
      refine HW.out.mono ?_
      rintro r w1 ⟨rfl, hs⟩
      have HS := Px.hid hs
      clear hs
      unfold jpanics
      go_wp2
      exact ⟨rfl, JStep.bad HP.out.symm (It.trans HF.out.1 HS.out.it)⟩
    | ok c =>
      have HW := Px.hid (jwant_yes b k s lim vs vo wr hj c hW)
      obtain ⟨hkl, _, hcc⟩ := want_lt6 hW
      have HK := Px.hid (And.intro hkl hcc)
      simp only at hps
      clear hW hfr hgk hj hlen hk2 hk hkl hcc
      cases hb : R6.blank c with
      | true =>
        rw [if_pos hb] at hps
        have HP := Px.hid hps
        have h4 : c = 32 ∨ c = 9 ∨ c = 10 ∨ c = 13 := by unfold R6.blank at hb; simp only [Bool.or_eq_true, beq_iff_eq] at hb; omega
        clear hps hb
        rcases h4 with rfl | rfl | rfl | rfl
        all_goals
          go_wp2_with fail
          refine HW.out.mono ?_
          rintro r w1 ⟨rfl, hs⟩
          have h1 := HF.out.2.2.same hs
          obtain ⟨_, _, _, _, c5, _, _⟩ := h1.cells
          have f5 := h1.free 5
          have H1 := Px.hid (h1.go (It.trans HF.out.1 (hs.it (b := b))) (k + 1))
          clear h1 hs
          go_wp2
          go_roundg g'
          case measure => omega
          case rel => exact ⟨k + 1, HK.out.1, by have := HF.out.2.1; omega, H1.out.1, H1.out.2, HP.out⟩
      | false =>
        rw [if_neg (by rw [hb]; decide)] at hps
        have HP := Px.hid hps
        have hn : c ≠ 32 ∧ c ≠ 9 ∧ c ≠ 10 ∧ c ≠ 13 := by
          unfold R6.blank at hb
          simp only [Bool.or_eq_false_iff, beq_eq_false_iff_ne] at hb
          omega
        have n1 : ((c : Int) != 32) = true := by simp; omega
        have n2 : ((c : Int) != 9) = true := by simp; omega
        have n3 : ((c : Int) != 10) = true := by simp; omega
        have n4 : ((c : Int) != 13) = true := by simp; omega
        clear hps hb hn
        go_wp2_with fail
        refine HW.out.mono ?_
        rintro r w1 ⟨rfl, hs⟩
        have H1 := Px.hid (And.intro (HF.out.2.2.same hs) (It.trans HF.out.1 (hs.it (b := b))))
        clear hs
        go_wp2
        go_ret
        exact JStep.good HP.out.symm (by rw [HK.out.2]; rfl) H1.out.1 H1.out.2
theorem jwordN_cons (s : Bytes) (lim : Lim) (c : UInt8) (r : Bytes) (p : Nat) : D6.wordN s lim (c :: r) p = match D6.must s lim p c.toNat with
  | .error e => .error e
  | .ok q => D6.wordN s lim r q := rfl
theorem must_want {s : Bytes} {lim : Lim} {p c : Nat} : D6.must s lim p c = match D6.want s lim p with
  | .error e => .error e
  | .ok z => if z == c then .ok (p + 1) else .error (p, 9) := rfl
set_option maxHeartbeats 2000000 in
theorem jword_any (b p : Nat) (s l : Bytes) (lim : Lim) (vs vo : Value) (hc : Cj s lim) (hp : p ≤ 140737488355327) (hl : l.length ≤ 5) (w : World) (h : Jr w b s lim p vs vo) :
    Calls Tryd.prog 48 #[.pointer (some ⟨b, 0, none⟩), S l] w (JStep w b s lim vs vo (D6.wordN s lim l p) noneV) := by
  have H := Px.hid (And.intro h (And.intro hp hc))
  have hsz : (ByteArray.mk l.toArray).size = l.length := size_S l
  clear h hc
  go_enter Tryd.func48, Tryd.ntmps48
  go_wp2
  go_loopw [7] (fun i wr => ∃ k, i = .int .i64 (k : Nat) ∧ k ≤ l.length ∧ Hid (Jr wr b s lim (p + k) vs vo ∧ Fr (It b) w wr ∧ D6.wordN s lim (l.drop k) (p + k) = D6.wordN s lim l p)) (fun i _ => l.length - (intOf i).toNat)
  case atStart => exact ⟨0, rfl, Nat.zero_le _, Px.hid ⟨H.out.1, Fr.refl _ _, rfl⟩⟩
  case round =>
    obtain ⟨k, rfl, hk, HR⟩ := hrel
    by_cases hlt : k < l.length
    · have hltz : (k : Int) < (l.length : Int) := by omega
      obtain ⟨c, hcc⟩ : ∃ c, l.getD k 0 = c := ⟨_, rfl⟩
      have hix := idx_S l k hlt
      rw [hcc] at hix
      have hps := HR.out.2.2
      have hdr : l.drop k = c :: l.drop (k + 1) := by
        rw [List.drop_eq_getElem_cons hlt]
        congr 1
        rw [← hcc]
        simp [hlt]
      rw [hdr, jwordN_cons, must_want] at hps
      have hpk : p + k ≤ 140737488355332 := by omega
      have hwk : IntKind.i64.wrap (((p + k : Nat) : Int) + 1) = ((p + k : Nat) : Int) + 1 := IntWalk.i64_in _ ⟨by omega, by omega⟩
      obtain ⟨W, hW⟩ : ∃ W, D6.want s lim (p + k) = W := ⟨_, rfl⟩
      rw [hW] at hps
      have hcc2 : True := trivial
      clear hdr hcc hcc2
      obtain ⟨P, hP⟩ : ∃ P, p + k = P := ⟨_, rfl⟩
      have HPK := Px.hid hP
      rw [hP] at hps hW hwk
      have hj := HR.out.1
      rw [hP] at hj
      have hj := hj.drew
      have HF := Px.hid (show Fr (It b) w wr.drew from HR.out.2.1.drew)
      clear hP
      cases W with
      | error e =>
        have HW := Px.hid (jwant_no b P s lim vs vo wr.drew hj e hW)
        have HP := Px.hid hps
        clear hps hW hj hlt hpk
        go_upto_region 3 with fail
        refine wp_region_any (by kernel_rfl) ?_
        refine wpAny_take (i := 0) (v := ?_) rfl (by kernel_rfl) (by kernel_rfl) (by kernel_rfl) (fun _ _ _ h => h) (Or.inl ⟨by rfl, ?_⟩) ?_
        rotate_left
        · intro w
          go_simp
          try (with_reducible rfl)
        refine wpAny_take (i := 2) (v := ?_) rfl (by kernel_rfl) (by kernel_rfl) (by kernel_rfl) (fun _ _ _ h => h) (Or.inl ⟨by rfl, ?_⟩) ?_
        rotate_left
        · intro w
          go_simp
          try (with_reducible rfl)
        refine wpAny_take (i := 3) (v := ?_) rfl (by kernel_rfl) (by kernel_rfl) (by kernel_rfl) (fun _ _ _ h => h) (Or.inl ⟨by rfl, ?_⟩) ?_
        rotate_left
        · intro w
          go_simp
          try (with_reducible rfl)
        refine wpAny_take (i := 4) (v := ?_) rfl (by kernel_rfl) (by kernel_rfl) (by kernel_rfl) (fun _ _ _ h => h) (Or.inl ⟨by rfl, ?_⟩) ?_
        rotate_left
        · intro w
          go_simp
          try (with_reducible rfl)
        refine wpAny_ready (rs := [1]) (by kernel_rfl) (by simp) ?_
        refine AllReady.cons rfl (fun K hK => ?_) AllReady.nil
        go_simp
        refine HW.out.mono ?_
        rintro r w1 ⟨rfl, hs⟩
        exact ⟨rfl, JStep.bad HP.out.symm (It.trans HF.out hs.it)⟩
      | ok z =>
        have HW := Px.hid (jwant_yes b P s lim vs vo wr.drew hj z hW)
        simp only at hps
        by_cases hz : z = c.toNat
        · rw [if_pos (by simpa using hz)] at hps
          have HP := Px.hid hps
          have HLT := Px.hid hlt
          have e1 : ((z : Int) != (c.toNat : Int)) = false := by simp [hz]
          have HJ := Px.hid hj
          clear hps hW hj hlt hpk hz
          go_upto_region 3 with fail
          go_region_with (go_at_call 21; refine HW.out.mono ?_; rintro r w1 ⟨rfl, hs⟩; have HS := Px.hid hs; clear hs)
          all_goals
            have h1 := HJ.out.same HS.out
            obtain ⟨_, _, _, _, c5, _, _⟩ := h1.cells
            have f5 := h1.free 5
            have H1 := Px.hid (h1.go (It.trans HF.out (HS.out.it (b := b))) (P + 1))
            clear h1
            go_wp2
            go_roundw
            case rel => exact ⟨k + 1, by go_num, HLT.out, Px.hid (by rw [show p + (k + 1) = P + 1 from by have := HPK.out; omega]; exact ⟨H1.out.1, H1.out.2, HP.out⟩)⟩
            case measure => have := HLT.out; simp [intOf]; omega
        · rw [if_neg (by simpa using hz)] at hps
          have HP := Px.hid hps
          have e1 : ((z : Int) != (c.toNat : Int)) = true := by simp; omega
          have HJ := Px.hid hj
          clear hps hW hj hlt hpk hz
          go_upto_region 3 with fail
          go_region_with (go_at_call 21; refine HW.out.mono ?_; rintro r w1 ⟨rfl, hs⟩; have HS := Px.hid hs; clear hs)
          all_goals
            obtain ⟨_, _, _, _, c5, _, _⟩ := (HJ.out.same HS.out).cells
            go_wp2_with fail
            refine (jwrong b _ _ _).mono ?_
            rintro r w2 ⟨rfl, rfl⟩
            unfold jpanics
            go_wp2
            exact ⟨rfl, JStep.bad HP.out.symm (It.trans HF.out (HS.out.it (b := b)))⟩
    · have hltz : ¬ (k : Int) < (l.length : Int) := by omega
      have HP := Px.hid (show D6.wordN s lim l p = .ok (p + k) by rw [← HR.out.2.2, List.drop_eq_nil_of_le (by omega)]; rfl)
      clear hlt
      go_wp2
      go_end0
      exact JStep.good HP.out rfl HR.out.1 HR.out.2.1
theorem jdigN_succ (s : Bytes) (lim : Lim) (m p : Nat) : D6.digN s lim (m + 1) p = if R6.digit (D6.peek s lim p) then D6.digN s lim m (p + 1) else p := rfl
theorem peek_lt {s : Bytes} {lim : Lim} {p : Nat} (h : D6.peek s lim p ≠ 0) : p < min s.length lim.b.toNat ∧ (p : Int) < lim.b := by
  by_cases e : p < min s.length lim.b.toNat ∧ (p : Int) < lim.b
  · exact e
  · exact absurd (D6.peek_out (by omega)) h
set_option maxHeartbeats 2000000 in
theorem jdigits_any (b p : Nat) (s : Bytes) (lim : Lim) (vs vo : Value) (hc : Cj s lim) (hp : p ≤ min s.length lim.b.toNat) (w : World) (h : Jr w b s lim p vs vo) :
    Calls Tryd.prog 64 #[.pointer (some ⟨b, 0, none⟩)] w (JStep w b s lim vs vo (D6.digits s lim p) noneV) := by
  obtain ⟨R, hR⟩ : ∃ R, R = D6.digits s lim p := ⟨_, rfl⟩
  rw [← hR]
  unfold D6.digits at hR
  have HPK := Px.hid (jpeek_any b p s lim vs vo w h)
  obtain ⟨c, hcc⟩ : ∃ c, D6.peek s lim p = c := ⟨_, rfl⟩
  rw [hcc] at hR
  have HJ := Px.hid h
  cases hd : R6.digit c with
  | false =>
    rw [if_neg (by rw [hd]; decide)] at hR
    rw [hcc] at HPK
    have hdc : c < 48 ∨ 57 < c := by
      unfold R6.digit at hd
      simp only [Bool.and_eq_false_iff, decide_eq_false_iff_not] at hd
      omega
    have g : (c : Int) < 48 ∨ (decide ((c : Int) < 48) = false ∧ (57 : Int) < (c : Int)) := by
      by_cases e : c < 48
      · exact .inl (by omega)
      · exact .inr ⟨by simp; omega, by omega⟩
    obtain ⟨W, hW⟩ : ∃ W, D6.want s lim p = W := ⟨_, rfl⟩
    rw [hW] at hR
    have HR := Px.hid hR
    have HW1 := Px.hid hW
    clear hR hW hcc hdc hd hc hp h
    rcases g with g | ⟨g, g2⟩
    all_goals
      cases W with
      | error e =>
        go_enter Tryd.func64, Tryd.ntmps64
        go_wp2_with fail
        refine HPK.out.mono ?_
        rintro r w1 ⟨rfl, hs⟩
        have HS := Px.hid hs
        clear hs
        go_wp2_with fail
        refine (jwant_no b p s lim vs vo _ (HJ.out.same HS.out) e HW1.out).mono ?_
        rintro r w2 ⟨rfl, hs⟩
        have HS2 := Px.hid (HS.out.trans hs)
        clear hs
        unfold jpanics
        go_wp2
        exact ⟨rfl, JStep.bad HR.out HS2.out.it⟩
      | ok z =>
        go_enter Tryd.func64, Tryd.ntmps64
        go_wp2_with fail
        refine HPK.out.mono ?_
        rintro r w1 ⟨rfl, hs⟩
        have HS := Px.hid hs
        clear hs
        go_wp2_with fail
        refine (jwant_yes b p s lim vs vo _ (HJ.out.same HS.out) z HW1.out).mono ?_
        rintro r w2 ⟨rfl, hs⟩
        have HS2 := Px.hid (HS.out.trans hs)
        clear hs
        obtain ⟨_, _, _, _, c5, _, _⟩ := (HJ.out.same HS2.out).cells
        go_wp2_with fail
        refine (jwrong b _ _ _).mono ?_
        rintro r w3 ⟨rfl, rfl⟩
        unfold jpanics
        go_wp2
        exact ⟨rfl, JStep.bad HR.out HS2.out.it⟩
  | true =>
    rw [if_pos hd] at hR
    have hdc : 48 ≤ c ∧ c ≤ 57 := by unfold R6.digit at hd; simpa using hd
    have d1 : decide ((c : Int) < 48) = false := by simp; omega
    have d2 : decide ((57 : Int) < (c : Int)) = false := by simp; omega
    have HPK2 := HPK
    rw [hcc] at HPK
    have H := Px.hid (And.intro hc (And.intro hp hR))
    clear hR hcc hdc hd hc hp h
    go_enter Tryd.func64, Tryd.ntmps64
    go_wp2_with fail
    refine HPK.out.mono ?_
    rintro r w1 ⟨rfl, hs⟩
    have HS := Px.hid hs
    clear hs
    go_wp2_with fail
    refine (jpeek_any b p s lim vs vo _ (HJ.out.same HS.out)).mono ?_
    rintro r w2 ⟨rfl, hs⟩
    have HS2 := Px.hid (HS.out.trans hs)
    clear hs
    go_wp2
    go_loopg [3] (s.length + 1 - p) (fun gk v wr => ∃ k, v = .int .u8 (D6.peek s lim k : Nat) ∧ k ≤ min s.length lim.b.toNat ∧ gk = s.length + 1 - k ∧ Hid (Jr wr b s lim k vs vo ∧ Fr (It b) w wr ∧ R = .ok (D6.digN s lim gk k)))
    case atStart => exact ⟨p, rfl, H.out.2.1, rfl, Px.hid ⟨HJ.out.same HS2.out, HS2.out.it, H.out.2.2⟩⟩
    case round =>
      clear d1 d2 HPK HPK2
      obtain ⟨k, rfl, hk, hgk, HR⟩ := hrel
      obtain ⟨g', rfl⟩ : ∃ g', gk = g' + 1 := ⟨gk - 1, by omega⟩
      have hlen := H.out.1.len
      have hk2 : k ≤ 140737488355327 := by omega
      have hwk := wrap1 k hk2
      have hR := HR.out.2.2
      rw [jdigN_succ] at hR
      have hpl := peek_lt (s := s) (lim := lim) (p := k)
      obtain ⟨c, hcc⟩ : ∃ c, D6.peek s lim k = c := ⟨_, rfl⟩
      rw [hcc] at hR hpl ⊢
      obtain ⟨_, _, _, _, c5, _, _⟩ := HR.out.1.cells
      have f5 := HR.out.1.free 5
      have HG := Px.hid hgk
      cases hd : R6.digit c with
      | true =>
        rw [if_pos hd] at hR
        have hdc : 48 ≤ c ∧ c ≤ 57 := by unfold R6.digit at hd; simpa using hd
        have d1 : (48 : Int) ≤ (c : Int) := by omega
        have d2 : (c : Int) ≤ 57 := by omega
        have HK := Px.hid (hpl (by omega)).1
        have HP := Px.hid hR
        clear hR hcc hdc hd hpl hgk hlen hk
        go_wp2_with fail
        refine (jpeek_any b (k + 1) s lim vs vo _ (HR.out.1.move (k + 1))).mono ?_
        rintro r w3 ⟨rfl, hs⟩
        have H3 := Px.hid (And.intro ((HR.out.1.move (k + 1)).same hs) (It.trans (HR.out.1.go HR.out.2.1 (k + 1)).2 (hs.it (b := b))))
        clear hs c5 f5
        go_wp2
        go_roundg g'
        case measure => omega
        case rel => exact ⟨k + 1, rfl, HK.out, by have := HG.out; omega, Px.hid ⟨H3.out.1, H3.out.2, HP.out⟩⟩
      | false =>
        rw [if_neg (by rw [hd]; decide)] at hR
        have g : decide ((48 : Int) ≤ (c : Int)) = false ∨ ((48 : Int) ≤ (c : Int) ∧ decide ((c : Int) ≤ 57) = false) := by
          unfold R6.digit at hd
          simp only [Bool.and_eq_false_iff, decide_eq_false_iff_not] at hd
          by_cases e : 48 ≤ c
          · exact .inr ⟨by omega, by simp; omega⟩
          · exact .inl (by simp; omega)
        have HP := Px.hid hR
        clear hR hcc hd hpl hgk hlen hk
        rcases g with g | ⟨g, g2⟩
        all_goals
          go_wp2
          go_end0
          exact JStep.good HP.out rfl HR.out.1 HR.out.2.1
end Go.Proofs.YtahojodgmjmpnaaDoor

/-! The walks over the program's reader of package json: four, escape. -/
namespace Go.Proofs.YtahojodgmjmpnaaDoor
open Go.RowKit Go.Px

theorem jfourN_succ (s : Bytes) (lim : Lim) (m p n : Nat) : D6.fourN s lim (m + 1) p n = match D6.want s lim p with
  | .error e => .error e
  | .ok c => match R6.hex c with
    | none => .error (p, 9)
    | some h => D6.fourN s lim m (p + 1) (16 * n + h) := rfl
def JFour (w : World) (b : Nat) (s : Bytes) (lim : Lim) (vs vo : Value) (p : Nat) (res : Except D6.Flt Nat) (r : Ending) (w' : World) : Prop := match res with
  | .error e => r = jpanics e ∧ Fr (It b) w w'
  | .ok n => r = .returned (.int .i32 (n : Nat)) ∧ Jr w' b s lim (p + 4) vs vo ∧ Fr (It b) w w' ∧ n < 65536
theorem JFour.bad {w : World} {b : Nat} {s : Bytes} {lim : Lim} {vs vo : Value} {p : Nat} {w' : World} {e : D6.Flt} {res : Except D6.Flt Nat} (h : res = .error e) (hf : Fr (It b) w w') : JFour w b s lim vs vo p res (jpanics e) w' := by
  rw [h]; exact ⟨rfl, hf⟩
theorem JFour.good {w : World} {b : Nat} {s : Bytes} {lim : Lim} {vs vo : Value} {p n : Nat} {w' : World} {res : Except D6.Flt Nat} (h : res = .ok n) (hj : Jr w' b s lim (p + 4) vs vo) (hf : Fr (It b) w w') (hn : n < 65536) : JFour w b s lim vs vo p res (.returned (.int .i32 (n : Nat))) w' := by
  rw [h]; exact ⟨rfl, hj, hf, hn⟩
theorem or_digit2 (k h : Nat) (hk : k ≤ 4095) (hh : h < 16) (z : Int) (hz : z = (h : Int)) : bits .or .i32 ((k : Int) * 16) z = ((16 * k + h : Nat) : Int) := by
  rw [hz, or_digit k h hk hh, Nat.mul_comm]
set_option maxRecDepth 100000 in
set_option maxHeartbeats 4000000 in
theorem jfour_any (b p : Nat) (s : Bytes) (lim : Lim) (vs vo : Value) (hp : p ≤ 140737488355327) (w : World) (h : Jr w b s lim p vs vo) :
    Calls Tryd.prog 72 #[.pointer (some ⟨b, 0, none⟩)] w (JFour w b s lim vs vo p (D6.four s lim p)) := by
  have H := Px.hid h
  clear h
  go_enter Tryd.func72, Tryd.ntmps72
  go_wp2
  go_loopw [3, 5] (fun n i wr => ∃ k N, n = .int .i32 (N : Nat) ∧ i = .int .i64 (k : Nat) ∧ k ≤ 4 ∧ N < 16 ^ k ∧ Hid (Jr wr b s lim (p + k) vs vo ∧ Fr (It b) w wr ∧ D6.fourN s lim (4 - k) (p + k) N = D6.four s lim p)) (fun _ i _ => 4 - (intOf i).toNat)
  case atStart => exact ⟨0, 0, rfl, rfl, by omega, by decide, Px.hid ⟨H.out, Fr.refl _ _, rfl⟩⟩
  case round =>
    obtain ⟨k, N, rfl, rfl, hk, hN, HR⟩ := hrel
    by_cases hk4 : k < 4
    · have hkz : (k : Int) < 4 := by omega
      obtain ⟨m, hm⟩ : ∃ m, 4 - k = m + 1 := ⟨3 - k, by omega⟩
      have hps := HR.out.2.2
      rw [hm, jfourN_succ] at hps
      obtain ⟨P, hP⟩ : ∃ P, p + k = P := ⟨_, rfl⟩
      have hj := HR.out.1
      rw [hP] at hps hj
      have hPb : P ≤ 140737488355331 := by omega
      have hwk : IntKind.i64.wrap ((P : Int) + 1) = (P : Int) + 1 := IntWalk.i64_in _ ⟨by omega, by omega⟩
      have hN4 : N ≤ 4095 := by
        have : (16 : Nat) ^ k ≤ 16 ^ 3 := Nat.pow_le_pow_right (by decide) (by omega)
        omega
      have hws : IntKind.i32.wrap ((N : Int) * 16) = (N : Int) * 16 := IntWalk.i32_in _ ⟨by omega, by omega⟩
      have HPK := Px.hid (And.intro hP (And.intro hm (And.intro hk4 (show 16 * N + 16 ≤ 16 ^ (k + 1) by rw [Nat.pow_succ]; omega))))
      obtain ⟨W, hW⟩ : ∃ W, D6.want s lim P = W := ⟨_, rfl⟩
      rw [hW] at hps
      have HJ := Px.hid hj
      clear hP hm hk hN hPb
      cases W with
      | error e =>
        have HW := Px.hid (jwant_no b P s lim vs vo wr hj e hW)
        have HP := Px.hid hps
        clear hps hW hj hk4
        go_wp2_with fail
        refine HW.out.mono ?_
        rintro r w1 ⟨rfl, hs⟩
        have HS := Px.hid hs
        clear hs
        unfold jpanics
        go_wp2
        exact ⟨rfl, JFour.bad HP.out.symm (It.trans HR.out.2.1 HS.out.it)⟩
      | ok c =>
        have HW := Px.hid (jwant_yes b P s lim vs vo wr hj c hW)
        have hby : c < 256 := by rw [(want_lt6 hW).2.2]; exact at_lt s P
        simp only at hps
        clear hW hj hk4
        cases hh : R6.hex c with
        | none =>
          rw [hh] at hps
          have HP := Px.hid hps
          have g : c < 48 ∨ (57 < c ∧ c < 65) ∨ (70 < c ∧ c < 97) ∨ 102 < c := by
            unfold R6.hex R6.digit at hh
            by_cases e1 : 48 ≤ c ∧ c ≤ 57
            · rw [if_pos (by simpa using e1)] at hh; cases hh
            · rw [if_neg (by simpa using e1)] at hh
              by_cases e2 : 97 ≤ c ∧ c ≤ 102
              · rw [if_pos (by simpa using e2)] at hh; cases hh
              · rw [if_neg (by simpa using e2)] at hh
                by_cases e3 : 65 ≤ c ∧ c ≤ 70
                · rw [if_pos (by simpa using e3)] at hh; cases hh
                · omega
          clear hps hh hws
          rcases g with g | ⟨g, g2⟩ | ⟨g, g2⟩ | g
          · have y0 : decide ((48 : Int) ≤ (c : Int)) = false := by simp; omega
            have y1 : decide ((97 : Int) ≤ (c : Int)) = false := by simp; omega
            have y2 : decide ((65 : Int) ≤ (c : Int)) = false := by simp; omega
            clear g hby
            go_wp2_with fail
            refine HW.out.mono ?_
            rintro r w1 ⟨rfl, hs⟩
            have HS := Px.hid hs
            clear hs
            obtain ⟨_, _, _, _, c5, _, _⟩ := (HJ.out.same HS.out).cells
            go_wp2_with fail
            refine (jwrong b _ _ _).mono ?_
            rintro r w2 ⟨rfl, rfl⟩
            unfold jpanics
            go_wp2
            exact ⟨rfl, JFour.bad HP.out.symm (It.trans HR.out.2.1 HS.out.it)⟩
          · have y0 : (48 : Int) ≤ (c : Int) := by omega
            have y1 : decide ((c : Int) ≤ 57) = false := by simp; omega
            have y2 : decide ((97 : Int) ≤ (c : Int)) = false := by simp; omega
            have y3 : decide ((65 : Int) ≤ (c : Int)) = false := by simp; omega
            clear g g2 hby
            go_wp2_with fail
            refine HW.out.mono ?_
            rintro r w1 ⟨rfl, hs⟩
            have HS := Px.hid hs
            clear hs
            obtain ⟨_, _, _, _, c5, _, _⟩ := (HJ.out.same HS.out).cells
            go_wp2_with fail
            refine (jwrong b _ _ _).mono ?_
            rintro r w2 ⟨rfl, rfl⟩
            unfold jpanics
            go_wp2
            exact ⟨rfl, JFour.bad HP.out.symm (It.trans HR.out.2.1 HS.out.it)⟩
          · have y0 : (48 : Int) ≤ (c : Int) := by omega
            have y1 : decide ((c : Int) ≤ 57) = false := by simp; omega
            have y2 : decide ((97 : Int) ≤ (c : Int)) = false := by simp; omega
            have y3 : (65 : Int) ≤ (c : Int) := by omega
            have y4 : decide ((c : Int) ≤ 70) = false := by simp; omega
            clear g g2 hby
            go_wp2_with fail
            refine HW.out.mono ?_
            rintro r w1 ⟨rfl, hs⟩
            have HS := Px.hid hs
            clear hs
            obtain ⟨_, _, _, _, c5, _, _⟩ := (HJ.out.same HS.out).cells
            go_wp2_with fail
            refine (jwrong b _ _ _).mono ?_
            rintro r w2 ⟨rfl, rfl⟩
            unfold jpanics
            go_wp2
            exact ⟨rfl, JFour.bad HP.out.symm (It.trans HR.out.2.1 HS.out.it)⟩
          · have y0 : (48 : Int) ≤ (c : Int) := by omega
            have y1 : decide ((c : Int) ≤ 57) = false := by simp; omega
            have y2 : (97 : Int) ≤ (c : Int) := by omega
            have y3 : decide ((c : Int) ≤ 102) = false := by simp; omega
            have y4 : (65 : Int) ≤ (c : Int) := by omega
            have y5 : decide ((c : Int) ≤ 70) = false := by simp; omega
            clear g hby
            go_wp2_with fail
            refine HW.out.mono ?_
            rintro r w1 ⟨rfl, hs⟩
            have HS := Px.hid hs
            clear hs
            obtain ⟨_, _, _, _, c5, _, _⟩ := (HJ.out.same HS.out).cells
            go_wp2_with fail
            refine (jwrong b _ _ _).mono ?_
            rintro r w2 ⟨rfl, rfl⟩
            unfold jpanics
            go_wp2
            exact ⟨rfl, JFour.bad HP.out.symm (It.trans HR.out.2.1 HS.out.it)⟩
        | some h =>
          rw [hh] at hps
          simp only at hps
          have HP := Px.hid hps
          have g : (48 ≤ c ∧ c ≤ 57 ∧ h = c - 48) ∨ (97 ≤ c ∧ c ≤ 102 ∧ h = c - 87) ∨ (65 ≤ c ∧ c ≤ 70 ∧ h = c - 55) := by
            unfold R6.hex R6.digit at hh
            by_cases e1 : 48 ≤ c ∧ c ≤ 57
            · rw [if_pos (by simpa using e1)] at hh; cases hh; exact .inl ⟨e1.1, e1.2, rfl⟩
            · rw [if_neg (by simpa using e1)] at hh
              by_cases e2 : 97 ≤ c ∧ c ≤ 102
              · rw [if_pos (by simpa using e2)] at hh; cases hh; exact .inr (.inl ⟨e2.1, e2.2, rfl⟩)
              · rw [if_neg (by simpa using e2)] at hh
                by_cases e3 : 65 ≤ c ∧ c ≤ 70
                · rw [if_pos (by simpa using e3)] at hh; cases hh; exact .inr (.inr ⟨e3.1, e3.2, rfl⟩)
                · rw [if_neg (by simpa using e3)] at hh; cases hh
          have HH16 := Px.hid (show h < 16 by omega)
          clear hps hh
          rcases g with ⟨g1, g2, g3⟩ | ⟨g1, g2, g3⟩ | ⟨g1, g2, g3⟩
          · have y0 : (48 : Int) ≤ (c : Int) := by omega
            have y1 : (c : Int) ≤ 57 := by omega
            have u0 : IntKind.u8.wrap ((c : Int) - 48) = (c : Int) - 48 := IntWalk.u8_in _ ⟨by omega, by omega⟩
            have i0 : IntKind.i32.wrap ((c : Int) - 48) = (c : Int) - 48 := IntWalk.i32_in _ ⟨by omega, by omega⟩
            have hor : bits .or .i32 ((N : Int) * 16) ((c : Int) - 48) = ((16 * N + h : Nat) : Int) := or_digit2 N h hN4 HH16.out _ (by omega)
            obtain ⟨M, hM⟩ : ∃ M, 16 * N + h = M := ⟨_, rfl⟩
            rw [hM] at hor HP
            have HM := Px.hid hM
            clear g1 g2 g3 hby hM
            go_wp2_with fail
            refine HW.out.mono ?_
            rintro r w1 ⟨rfl, hs⟩
            have h1 := HJ.out.same hs
            obtain ⟨_, _, _, _, c5, _, _⟩ := h1.cells
            have f5 := h1.free 5
            have H1 := Px.hid (h1.go (It.trans HR.out.2.1 (hs.it (b := b))) (P + 1))
            clear h1 hs
            go_wp2
            go_roundw
            case rel => exact ⟨k + 1, M, rfl, by go_num, HPK.out.2.2.1, by have := HPK.out.2.2.2; have := HM.out; have := HH16.out; omega, Px.hid (by rw [show p + (k + 1) = P + 1 from by have := HPK.out.1; omega, show 4 - (k + 1) = m from by have := HPK.out.2.1; omega]; exact ⟨H1.out.1, H1.out.2, HP.out⟩)⟩
            case measure => have := HPK.out.2.2.1; simp [intOf]; omega
          · have y0 : (48 : Int) ≤ (c : Int) := by omega
            have y1 : decide ((c : Int) ≤ 57) = false := by simp; omega
            have y2 : (97 : Int) ≤ (c : Int) := by omega
            have y3 : (c : Int) ≤ 102 := by omega
            have u0 : IntKind.u8.wrap ((c : Int) - 97) = (c : Int) - 97 := IntWalk.u8_in _ ⟨by omega, by omega⟩
            have u1 : IntKind.u8.wrap ((c : Int) - 97 + 10) = (c : Int) - 97 + 10 := IntWalk.u8_in _ ⟨by omega, by omega⟩
            have i0 : IntKind.i32.wrap ((c : Int) - 97 + 10) = (c : Int) - 97 + 10 := IntWalk.i32_in _ ⟨by omega, by omega⟩
            have hor : bits .or .i32 ((N : Int) * 16) ((c : Int) - 97 + 10) = ((16 * N + h : Nat) : Int) := or_digit2 N h hN4 HH16.out _ (by omega)
            obtain ⟨M, hM⟩ : ∃ M, 16 * N + h = M := ⟨_, rfl⟩
            rw [hM] at hor HP
            have HM := Px.hid hM
            clear g1 g2 g3 hby hM
            go_wp2_with fail
            refine HW.out.mono ?_
            rintro r w1 ⟨rfl, hs⟩
            have h1 := HJ.out.same hs
            obtain ⟨_, _, _, _, c5, _, _⟩ := h1.cells
            have f5 := h1.free 5
            have H1 := Px.hid (h1.go (It.trans HR.out.2.1 (hs.it (b := b))) (P + 1))
            clear h1 hs
            go_wp2
            go_roundw
            case rel => exact ⟨k + 1, M, rfl, by go_num, HPK.out.2.2.1, by have := HPK.out.2.2.2; have := HM.out; have := HH16.out; omega, Px.hid (by rw [show p + (k + 1) = P + 1 from by have := HPK.out.1; omega, show 4 - (k + 1) = m from by have := HPK.out.2.1; omega]; exact ⟨H1.out.1, H1.out.2, HP.out⟩)⟩
            case measure => have := HPK.out.2.2.1; simp [intOf]; omega
          · have y0 : (48 : Int) ≤ (c : Int) := by omega
            have y1 : decide ((c : Int) ≤ 57) = false := by simp; omega
            have y2 : decide ((97 : Int) ≤ (c : Int)) = false := by simp; omega
            have y3 : (65 : Int) ≤ (c : Int) := by omega
            have y4 : (c : Int) ≤ 70 := by omega
            have u0 : IntKind.u8.wrap ((c : Int) - 65) = (c : Int) - 65 := IntWalk.u8_in _ ⟨by omega, by omega⟩
            have u1 : IntKind.u8.wrap ((c : Int) - 65 + 10) = (c : Int) - 65 + 10 := IntWalk.u8_in _ ⟨by omega, by omega⟩
            have i0 : IntKind.i32.wrap ((c : Int) - 65 + 10) = (c : Int) - 65 + 10 := IntWalk.i32_in _ ⟨by omega, by omega⟩
            have hor : bits .or .i32 ((N : Int) * 16) ((c : Int) - 65 + 10) = ((16 * N + h : Nat) : Int) := or_digit2 N h hN4 HH16.out _ (by omega)
            obtain ⟨M, hM⟩ : ∃ M, 16 * N + h = M := ⟨_, rfl⟩
            rw [hM] at hor HP
            have HM := Px.hid hM
            clear g1 g2 g3 hby hM
            go_wp2_with fail
            refine HW.out.mono ?_
            rintro r w1 ⟨rfl, hs⟩
            have h1 := HJ.out.same hs
            obtain ⟨_, _, _, _, c5, _, _⟩ := h1.cells
            have f5 := h1.free 5
            have H1 := Px.hid (h1.go (It.trans HR.out.2.1 (hs.it (b := b))) (P + 1))
            clear h1 hs
            go_wp2
            go_roundw
            case rel => exact ⟨k + 1, M, rfl, by go_num, HPK.out.2.2.1, by have := HPK.out.2.2.2; have := HM.out; have := HH16.out; omega, Px.hid (by rw [show p + (k + 1) = P + 1 from by have := HPK.out.1; omega, show 4 - (k + 1) = m from by have := HPK.out.2.1; omega]; exact ⟨H1.out.1, H1.out.2, HP.out⟩)⟩
            case measure => have := HPK.out.2.2.1; simp [intOf]; omega
    · obtain rfl : k = 4 := by omega
      have HP := Px.hid (show D6.four s lim p = .ok N from HR.out.2.2.symm)
      have HN := Px.hid (show N < 65536 from hN)
      clear hk4 hN hk
      go_wp2
      go_ret
      exact JFour.good HP.out HR.out.1 HR.out.2.1 HN.out
theorem jfour_no {b p : Nat} {s : Bytes} {lim : Lim} {vs vo : Value} {w : World} {e : D6.Flt} (hp : p ≤ 140737488355327) (h : Jr w b s lim p vs vo) (he : D6.four s lim p = .error e) :
    Calls Tryd.prog 72 #[.pointer (some ⟨b, 0, none⟩)] w fun r w' => r = jpanics e ∧ Fr (It b) w w' := by
  have := jfour_any b p s lim vs vo hp w h
  rw [he] at this
  exact this
theorem jfour_yes {b p n : Nat} {s : Bytes} {lim : Lim} {vs vo : Value} {w : World} (hp : p ≤ 140737488355327) (h : Jr w b s lim p vs vo) (he : D6.four s lim p = .ok n) :
    Calls Tryd.prog 72 #[.pointer (some ⟨b, 0, none⟩)] w fun r w' => r = .returned (.int .i32 (n : Nat)) ∧ Jr w' b s lim (p + 4) vs vo ∧ Fr (It b) w w' ∧ n < 65536 := by
  have := jfour_any b p s lim vs vo hp w h
  rw [he] at this
  exact this
theorem jmust_no {b p c : Nat} {s : Bytes} {lim : Lim} {vs vo : Value} {w : World} {e : D6.Flt} (hp : p ≤ 140737488355327) (h : Jr w b s lim p vs vo) (he : D6.must s lim p c = .error e) :
    Calls Tryd.prog 49 #[.pointer (some ⟨b, 0, none⟩), .int .u8 (c : Nat)] w fun r w' => r = jpanics e ∧ Fr (It b) w w' := by
  have := jmust_any b p c s lim vs vo hp w h
  rw [he] at this
  exact this
theorem jmust_yes {b p c q : Nat} {s : Bytes} {lim : Lim} {vs vo : Value} {w : World} (hp : p ≤ 140737488355327) (h : Jr w b s lim p vs vo) (he : D6.must s lim p c = .ok q) :
    Calls Tryd.prog 49 #[.pointer (some ⟨b, 0, none⟩), .int .u8 (c : Nat)] w fun r w' => r = .returned (.tuple #[]) ∧ Jr w' b s lim q vs vo ∧ Fr (It b) w w' := by
  have := jmust_any b p c s lim vs vo hp w h
  rw [he] at this
  exact this
theorem must_ok {s : Bytes} {lim : Lim} {p c q : Nat} (h : D6.must s lim p c = .ok q) : q = p + 1 ∧ p < min s.length lim.b.toNat := by
  rw [must_want] at h
  obtain ⟨W, hW⟩ : ∃ W, D6.want s lim p = W := ⟨_, rfl⟩
  rw [hW] at h
  cases W with
  | error e => cases h
  | ok z =>
    simp only at h
    split at h
    · cases h; exact ⟨rfl, (want_lt6 hW).1⟩
    · cases h
/-- What escape leaves. -/
def JEsc (w : World) (b : Nat) (s : Bytes) (lim : Lim) (vs vo : Value) (res : Except D6.Flt (Bytes × Nat)) (r : Ending) (w' : World) : Prop := match res with
  | .error e => r = jpanics e ∧ Fr (It b) w w'
  | .ok (l, q) => ∃ v, r = .returned v ∧ Owns w' 5 1 cByte v l ∧ (∀ k, v.ownBlock = some k → w.heap.size ≤ k) ∧ 0 < l.length ∧ l.length ≤ 4 ∧ Jr w' b s lim q vs vo ∧ Fr (It b) w w'
section
variable {w w1 w' : World} {b : Nat} {s : Bytes} {lim : Lim} {vs vo : Value} {res : Except D6.Flt (Bytes × Nat)}
theorem JEsc.bad {e : D6.Flt} (h : res = .error e) (hf : Fr (It b) w w') : JEsc w b s lim vs vo res (jpanics e) w' := by
  rw [h]; exact ⟨rfl, hf⟩
theorem JEsc.one {c : UInt8} {q n : Nat} (h : res = .ok ([c], q)) (hj : Jr w1 b s lim q vs vo) (hf : Fr (It b) w w1) (hn : w1.heap.size = n) :
    JEsc w b s lim vs vo res (.returned (.slice (some ⟨n, 0, none⟩) 1 1)) (w1.alloc (.cells #[.int .u8 (c.toNat : Nat)] 5 (0, 0))) := by
  rw [h]
  subst hn
  refine ⟨_, rfl, ?_, ?_, by simp, by simp, hj.keep (Below.heap_alloc w1 _ b hj.lt), hf.alloc _⟩
  · refine ⟨rfl, .inr ⟨w1.heap.size, 1, #[.int .u8 (c.toNat : Nat)], rfl, Nat.zero_le _, heap_alloc_new w1 _, Nat.le_refl _, by unfold maxLen; omega, rfl, rfl⟩⟩
  · intro k hk
    simp only [Value.ownBlock, Option.some.injEq] at hk
    have := hf.size
    omega
theorem JEsc.rune {v : Value} {n q : Nat} (h : res = .ok (R6.sign8 n, q)) (hj : Jr w1 b s lim q vs vo) (hf : Fr (It b) w w1) (hg : Grown w1 (.slice none 0 0) ([] ++ R6.sign8 n) v w') : JEsc w b s lim vs vo res (.returned v) w' := by
  rw [h]
  have hl : 0 < (R6.sign8 n).length ∧ (R6.sign8 n).length ≤ 4 := by
    refine ⟨?_, J6.sign8_len n⟩
    unfold R6.sign8
    split
    · simp
    · split
      · simp
      · split <;> simp
  have hs : Same w1 w' := hg.2.1.mono fun k hk => by simp [Value.ownBlock] at hk
  refine ⟨v, rfl, hg.1, fun k hk => ?_, hl.1, hl.2, hj.same hs, It.trans hf hs.it⟩
  rcases hg.2.2 k hk with e | e
  · simp [Value.ownBlock] at e
  · have := hf.size; omega
end

set_option maxRecDepth 100000 in
theorem jesc_34 (b p : Nat) (s : Bytes) (lim : Lim) (vs vo : Value) (hp : p ≤ 140737488355327) (w : World) (h : Jr w b s lim p vs vo) (hw : D6.want s lim p = .ok 34) :
    Calls Tryd.prog 61 #[.pointer (some ⟨b, 0, none⟩)] w (JEsc w b s lim vs vo (.ok ([34], p + 1))) := by
  have HW := Px.hid (jwant_yes b p s lim vs vo w h _ hw)
  have HJ := Px.hid h
  have hwp := wrap1 p hp
  clear hw h hp
  go_enter Tryd.func61, Tryd.ntmps61
  go_wp2_with fail
  refine HW.out.mono ?_
  rintro r w1 ⟨rfl, hs⟩
  have h1 := HJ.out.same hs
  obtain ⟨_, _, _, _, c5, _, _⟩ := h1.cells
  have f5 := h1.free 5
  have H1 := Px.hid (h1.go (hs.it (b := b)) (p + 1))
  clear h1 hs
  go_wp2
  go_ret
  exact JEsc.one (c := 34) rfl H1.out.1 H1.out.2 (by simp)
set_option maxRecDepth 100000 in
theorem jesc_92 (b p : Nat) (s : Bytes) (lim : Lim) (vs vo : Value) (hp : p ≤ 140737488355327) (w : World) (h : Jr w b s lim p vs vo) (hw : D6.want s lim p = .ok 92) :
    Calls Tryd.prog 61 #[.pointer (some ⟨b, 0, none⟩)] w (JEsc w b s lim vs vo (.ok ([92], p + 1))) := by
  have HW := Px.hid (jwant_yes b p s lim vs vo w h _ hw)
  have HJ := Px.hid h
  have hwp := wrap1 p hp
  clear hw h hp
  go_enter Tryd.func61, Tryd.ntmps61
  go_wp2_with fail
  refine HW.out.mono ?_
  rintro r w1 ⟨rfl, hs⟩
  have h1 := HJ.out.same hs
  obtain ⟨_, _, _, _, c5, _, _⟩ := h1.cells
  have f5 := h1.free 5
  have H1 := Px.hid (h1.go (hs.it (b := b)) (p + 1))
  clear h1 hs
  go_wp2
  go_ret
  exact JEsc.one (c := 92) rfl H1.out.1 H1.out.2 (by simp)
set_option maxRecDepth 100000 in
theorem jesc_47 (b p : Nat) (s : Bytes) (lim : Lim) (vs vo : Value) (hp : p ≤ 140737488355327) (w : World) (h : Jr w b s lim p vs vo) (hw : D6.want s lim p = .ok 47) :
    Calls Tryd.prog 61 #[.pointer (some ⟨b, 0, none⟩)] w (JEsc w b s lim vs vo (.ok ([47], p + 1))) := by
  have HW := Px.hid (jwant_yes b p s lim vs vo w h _ hw)
  have HJ := Px.hid h
  have hwp := wrap1 p hp
  clear hw h hp
  go_enter Tryd.func61, Tryd.ntmps61
  go_wp2_with fail
  refine HW.out.mono ?_
  rintro r w1 ⟨rfl, hs⟩
  have h1 := HJ.out.same hs
  obtain ⟨_, _, _, _, c5, _, _⟩ := h1.cells
  have f5 := h1.free 5
  have H1 := Px.hid (h1.go (hs.it (b := b)) (p + 1))
  clear h1 hs
  go_wp2
  go_ret
  exact JEsc.one (c := 47) rfl H1.out.1 H1.out.2 (by simp)
set_option maxRecDepth 100000 in
theorem jesc_98 (b p : Nat) (s : Bytes) (lim : Lim) (vs vo : Value) (hp : p ≤ 140737488355327) (w : World) (h : Jr w b s lim p vs vo) (hw : D6.want s lim p = .ok 98) :
    Calls Tryd.prog 61 #[.pointer (some ⟨b, 0, none⟩)] w (JEsc w b s lim vs vo (.ok ([8], p + 1))) := by
  have HW := Px.hid (jwant_yes b p s lim vs vo w h _ hw)
  have HJ := Px.hid h
  have hwp := wrap1 p hp
  clear hw h hp
  go_enter Tryd.func61, Tryd.ntmps61
  go_wp2_with fail
  refine HW.out.mono ?_
  rintro r w1 ⟨rfl, hs⟩
  have h1 := HJ.out.same hs
  obtain ⟨_, _, _, _, c5, _, _⟩ := h1.cells
  have f5 := h1.free 5
  have H1 := Px.hid (h1.go (hs.it (b := b)) (p + 1))
  clear h1 hs
  go_wp2
  go_ret
  exact JEsc.one (c := 8) rfl H1.out.1 H1.out.2 (by simp)
set_option maxRecDepth 100000 in
theorem jesc_102 (b p : Nat) (s : Bytes) (lim : Lim) (vs vo : Value) (hp : p ≤ 140737488355327) (w : World) (h : Jr w b s lim p vs vo) (hw : D6.want s lim p = .ok 102) :
    Calls Tryd.prog 61 #[.pointer (some ⟨b, 0, none⟩)] w (JEsc w b s lim vs vo (.ok ([12], p + 1))) := by
  have HW := Px.hid (jwant_yes b p s lim vs vo w h _ hw)
  have HJ := Px.hid h
  have hwp := wrap1 p hp
  clear hw h hp
  go_enter Tryd.func61, Tryd.ntmps61
  go_wp2_with fail
  refine HW.out.mono ?_
  rintro r w1 ⟨rfl, hs⟩
  have h1 := HJ.out.same hs
  obtain ⟨_, _, _, _, c5, _, _⟩ := h1.cells
  have f5 := h1.free 5
  have H1 := Px.hid (h1.go (hs.it (b := b)) (p + 1))
  clear h1 hs
  go_wp2
  go_ret
  exact JEsc.one (c := 12) rfl H1.out.1 H1.out.2 (by simp)
set_option maxRecDepth 100000 in
theorem jesc_110 (b p : Nat) (s : Bytes) (lim : Lim) (vs vo : Value) (hp : p ≤ 140737488355327) (w : World) (h : Jr w b s lim p vs vo) (hw : D6.want s lim p = .ok 110) :
    Calls Tryd.prog 61 #[.pointer (some ⟨b, 0, none⟩)] w (JEsc w b s lim vs vo (.ok ([10], p + 1))) := by
  have HW := Px.hid (jwant_yes b p s lim vs vo w h _ hw)
  have HJ := Px.hid h
  have hwp := wrap1 p hp
  clear hw h hp
  go_enter Tryd.func61, Tryd.ntmps61
  go_wp2_with fail
  refine HW.out.mono ?_
  rintro r w1 ⟨rfl, hs⟩
  have h1 := HJ.out.same hs
  obtain ⟨_, _, _, _, c5, _, _⟩ := h1.cells
  have f5 := h1.free 5
  have H1 := Px.hid (h1.go (hs.it (b := b)) (p + 1))
  clear h1 hs
  go_wp2
  go_ret
  exact JEsc.one (c := 10) rfl H1.out.1 H1.out.2 (by simp)
set_option maxRecDepth 100000 in
theorem jesc_114 (b p : Nat) (s : Bytes) (lim : Lim) (vs vo : Value) (hp : p ≤ 140737488355327) (w : World) (h : Jr w b s lim p vs vo) (hw : D6.want s lim p = .ok 114) :
    Calls Tryd.prog 61 #[.pointer (some ⟨b, 0, none⟩)] w (JEsc w b s lim vs vo (.ok ([13], p + 1))) := by
  have HW := Px.hid (jwant_yes b p s lim vs vo w h _ hw)
  have HJ := Px.hid h
  have hwp := wrap1 p hp
  clear hw h hp
  go_enter Tryd.func61, Tryd.ntmps61
  go_wp2_with fail
  refine HW.out.mono ?_
  rintro r w1 ⟨rfl, hs⟩
  have h1 := HJ.out.same hs
  obtain ⟨_, _, _, _, c5, _, _⟩ := h1.cells
  have f5 := h1.free 5
  have H1 := Px.hid (h1.go (hs.it (b := b)) (p + 1))
  clear h1 hs
  go_wp2
  go_ret
  exact JEsc.one (c := 13) rfl H1.out.1 H1.out.2 (by simp)
set_option maxRecDepth 100000 in
theorem jesc_116 (b p : Nat) (s : Bytes) (lim : Lim) (vs vo : Value) (hp : p ≤ 140737488355327) (w : World) (h : Jr w b s lim p vs vo) (hw : D6.want s lim p = .ok 116) :
    Calls Tryd.prog 61 #[.pointer (some ⟨b, 0, none⟩)] w (JEsc w b s lim vs vo (.ok ([9], p + 1))) := by
  have HW := Px.hid (jwant_yes b p s lim vs vo w h _ hw)
  have HJ := Px.hid h
  have hwp := wrap1 p hp
  clear hw h hp
  go_enter Tryd.func61, Tryd.ntmps61
  go_wp2_with fail
  refine HW.out.mono ?_
  rintro r w1 ⟨rfl, hs⟩
  have h1 := HJ.out.same hs
  obtain ⟨_, _, _, _, c5, _, _⟩ := h1.cells
  have f5 := h1.free 5
  have H1 := Px.hid (h1.go (hs.it (b := b)) (p + 1))
  clear h1 hs
  go_wp2
  go_ret
  exact JEsc.one (c := 9) rfl H1.out.1 H1.out.2 (by simp)
set_option maxRecDepth 100000 in
set_option maxHeartbeats 2000000 in
theorem jesc_odd (b p c : Nat) (s : Bytes) (lim : Lim) (vs vo : Value) (hp : p ≤ 140737488355327) (w : World) (h : Jr w b s lim p vs vo) (hw : D6.want s lim p = .ok c) (hl : R6.letter c = none) (hu : c ≠ 117) :
    Calls Tryd.prog 61 #[.pointer (some ⟨b, 0, none⟩)] w (JEsc w b s lim vs vo (.error (p, 9))) := by
  have HW := Px.hid (jwant_yes b p s lim vs vo w h _ hw)
  have HJ := Px.hid h
  have hwp := wrap1 p hp
  have hwm : IntKind.i64.wrap (p : Int) = (p : Int) := IntWalk.i64_in _ ⟨by omega, by omega⟩
  have hn : c ≠ 34 ∧ c ≠ 92 ∧ c ≠ 47 ∧ c ≠ 98 ∧ c ≠ 102 ∧ c ≠ 110 ∧ c ≠ 114 ∧ c ≠ 116 := by
    refine ⟨?_, ?_, ?_, ?_, ?_, ?_, ?_, ?_⟩ <;> (rintro rfl; cases hl)
  have n34 : ((c : Int) == 34) = false := by simp; omega
  have n92 : ((c : Int) == 92) = false := by simp; omega
  have n47 : ((c : Int) == 47) = false := by simp; omega
  have n98 : ((c : Int) == 98) = false := by simp; omega
  have n102 : ((c : Int) == 102) = false := by simp; omega
  have n110 : ((c : Int) == 110) = false := by simp; omega
  have n114 : ((c : Int) == 114) = false := by simp; omega
  have n116 : ((c : Int) == 116) = false := by simp; omega
  have n117 : ((c : Int) == 117) = false := by simp; omega
  clear hw h hp hl hu hn
  go_enter Tryd.func61, Tryd.ntmps61
  go_wp2_with fail
  refine HW.out.mono ?_
  rintro r w1 ⟨rfl, hs⟩
  have h1 := HJ.out.same hs
  obtain ⟨_, _, _, _, c5, _, _⟩ := h1.cells
  have f5 := h1.free 5
  have H1 := Px.hid (h1.go (hs.it (b := b)) (p + 1))
  clear h1 hs
  go_wp2_with fail
  refine (jwrong b _ _ _).mono ?_
  rintro r w2 ⟨rfl, rfl⟩
  unfold jpanics
  go_wp2
  exact ⟨rfl, JEsc.bad rfl H1.out.2⟩
theorem jesc_no (b p : Nat) (s : Bytes) (lim : Lim) (vs vo : Value) (w : World) (h : Jr w b s lim p vs vo) (e : D6.Flt) (hw : D6.want s lim p = .error e) :
    Calls Tryd.prog 61 #[.pointer (some ⟨b, 0, none⟩)] w (JEsc w b s lim vs vo (.error e)) := by
  have HW := Px.hid (jwant_no b p s lim vs vo w h _ hw)
  clear hw h
  go_enter Tryd.func61, Tryd.ntmps61
  go_wp2_with fail
  refine HW.out.mono ?_
  rintro r w1 ⟨rfl, hs⟩
  have HS := Px.hid hs
  clear hs
  unfold jpanics
  go_wp2
  exact ⟨rfl, JEsc.bad rfl HS.out.it⟩
set_option maxRecDepth 100000 in
set_option maxHeartbeats 2000000 in
theorem jescu_no (b p : Nat) (s : Bytes) (lim : Lim) (vs vo : Value) (hp : p + 1 ≤ 140737488355327) (w : World) (h : Jr w b s lim p vs vo) (hw : D6.want s lim p = .ok 117) (e : D6.Flt) (hf : D6.four s lim (p + 1) = .error e) :
    Calls Tryd.prog 61 #[.pointer (some ⟨b, 0, none⟩)] w (JEsc w b s lim vs vo (.error e)) := by
  have HW := Px.hid (jwant_yes b p s lim vs vo w h _ hw)
  have HJ := Px.hid h
  have hwp := wrap1 p (by omega)
  have HF := Px.hid (fun (w : World) (h : Jr w b s lim (p + 1) vs vo) => jfour_no hp h hf)
  clear hw h hp hf
  go_enter Tryd.func61, Tryd.ntmps61
  go_wp2_with fail
  refine HW.out.mono ?_
  rintro r w1 ⟨rfl, hs⟩
  have h1 := HJ.out.same hs
  obtain ⟨_, _, _, _, c5, _, _⟩ := h1.cells
  have f5 := h1.free 5
  have H1 := Px.hid (h1.go (hs.it (b := b)) (p + 1))
  clear h1 hs
  go_wp2_with fail
  refine (HF.out _ H1.out.1).mono ?_
  rintro r w2 ⟨rfl, hf⟩
  have H2 := Px.hid (It.trans H1.out.2 hf)
  clear hf
  unfold jpanics
  go_wp2
  exact ⟨rfl, JEsc.bad rfl H2.out⟩
set_option maxRecDepth 100000 in
set_option maxHeartbeats 2000000 in
theorem jescu_low (b p : Nat) (s : Bytes) (lim : Lim) (vs vo : Value) (hp : p + 1 ≤ 140737488355327) (w : World) (h : Jr w b s lim p vs vo) (hw : D6.want s lim p = .ok 117) (n : Nat) (hf : D6.four s lim (p + 1) = .ok n) (h1 : 56320 ≤ n) (h2 : n < 57344) :
    Calls Tryd.prog 61 #[.pointer (some ⟨b, 0, none⟩)] w (JEsc w b s lim vs vo (.error ((p + 4 : Nat), 9))) := by
  have HW := Px.hid (jwant_yes b p s lim vs vo w h _ hw)
  have HJ := Px.hid h
  have hwp := wrap1 p (by omega)
  have HF := Px.hid (fun (w : World) (h : Jr w b s lim (p + 1) vs vo) => jfour_yes hp h hf)
  obtain ⟨P, hP⟩ : ∃ P, p + 1 + 4 = P := ⟨_, rfl⟩
  rw [hP] at HF
  have hPb : P ≤ 140737488355331 := by omega
  have hP1 : 1 ≤ P := by omega
  have hwm : IntKind.i64.wrap ((P : Int) - 1) = (P : Int) - 1 := IntWalk.i64_in _ ⟨by omega, by omega⟩
  have HP := Px.hid (show (p : Int) + 4 = (P : Int) - 1 by omega)
  have y1 : (56320 : Int) ≤ (n : Int) := by omega
  have y2 : (n : Int) < 57344 := by omega
  clear hw h hp hf h1 h2 hP hPb hP1
  go_enter Tryd.func61, Tryd.ntmps61
  go_wp2_with fail
  refine HW.out.mono ?_
  rintro r w1 ⟨rfl, hs⟩
  have h1 := HJ.out.same hs
  obtain ⟨_, _, _, _, c5, _, _⟩ := h1.cells
  have f5 := h1.free 5
  have H1 := Px.hid (h1.go (hs.it (b := b)) (p + 1))
  clear h1 hs
  go_wp2_with fail
  refine (HF.out _ H1.out.1).mono ?_
  rintro r w2 ⟨rfl, hj, hf, hn⟩
  obtain ⟨_, _, _, _, c5, _, _⟩ := hj.cells
  have H2 := Px.hid (And.intro hj (It.trans H1.out.2 hf))
  clear hj hf hn
  go_wp2_with fail
  refine (jwrong b _ _ _).mono ?_
  rintro r w3 ⟨rfl, rfl⟩
  unfold jpanics
  go_wp2
  exact ⟨rfl, JEsc.bad (by rw [HP.out]) H2.out.2⟩
set_option maxRecDepth 100000 in
set_option maxHeartbeats 2000000 in
theorem jescu_one (b p : Nat) (s : Bytes) (lim : Lim) (vs vo : Value) (hp : p + 1 ≤ 140737488355327) (w : World) (h : Jr w b s lim p vs vo) (hw : D6.want s lim p = .ok 117) (n : Nat) (hf : D6.four s lim (p + 1) = .ok n) (h1 : n < 55296 ∨ 57343 < n) (hn : n < 65536) :
    Calls Tryd.prog 61 #[.pointer (some ⟨b, 0, none⟩)] w (JEsc w b s lim vs vo (.ok (R6.sign8 n, p + 5))) := by
  have HW := Px.hid (jwant_yes b p s lim vs vo w h _ hw)
  have HJ := Px.hid h
  have hwp := wrap1 p (by omega)
  have HF := Px.hid (fun (w : World) (h : Jr w b s lim (p + 1) vs vo) => jfour_yes hp h hf)
  obtain ⟨P, hP⟩ : ∃ P, p + 1 + 4 = P := ⟨_, rfl⟩
  rw [hP] at HF
  have hPb : P ≤ 140737488355331 := by omega
  have hP1 : 1 ≤ P := by omega
  have hwm : IntKind.i64.wrap ((P : Int) - 1) = (P : Int) - 1 := IntWalk.i64_in _ ⟨by omega, by omega⟩
  have HP := Px.hid (show p + 5 = P by omega)
  have g : (decide ((56320 : Int) ≤ (n : Int)) = false ∧ decide ((55296 : Int) ≤ (n : Int)) = false) ∨ (((56320 : Int) ≤ (n : Int)) ∧ decide ((n : Int) < 57344) = false ∧ ((55296 : Int) ≤ (n : Int)) ∧ decide ((n : Int) < 56320) = false) := by
    rcases h1 with e | e
    · exact .inl ⟨by simp; omega, by simp; omega⟩
    · exact .inr ⟨by omega, by simp; omega, by omega, by simp; omega⟩
  have HR := Px.hid (fun (w : World) => rune_any (.slice none 0 0) [] n (by simp) (by omega) w (owns_nil _ _ _ _))
  clear hw h hp hf h1 hP hPb hP1 hn hwm
  rcases g with ⟨g1, g2⟩ | ⟨g1, g2, g3, g4⟩
  all_goals
    go_enter Tryd.func61, Tryd.ntmps61
    go_wp2_with fail
    refine HW.out.mono ?_
    rintro r w1 ⟨rfl, hs⟩
    have h1 := HJ.out.same hs
    obtain ⟨_, _, _, _, c5, _, _⟩ := h1.cells
    have f5 := h1.free 5
    have H1 := Px.hid (h1.go (hs.it (b := b)) (p + 1))
    clear h1 hs
    go_wp2_with fail
    refine (HF.out _ H1.out.1).mono ?_
    rintro r w2 ⟨rfl, hj, hf, hn⟩
    obtain ⟨_, _, _, _, c5, _, _⟩ := hj.cells
    have H2 := Px.hid (And.intro hj (It.trans H1.out.2 hf))
    clear hj hf hn
    go_wp2_with fail
    refine (HR.out _).mono ?_
    rintro r w3 ⟨v, rfl, hg⟩
    have H3 := Px.hid hg
    clear hg
    go_wp2
    go_ret
    exact JEsc.rune rfl (by rw [HP.out]; exact H2.out.1) H2.out.2 H3.out
set_option maxRecDepth 100000 in
set_option maxHeartbeats 2000000 in
theorem jescu_m1 (b p : Nat) (s : Bytes) (lim : Lim) (vs vo : Value) (hp : p + 1 ≤ 140737488355327) (w : World) (h : Jr w b s lim p vs vo) (hw : D6.want s lim p = .ok 117) (n : Nat) (hf : D6.four s lim (p + 1) = .ok n) (h1 : 55296 ≤ n) (h2 : n < 56320) (hP2 : p + 5 ≤ 140737488355327) (e : D6.Flt) (hm : D6.must s lim (p + 5) 92 = .error e) :
    Calls Tryd.prog 61 #[.pointer (some ⟨b, 0, none⟩)] w (JEsc w b s lim vs vo (.error e)) := by
  have HW := Px.hid (jwant_yes b p s lim vs vo w h _ hw)
  have HJ := Px.hid h
  have hwp := wrap1 p (by omega)
  have HF := Px.hid (fun (w : World) (h : Jr w b s lim (p + 1) vs vo) => jfour_yes hp h hf)
  obtain ⟨P, hP⟩ : ∃ P, p + 1 + 4 = P := ⟨_, rfl⟩
  rw [hP] at HF
  have hPb : P ≤ 140737488355331 := by omega
  have hP1 : 1 ≤ P := by omega
  have y1 : decide ((56320 : Int) ≤ (n : Int)) = false := by simp; omega
  have y2 : (55296 : Int) ≤ (n : Int) := by omega
  have y3 : (n : Int) < 56320 := by omega
  obtain rfl : p + 5 = P := by omega
  have HM := Px.hid (fun (w : World) (h : Jr w b s lim (p + 5) vs vo) => jmust_no hP2 h hm)
  clear hw h hp hf h1 h2 hP hPb hP1 hm hP2
  go_enter Tryd.func61, Tryd.ntmps61
  go_wp2_with fail
  refine HW.out.mono ?_
  rintro r w1 ⟨rfl, hs⟩
  have h1 := HJ.out.same hs
  obtain ⟨_, _, _, _, c5, _, _⟩ := h1.cells
  have f5 := h1.free 5
  have H1 := Px.hid (h1.go (hs.it (b := b)) (p + 1))
  clear h1 hs
  go_wp2_with fail
  refine (HF.out _ H1.out.1).mono ?_
  rintro r w2 ⟨rfl, hj, hf, hn⟩
  obtain ⟨_, _, _, _, c5, _, _⟩ := hj.cells
  have H2 := Px.hid (And.intro hj (It.trans H1.out.2 hf))
  clear hj hf hn
  go_wp2_with fail
  refine (HM.out _ H2.out.1).mono ?_
  rintro r w3 ⟨rfl, hf⟩
  have H3 := Px.hid (It.trans H2.out.2 hf)
  clear hf
  unfold jpanics
  go_wp2
  exact ⟨rfl, JEsc.bad rfl H3.out⟩
set_option maxRecDepth 100000 in
set_option maxHeartbeats 2000000 in
theorem jescu_m2 (b p : Nat) (s : Bytes) (lim : Lim) (vs vo : Value) (hp : p + 1 ≤ 140737488355327) (w : World) (h : Jr w b s lim p vs vo) (hw : D6.want s lim p = .ok 117) (n : Nat) (hf : D6.four s lim (p + 1) = .ok n) (h1 : 55296 ≤ n) (h2 : n < 56320) (hP2 : p + 5 ≤ 140737488355327) (hm : D6.must s lim (p + 5) 92 = .ok (p + 6)) (hP3 : p + 6 ≤ 140737488355327) (e : D6.Flt) (hm2 : D6.must s lim (p + 6) 117 = .error e) :
    Calls Tryd.prog 61 #[.pointer (some ⟨b, 0, none⟩)] w (JEsc w b s lim vs vo (.error e)) := by
  have HW := Px.hid (jwant_yes b p s lim vs vo w h _ hw)
  have HJ := Px.hid h
  have hwp := wrap1 p (by omega)
  have HF := Px.hid (fun (w : World) (h : Jr w b s lim (p + 1) vs vo) => jfour_yes hp h hf)
  obtain ⟨P, hP⟩ : ∃ P, p + 1 + 4 = P := ⟨_, rfl⟩
  rw [hP] at HF
  have hPb : P ≤ 140737488355331 := by omega
  have hP1 : 1 ≤ P := by omega
  have y1 : decide ((56320 : Int) ≤ (n : Int)) = false := by simp; omega
  have y2 : (55296 : Int) ≤ (n : Int) := by omega
  have y3 : (n : Int) < 56320 := by omega
  obtain rfl : p + 5 = P := by omega
  have HM := Px.hid (fun (w : World) (h : Jr w b s lim (p + 5) vs vo) => jmust_yes hP2 h hm)
  have HM2 := Px.hid (fun (w : World) (h : Jr w b s lim (p + 6) vs vo) => jmust_no hP3 h hm2)
  clear hw h hp hf h1 h2 hP hPb hP1 hm hP2 hm2 hP3
  go_enter Tryd.func61, Tryd.ntmps61
  go_wp2_with fail
  refine HW.out.mono ?_
  rintro r w1 ⟨rfl, hs⟩
  have h1 := HJ.out.same hs
  obtain ⟨_, _, _, _, c5, _, _⟩ := h1.cells
  have f5 := h1.free 5
  have H1 := Px.hid (h1.go (hs.it (b := b)) (p + 1))
  clear h1 hs
  go_wp2_with fail
  refine (HF.out _ H1.out.1).mono ?_
  rintro r w2 ⟨rfl, hj, hf, hn⟩
  obtain ⟨_, _, _, _, c5, _, _⟩ := hj.cells
  have H2 := Px.hid (And.intro hj (It.trans H1.out.2 hf))
  clear hj hf hn
  go_wp2_with fail
  refine (HM.out _ H2.out.1).mono ?_
  rintro r w3 ⟨rfl, hj, hf⟩
  have H3 := Px.hid (And.intro hj (It.trans H2.out.2 hf))
  clear hj hf
  go_wp2_with fail
  refine (HM2.out _ H3.out.1).mono ?_
  rintro r w4 ⟨rfl, hf⟩
  have H4 := Px.hid (It.trans H3.out.2 hf)
  clear hf
  unfold jpanics
  go_wp2
  exact ⟨rfl, JEsc.bad rfl H4.out⟩
set_option maxRecDepth 100000 in
set_option maxHeartbeats 2000000 in
theorem jescu_f2 (b p : Nat) (s : Bytes) (lim : Lim) (vs vo : Value) (hp : p + 1 ≤ 140737488355327) (w : World) (h : Jr w b s lim p vs vo) (hw : D6.want s lim p = .ok 117) (n : Nat) (hf : D6.four s lim (p + 1) = .ok n) (h1 : 55296 ≤ n) (h2 : n < 56320) (hP2 : p + 5 ≤ 140737488355327) (hm : D6.must s lim (p + 5) 92 = .ok (p + 6)) (hP3 : p + 6 ≤ 140737488355327) (hm2 : D6.must s lim (p + 6) 117 = .ok (p + 7)) (hP4 : p + 7 ≤ 140737488355327) (e : D6.Flt) (hf2 : D6.four s lim (p + 7) = .error e) :
    Calls Tryd.prog 61 #[.pointer (some ⟨b, 0, none⟩)] w (JEsc w b s lim vs vo (.error e)) := by
  have HW := Px.hid (jwant_yes b p s lim vs vo w h _ hw)
  have HJ := Px.hid h
  have hwp := wrap1 p (by omega)
  have HF := Px.hid (fun (w : World) (h : Jr w b s lim (p + 1) vs vo) => jfour_yes hp h hf)
  obtain ⟨P, hP⟩ : ∃ P, p + 1 + 4 = P := ⟨_, rfl⟩
  rw [hP] at HF
  have hPb : P ≤ 140737488355331 := by omega
  have hP1 : 1 ≤ P := by omega
  have y1 : decide ((56320 : Int) ≤ (n : Int)) = false := by simp; omega
  have y2 : (55296 : Int) ≤ (n : Int) := by omega
  have y3 : (n : Int) < 56320 := by omega
  obtain rfl : p + 5 = P := by omega
  have HM := Px.hid (fun (w : World) (h : Jr w b s lim (p + 5) vs vo) => jmust_yes hP2 h hm)
  have HM2 := Px.hid (fun (w : World) (h : Jr w b s lim (p + 6) vs vo) => jmust_yes hP3 h hm2)
  have HF2 := Px.hid (fun (w : World) (h : Jr w b s lim (p + 7) vs vo) => jfour_no hP4 h hf2)
  clear hw h hp hf h1 h2 hP hPb hP1 hm hP2 hm2 hP3 hP4 hf2
  go_enter Tryd.func61, Tryd.ntmps61
  go_wp2_with fail
  refine HW.out.mono ?_
  rintro r w1 ⟨rfl, hs⟩
  have h1 := HJ.out.same hs
  obtain ⟨_, _, _, _, c5, _, _⟩ := h1.cells
  have f5 := h1.free 5
  have H1 := Px.hid (h1.go (hs.it (b := b)) (p + 1))
  clear h1 hs
  go_wp2_with fail
  refine (HF.out _ H1.out.1).mono ?_
  rintro r w2 ⟨rfl, hj, hf, hn⟩
  obtain ⟨_, _, _, _, c5, _, _⟩ := hj.cells
  have H2 := Px.hid (And.intro hj (It.trans H1.out.2 hf))
  clear hj hf hn
  go_wp2_with fail
  refine (HM.out _ H2.out.1).mono ?_
  rintro r w3 ⟨rfl, hj, hf⟩
  have H3 := Px.hid (And.intro hj (It.trans H2.out.2 hf))
  clear hj hf
  go_wp2_with fail
  refine (HM2.out _ H3.out.1).mono ?_
  rintro r w4 ⟨rfl, hj, hf⟩
  have H4 := Px.hid (And.intro hj (It.trans H3.out.2 hf))
  clear hj hf
  go_wp2_with fail
  refine (HF2.out _ H4.out.1).mono ?_
  rintro r w5 ⟨rfl, hf⟩
  have H5 := Px.hid (It.trans H4.out.2 hf)
  clear hf
  unfold jpanics
  go_wp2
  exact ⟨rfl, JEsc.bad rfl H5.out⟩
set_option maxRecDepth 100000 in
set_option maxHeartbeats 2000000 in
theorem jescu_bad (b p : Nat) (s : Bytes) (lim : Lim) (vs vo : Value) (hp : p + 1 ≤ 140737488355327) (w : World) (h : Jr w b s lim p vs vo) (hw : D6.want s lim p = .ok 117) (n : Nat) (hf : D6.four s lim (p + 1) = .ok n) (h1 : 55296 ≤ n) (h2 : n < 56320) (hP2 : p + 5 ≤ 140737488355327) (hm : D6.must s lim (p + 5) 92 = .ok (p + 6)) (hP3 : p + 6 ≤ 140737488355327) (hm2 : D6.must s lim (p + 6) 117 = .ok (p + 7)) (hP4 : p + 7 ≤ 140737488355327) (m : Nat) (hf2 : D6.four s lim (p + 7) = .ok m) (h3 : m < 56320 ∨ 57343 < m) :
    Calls Tryd.prog 61 #[.pointer (some ⟨b, 0, none⟩)] w (JEsc w b s lim vs vo (.error ((p + 10 : Nat), 9))) := by
  have HW := Px.hid (jwant_yes b p s lim vs vo w h _ hw)
  have HJ := Px.hid h
  have hwp := wrap1 p (by omega)
  have HF := Px.hid (fun (w : World) (h : Jr w b s lim (p + 1) vs vo) => jfour_yes hp h hf)
  obtain ⟨P, hP⟩ : ∃ P, p + 1 + 4 = P := ⟨_, rfl⟩
  rw [hP] at HF
  have hPb : P ≤ 140737488355331 := by omega
  have hP1 : 1 ≤ P := by omega
  have y1 : decide ((56320 : Int) ≤ (n : Int)) = false := by simp; omega
  have y2 : (55296 : Int) ≤ (n : Int) := by omega
  have y3 : (n : Int) < 56320 := by omega
  obtain rfl : p + 5 = P := by omega
  have HM := Px.hid (fun (w : World) (h : Jr w b s lim (p + 5) vs vo) => jmust_yes hP2 h hm)
  have HM2 := Px.hid (fun (w : World) (h : Jr w b s lim (p + 6) vs vo) => jmust_yes hP3 h hm2)
  have HF2 := Px.hid (fun (w : World) (h : Jr w b s lim (p + 7) vs vo) => jfour_yes hP4 h hf2)
  obtain ⟨Q, hQ⟩ : ∃ Q, p + 7 + 4 = Q := ⟨_, rfl⟩
  rw [hQ] at HF2
  have hQb : Q ≤ 140737488355331 := by omega
  have hQ1 : 1 ≤ Q := by omega
  have hwm : IntKind.i64.wrap ((Q : Int) - 1) = (Q : Int) - 1 := IntWalk.i64_in _ ⟨by omega, by omega⟩
  have HQ := Px.hid (show (p : Int) + 10 = (Q : Int) - 1 by omega)
  have g : (m : Int) < 56320 ∨ (decide ((m : Int) < 56320) = false ∧ (57344 : Int) ≤ (m : Int)) := by
    rcases h3 with e | e
    · exact .inl (by omega)
    · exact .inr ⟨by simp; omega, by omega⟩
  clear hw h hp hf h1 h2 hP hPb hP1 hm hP2 hm2 hP3 hP4 hf2 h3 hQ hQb hQ1
  rcases g with g | ⟨g, g2⟩
  all_goals
    go_enter Tryd.func61, Tryd.ntmps61
    go_wp2_with fail
    refine HW.out.mono ?_
    rintro r w1 ⟨rfl, hs⟩
    have h1 := HJ.out.same hs
    obtain ⟨_, _, _, _, c5, _, _⟩ := h1.cells
    have f5 := h1.free 5
    have H1 := Px.hid (h1.go (hs.it (b := b)) (p + 1))
    clear h1 hs
    go_wp2_with fail
    refine (HF.out _ H1.out.1).mono ?_
    rintro r w2 ⟨rfl, hj, hf, hn⟩
    have H2 := Px.hid (And.intro hj (It.trans H1.out.2 hf))
    clear hj hf hn
    go_wp2_with fail
    refine (HM.out _ H2.out.1).mono ?_
    rintro r w3 ⟨rfl, hj, hf⟩
    have H3 := Px.hid (And.intro hj (It.trans H2.out.2 hf))
    clear hj hf
    go_wp2_with fail
    refine (HM2.out _ H3.out.1).mono ?_
    rintro r w4 ⟨rfl, hj, hf⟩
    have H4 := Px.hid (And.intro hj (It.trans H3.out.2 hf))
    clear hj hf
    go_wp2_with fail
    refine (HF2.out _ H4.out.1).mono ?_
    rintro r w5 ⟨rfl, hj, hf, hn⟩
    obtain ⟨_, _, _, _, c5, _, _⟩ := hj.cells
    have H5 := Px.hid (And.intro hj (It.trans H4.out.2 hf))
    clear hj hf hn
    go_wp2_with fail
    refine (jwrong b _ _ _).mono ?_
    rintro r w6 ⟨rfl, rfl⟩
    unfold jpanics
    go_wp2
    exact ⟨rfl, JEsc.bad (by rw [HQ.out]) H5.out.2⟩
set_option maxRecDepth 100000 in
set_option maxHeartbeats 2000000 in
theorem jescu_two (b p : Nat) (s : Bytes) (lim : Lim) (vs vo : Value) (hp : p + 1 ≤ 140737488355327) (w : World) (h : Jr w b s lim p vs vo) (hw : D6.want s lim p = .ok 117) (n : Nat) (hf : D6.four s lim (p + 1) = .ok n) (h1 : 55296 ≤ n) (h2 : n < 56320) (hP2 : p + 5 ≤ 140737488355327) (hm : D6.must s lim (p + 5) 92 = .ok (p + 6)) (hP3 : p + 6 ≤ 140737488355327) (hm2 : D6.must s lim (p + 6) 117 = .ok (p + 7)) (hP4 : p + 7 ≤ 140737488355327) (m : Nat) (hf2 : D6.four s lim (p + 7) = .ok m) (h3 : 56320 ≤ m) (h4 : m < 57344) :
    Calls Tryd.prog 61 #[.pointer (some ⟨b, 0, none⟩)] w (JEsc w b s lim vs vo (.ok (R6.sign8 (65536 + (n - 55296) * 1024 + m - 56320), p + 11))) := by
  have HW := Px.hid (jwant_yes b p s lim vs vo w h _ hw)
  have HJ := Px.hid h
  have hwp := wrap1 p (by omega)
  have HF := Px.hid (fun (w : World) (h : Jr w b s lim (p + 1) vs vo) => jfour_yes hp h hf)
  obtain ⟨P, hP⟩ : ∃ P, p + 1 + 4 = P := ⟨_, rfl⟩
  rw [hP] at HF
  have hPb : P ≤ 140737488355331 := by omega
  have hP1 : 1 ≤ P := by omega
  have y1 : decide ((56320 : Int) ≤ (n : Int)) = false := by simp; omega
  have y2 : (55296 : Int) ≤ (n : Int) := by omega
  have y3 : (n : Int) < 56320 := by omega
  obtain rfl : p + 5 = P := by omega
  have HM := Px.hid (fun (w : World) (h : Jr w b s lim (p + 5) vs vo) => jmust_yes hP2 h hm)
  have HM2 := Px.hid (fun (w : World) (h : Jr w b s lim (p + 6) vs vo) => jmust_yes hP3 h hm2)
  have HF2 := Px.hid (fun (w : World) (h : Jr w b s lim (p + 7) vs vo) => jfour_yes hP4 h hf2)
  obtain ⟨Q, hQ⟩ : ∃ Q, p + 7 + 4 = Q := ⟨_, rfl⟩
  rw [hQ] at HF2
  have hQb : Q ≤ 140737488355331 := by omega
  have hQ1 : 1 ≤ Q := by omega
  have HQ := Px.hid (show p + 11 = Q by omega)
  have z1 : decide ((m : Int) < 56320) = false := by simp; omega
  have z2 : decide ((57344 : Int) ≤ (m : Int)) = false := by simp; omega
  have x1 : IntKind.i32.wrap ((n : Int) - 55296) = (n : Int) - 55296 := IntWalk.i32_in _ ⟨by omega, by omega⟩
  have x2 : IntKind.i32.wrap (((n : Int) - 55296) * 1024) = ((n : Int) - 55296) * 1024 := IntWalk.i32_in _ ⟨by omega, by omega⟩
  have x3 : IntKind.i32.wrap (65536 + ((n : Int) - 55296) * 1024) = 65536 + ((n : Int) - 55296) * 1024 := IntWalk.i32_in _ ⟨by omega, by omega⟩
  have x4 : IntKind.i32.wrap (65536 + ((n : Int) - 55296) * 1024 + (m : Int)) = 65536 + ((n : Int) - 55296) * 1024 + (m : Int) := IntWalk.i32_in _ ⟨by omega, by omega⟩
  obtain ⟨M, hM⟩ : ∃ M, 65536 + (n - 55296) * 1024 + m - 56320 = M := ⟨_, rfl⟩
  have x5 : IntKind.i32.wrap (65536 + ((n : Int) - 55296) * 1024 + (m : Int) - 56320) = (M : Int) := by
    rw [show 65536 + ((n : Int) - 55296) * 1024 + (m : Int) - 56320 = (M : Int) by omega]
    exact IntWalk.i32_in _ ⟨by omega, by omega⟩
  rw [hM]
  have HR := Px.hid (fun (w : World) => rune_any (.slice none 0 0) [] M (by simp) (by omega) w (owns_nil _ _ _ _))
  clear hw h hp hf h1 h2 hP hPb hP1 hm hP2 hm2 hP3 hP4 hf2 h3 h4 hQ hQb hQ1 hM
  go_enter Tryd.func61, Tryd.ntmps61
  go_wp2_with fail
  refine HW.out.mono ?_
  rintro r w1 ⟨rfl, hs⟩
  have h1 := HJ.out.same hs
  obtain ⟨_, _, _, _, c5, _, _⟩ := h1.cells
  have f5 := h1.free 5
  have H1 := Px.hid (h1.go (hs.it (b := b)) (p + 1))
  clear h1 hs
  go_wp2_with fail
  refine (HF.out _ H1.out.1).mono ?_
  rintro r w2 ⟨rfl, hj, hf, hn⟩
  have H2 := Px.hid (And.intro hj (It.trans H1.out.2 hf))
  clear hj hf hn
  go_wp2_with fail
  refine (HM.out _ H2.out.1).mono ?_
  rintro r w3 ⟨rfl, hj, hf⟩
  have H3 := Px.hid (And.intro hj (It.trans H2.out.2 hf))
  clear hj hf
  go_wp2_with fail
  refine (HM2.out _ H3.out.1).mono ?_
  rintro r w4 ⟨rfl, hj, hf⟩
  have H4 := Px.hid (And.intro hj (It.trans H3.out.2 hf))
  clear hj hf
  go_wp2_with fail
  refine (HF2.out _ H4.out.1).mono ?_
  rintro r w5 ⟨rfl, hj, hf, hn⟩
  have H5 := Px.hid (And.intro hj (It.trans H4.out.2 hf))
  clear hj hf hn
  go_wp2_with fail
  refine (HR.out _).mono ?_
  rintro r w6 ⟨v, rfl, hg⟩
  have H6 := Px.hid hg
  clear hg
  go_wp2
  go_ret
  exact JEsc.rune rfl (by rw [HQ.out]; exact H5.out.1) H5.out.2 H6.out
end Go.Proofs.YtahojodgmjmpnaaDoor
