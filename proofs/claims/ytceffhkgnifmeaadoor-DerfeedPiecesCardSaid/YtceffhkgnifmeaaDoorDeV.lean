/-
  The walks over der's ended and tag; the innermost element in memory.
-/
import Derived.Test.YtceffhkgnifmeaaDoorDlV
import Derived.WalkLawsBesides
import Derived.WalkSpells
namespace Go.Proofs.YtceffhkgnifmeaaDoor
open Go.RowKit Go.Px

section
variable {w w' : World} {b : Nat} {s : Bytes} {lim : Lim} {x : D5.Dx} {vs vo : Value}
theorem DrRep.stackLen (h : DrRep w b s lim x vs vo) : ∃ a cap, vs = .slice a x.stack.length cap := by
  obtain ⟨a, cap, hv, _⟩ := h.stack.len
  exact ⟨a, cap, by simpa using hv⟩
/-- The innermost one, open. -/
theorem DrRep.top {f : D5.Fm} {rest : List D5.Fm} (h : DrRep w b s lim x vs vo) (hs : x.stack = f :: rest) :
    ∃ g cap, vs = .slice (some ⟨g, 0, none⟩) (rest.length + 1) cap ∧ rest.length + 1 ≤ cap ∧ cap ≤ maxLen ∧
      w.cell? ⟨g, rest.length * 5, none⟩ = some (.int .u8 f.tag.toNat) ∧ w.cell? ⟨g, rest.length * 5 + 1, none⟩ = some (.int .i64 (f.at_ : Nat)) ∧
      w.cell? ⟨g, rest.length * 5 + 2, none⟩ = some (.int .i64 (f.end_ : Nat)) ∧ w.cell? ⟨g, rest.length * 5 + 3, none⟩ = some (.int .i64 (f.no : Nat)) ∧ w.cell? ⟨g, rest.length * 5 + 4, none⟩ = some (S f.last) ∧
      (∀ i, w.frozen? ⟨g, i, none⟩ = false) := by
  have h' : Owns w 91 5 cFm5 vs (rest.reverse ++ [f]) := by have := h.stack; rw [hs] at this; simpa using this
  obtain ⟨g, cap, h1, h2, h3, h4, h5⟩ := h'.last cFm5_len
  rw [List.length_reverse] at h1 h2 h4
  exact ⟨g, cap, h1, h2, h3, h4 0 _ rfl, h4 1 _ rfl, h4 2 _ rfl, h4 3 _ rfl, h4 4 _ rfl, h5⟩
/-- A cell of the innermost one is written. -/
theorem DrRep.setTop {f y : D5.Fm} {rest : List D5.Fm} {g cap : Nat} (h : DrRep w b s lim x (.slice (some ⟨g, 0, none⟩) (rest.length + 1) cap) vo) (hs : x.stack = f :: rest) (i : Nat) (u : Value) (hc : cFm5 y = (cFm5 f).set i u) :
    DrRep (w.setCell ⟨g, rest.length * 5 + i, none⟩ u) b s lim { x with stack := y :: rest } (.slice (some ⟨g, 0, none⟩) (rest.length + 1) cap) vo := by
  have h' : Owns w 91 5 cFm5 (.slice (some ⟨g, 0, none⟩) (rest.reverse.length + 1) cap) (rest.reverse ++ [f]) := by have := h.stack; rw [hs] at this; simpa using this
  have k := h'.setLast cFm5_len i u hc
  rw [List.length_reverse] at k
  refine ⟨?_, by simpa using k, h.out.setCell (p := ⟨g, _, none⟩) (fun e => h.so g rfl e) u, h.sb, h.ob, h.so⟩
  rw [heap_setCell_other _ _ _ _ (fun e => h.sb g rfl (by rw [e]))]
  exact h.blk
/-- The innermost one is taken off. -/
theorem DrRep.pop {f : D5.Fm} {rest : List D5.Fm} {g cap : Nat} (h : DrRep w b s lim x (.slice (some ⟨g, 0, none⟩) (rest.length + 1) cap) vo) (hs : x.stack = f :: rest) :
    DrRep (w.setCell ⟨b, 6, none⟩ (.slice (some ⟨g, 0, none⟩) rest.length cap)) b s lim { x with stack := rest } (.slice (some ⟨g, 0, none⟩) rest.length cap) vo := by
  have h' : Owns w 91 5 cFm5 (.slice (some ⟨g, 0, none⟩) (rest.reverse.length + 1) cap) (rest.reverse ++ [f]) := by have := h.stack; rw [hs] at this; simpa using this
  have k := h'.pop cFm5_len
  rw [List.length_reverse] at k
  refine ⟨by rw [heap_setCell_same w b 6 _ _ _ h.blk]; rfl, ?_, h.out.setCell (p := ⟨b, 6, none⟩) h.ob.ne _, h.sb, h.ob, h.so⟩
  have := k.setCell (p := ⟨b, 6, none⟩) h.sb.ne (.slice (some ⟨g, 0, none⟩) rest.length cap)
  have e : ({ x with stack := rest } : D5.Dx).stack.reverse = rest.reverse := rfl
  rw [e]
  unfold Owns at this ⊢
  rw [List.length_reverse] at this ⊢
  exact this
end

def EndPost (w : World) (b : Nat) (s : Bytes) (lim : Lim) (F : Nat → Prop) (res : Except D5.Flt D5.Dx) (r : Ending) (w' : World) : Prop :=
  match res with
  | .error e => r = panics e ∧ Fr F w w'
  | .ok y => r = .returned (.tuple #[]) ∧ DrAt w' b s lim y F ∧ Fr F w w'

set_option maxRecDepth 100000 in
set_option maxHeartbeats 2000000 in
theorem dended_any (b p : Nat) (s : Bytes) (lim : Lim) (x : D5.Dx) (F : Nat → Prop) (w : World) (h : DrAt w b s lim x F) (hp : p ≤ x.at_) (hx : x.at_ ≤ s.length) (hst : x.stack.length ≤ 1000) :
    Calls Tryd.prog 44 #[.pointer (some ⟨b, 0, none⟩), .int .i64 (p : Nat)] w fun r w' => EndPost w b s lim F (D5.ended s x p) r w' := by
  obtain ⟨vs, vo, h, rfl⟩ := h
  obtain ⟨a, cap, hv⟩ := h.stackLen
  have c6 := h.cells.2.2.2.2.2.1
  rw [hv] at c6
  rcases hs : x.stack with _ | ⟨f, rest⟩
  · rw [hs] at c6
    have hr : D5.ended s x p = .ok x := by simp [D5.ended, hs]
    have H := Px.hid (And.intro h hr)
    clear hr h hs hp hv
    go_enter Tryd.func44, Tryd.ntmps44
    go_wp2
    refine bodyPost_ret (results_none rfl _ _ _) rfl ?_
    rw [H.out.2]
    exact ⟨rfl, ⟨_, _, H.out.1, rfl⟩, Fr.refl _ _⟩
  · clear c6 hv
    have c0 := h.cells.1
    have c5 := h.cells.2.2.2.2.1
    have c6 := h.cells.2.2.2.2.2.1
    obtain ⟨g, cap', hv, hc1, hc2, k0, k1, k2, k3, k4, kf⟩ := h.top hs
    subst hv
    rw [hs] at hst
    simp at hst
    unfold maxLen at hc2
    have n0 : ((rest.length : Int) + 1 == 0) = false := by simp; omega
    have hsz : (ByteArray.mk s.toArray).size = s.length := size_S s
    have hslc := fun w => slice_S s p x.at_ hp hx w
    obtain ⟨key, hkey⟩ : ∃ key, key = (s.take x.at_).drop p := ⟨_, rfl⟩
    have hr : D5.ended s x p = if f.tag.toNat == 49 then (if Op.bytesLess key f.last then .error (p, 9) else .ok { x with stack := { f with last := key } :: rest }) else .ok x := by simp [D5.ended, hs, hkey]
    rw [← hkey] at hslc
    clear hkey
    rw [hr]
    by_cases hk : (f.tag.toNat == 49) = true
    · rw [if_pos hk]
      have hk5 : ((f.tag.toNat : Int) == 49) = true := by simp only [beq_iff_eq] at hk ⊢; omega
      by_cases hle : Op.bytesLess key f.last = true
      · rw [if_pos hle]
        have H := Px.hid h
        clear hr h hs hk
        go_enter Tryd.func44, Tryd.ntmps44
        go_wp2_with fail
        go_quiet (fail)
        go_wp2
        exact ⟨rfl, rfl, (Fr.refl _ w).drewN nq⟩
      · rw [if_neg hle]
        have hle' : Op.bytesLess key f.last = false := by simpa using hle
        have e1 := fun W (hh : DrRep W b s lim x (.slice (some ⟨g, 0, none⟩) (rest.length + 1) cap') vo) => hh.setTop (y := { f with last := key }) hs 4 (S key) rfl
        have hfo : dfoot b (.slice (some ⟨g, 0, none⟩) (rest.length + 1) cap') vo g := .inr (.inl rfl)
        have fr1 := fun n => (Fr.drewN (Fr.refl (dfoot b (.slice (some ⟨g, 0, none⟩) (rest.length + 1) cap') vo) w) n).setCell (p := ⟨g, rest.length * 5 + 4, none⟩) (.inl hfo) (S key)
        have H := Px.hid (And.intro h (And.intro e1 fr1))
        clear e1 fr1 hr h hs hk hfo hle
        go_enter Tryd.func44, Tryd.ntmps44
        go_wp2_with fail
        go_quiet (fail)
        go_wp2
        refine bodyPost_ret (results_none rfl _ _ _) rfl ?_
        exact ⟨rfl, ⟨_, _, H.out.2.1 _ (H.out.1.drewN nq), rfl⟩, H.out.2.2 nq⟩
    · rw [if_neg hk]
      have hk5 : ((f.tag.toNat : Int) == 49) = false := by rw [beq_iff_eq] at hk; rw [beq_eq_false_iff_ne]; omega
      have H := Px.hid h
      clear hr h hs hk hslc
      go_enter Tryd.func44, Tryd.ntmps44
      go_wp2
      refine bodyPost_ret (results_none rfl _ _ _) rfl ?_
      exact ⟨rfl, ⟨_, _, H.out, rfl⟩, Fr.refl _ _⟩

/-! The tag -/
def tagP (cl n : Nat) (i : Bool) : Int := if (cl != 0 && cl != 2) || n == 31 || (cl == 0 && !R5.plainT n && !R5.manyT n) then 11 else if cl == 0 && i != R5.manyT n then 9 else 0
theorem tagE_parts (t : Nat) : R5.tagE t = tagP (t / 64) (t % 32) (R5.inner t) := rfl
theorem bit32 (t : Nat) (ht : t < 256) : bits .and .u8 (t : Int) 32 = if R5.inner t then 32 else 0 := by
  have := u8_and_nat t 32 ht (by decide)
  rw [show ((32 : Nat) : Int) = 32 from rfl] at this
  rw [this, show (32 : Nat) = 2 ^ 5 from rfl, nat_bit]
  unfold R5.inner
  have h2 : t / 2 ^ 5 % 2 = 0 ∨ t / 2 ^ 5 % 2 = 1 := by omega
  rw [show (2 : Nat) ^ 5 = 32 from rfl] at *
  rcases h2 with h2 | h2 <;> rw [h2] <;> rfl
set_option maxHeartbeats 2000000 in
theorem tag_any (t : Nat) (ht : t < 256) (w : World) : Calls Tryd.prog 48 #[.int .u8 (t : Nat)] w fun r w' => r = .returned (.int .i64 (R5.tagE t)) ∧ w = w' := by
  rw [tagE_parts]
  have hb := bit32 t ht
  obtain ⟨cl, hcl⟩ : ∃ cl, cl = t / 64 := ⟨_, rfl⟩
  obtain ⟨n, hn⟩ : ∃ n, n = t % 32 := ⟨_, rfl⟩
  obtain ⟨i, hi⟩ : ∃ i, i = R5.inner t := ⟨_, rfl⟩
  rw [← hcl, ← hn, ← hi]
  rw [← hi] at hb
  have h1 : (t : Int) / 64 = (cl : Int) := by omega
  have h2 : (t : Int) % 32 = (n : Int) := by omega
  have hc4 : cl = 0 ∨ cl = 2 ∨ (((cl : Int) == 2) = false ∧ ((cl : Int) == 0) = false ∧ (cl != 0 && cl != 2) = true) := by
    by_cases e0 : cl = 0
    · exact .inl e0
    · by_cases e2 : cl = 2
      · exact .inr (.inl e2)
      · exact .inr (.inr ⟨by simp; omega, by simp; omega, by simp [e0, e2]⟩)
  have hn32 : n < 32 := by omega
  clear hcl hn hi
  rcases hc4 with rfl | rfl | ⟨c2, c0, c3⟩
  · have hnn : (n = 1 ∨ n = 2 ∨ n = 3 ∨ n = 4 ∨ n = 5 ∨ n = 6 ∨ n = 12) ∨ (n = 16 ∨ n = 17) ∨ (n ≠ 1 ∧ n ≠ 2 ∧ n ≠ 3 ∧ n ≠ 4 ∧ n ≠ 5 ∧ n ≠ 6 ∧ n ≠ 12 ∧ n ≠ 16 ∧ n ≠ 17) := by omega
    rcases hnn with hnn | hnn | ⟨n1, n2, n3, n4, n5, n6, n12, n16, n17⟩
    · cases i
      all_goals
        rcases hnn with rfl | rfl | rfl | rfl | rfl | rfl | rfl
        all_goals
          simp only [if_true, if_false, Bool.false_eq_true] at hb
          go_enter Tryd.func48, Tryd.ntmps48
          go_wp2
          go_ret
          exact ⟨rfl, rfl⟩
    · cases i
      all_goals
        rcases hnn with rfl | rfl
        all_goals
          simp only [if_true, if_false, Bool.false_eq_true] at hb
          go_enter Tryd.func48, Tryd.ntmps48
          go_wp2
          go_ret
          exact ⟨rfl, rfl⟩
    · have z1 : ((n : Int) == 1) = false := by simp; omega
      have z2 : ((n : Int) == 2) = false := by simp; omega
      have z3 : ((n : Int) == 3) = false := by simp; omega
      have z4 : ((n : Int) == 4) = false := by simp; omega
      have z5 : ((n : Int) == 5) = false := by simp; omega
      have z6 : ((n : Int) == 6) = false := by simp; omega
      have z12 : ((n : Int) == 12) = false := by simp; omega
      have z16 : ((n : Int) == 16) = false := by simp; omega
      have z17 : ((n : Int) == 17) = false := by simp; omega
      have HT := Px.hid (show tagP 0 n i = 11 by
        unfold tagP
        rw [if_pos]
        have p1 : R5.plainT n = false := by unfold R5.plainT; simp; omega
        have p2 : R5.manyT n = false := by unfold R5.manyT; simp; omega
        rw [p1, p2]
        simp)
      clear n1 n2 n3 n4 n5 n6 n12 n16 n17 hb
      go_enter Tryd.func48, Tryd.ntmps48
      go_wp2
      go_ret
      rw [HT.out]
      exact ⟨rfl, rfl⟩
  · by_cases e31 : n = 31
    · subst e31
      clear hb
      go_enter Tryd.func48, Tryd.ntmps48
      go_wp2
      go_ret
      exact ⟨rfl, rfl⟩
    · have z31 : ((n : Int) == 31) = false := by simp; omega
      have HT := Px.hid (show tagP 2 n i = 0 by
        unfold tagP
        rw [if_neg, if_neg]
        · simp
        · simp [e31])
      clear hb e31
      go_enter Tryd.func48, Tryd.ntmps48
      go_wp2
      go_ret
      rw [HT.out]
      exact ⟨rfl, rfl⟩
  · have HT := Px.hid (show tagP cl n i = 11 by
      unfold tagP
      rw [if_pos]
      rw [c3]
      rfl)
    clear hb c3
    go_enter Tryd.func48, Tryd.ntmps48
    go_wp2
    go_ret
    rw [HT.out]
    exact ⟨rfl, rfl⟩
end Go.Proofs.YtceffhkgnifmeaaDoor
