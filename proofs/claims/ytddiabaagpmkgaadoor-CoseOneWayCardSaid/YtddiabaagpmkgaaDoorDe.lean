/-
  The walk over the program's ended (package cbor); the innermost item in memory.
-/
import Derived.Test.YtddiabaagpmkgaaDoorDr
import Derived.WalkLawsBesides
import Derived.WalkSpells
namespace Go.Proofs.YtddiabaagpmkgaaDoor
open Go.RowKit Go.Px

section
variable {w w' : World} {b : Nat} {s : Bytes} {lim : Lim} {x : D7.Dx} {vs vo : Value}
theorem DrRep.stackLen (h : DrRep w b s lim x vs vo) : ∃ a cap, vs = .slice a x.stack.length cap := by
  obtain ⟨a, cap, hv, _⟩ := h.stack.len
  exact ⟨a, cap, by simpa using hv⟩
/-- The innermost one, open. -/
theorem DrRep.top {f : D7.Fm} {rest : List D7.Fm} (h : DrRep w b s lim x vs vo) (hs : x.stack = f :: rest) :
    ∃ g cap, vs = .slice (some ⟨g, 0, none⟩) (rest.length + 1) cap ∧ rest.length + 1 ≤ cap ∧ cap ≤ maxLen ∧
      w.cell? ⟨g, rest.length * 5, none⟩ = some (.int .i64 f.kind) ∧ w.cell? ⟨g, rest.length * 5 + 1, none⟩ = some (.int .i64 (f.at_ : Nat)) ∧
      w.cell? ⟨g, rest.length * 5 + 2, none⟩ = some (.int .u64 (f.left : Nat)) ∧ w.cell? ⟨g, rest.length * 5 + 3, none⟩ = some (S f.key) ∧ w.cell? ⟨g, rest.length * 5 + 4, none⟩ = some (.bool f.any) ∧
      (∀ i, w.frozen? ⟨g, i, none⟩ = false) := by
  have h' : Owns w 108 5 cFm vs (rest.reverse ++ [f]) := by have := h.stack; rw [hs] at this; simpa using this
  obtain ⟨g, cap, h1, h2, h3, h4, h5⟩ := h'.last cFm_len
  rw [List.length_reverse] at h1 h2 h4
  exact ⟨g, cap, h1, h2, h3, h4 0 _ rfl, h4 1 _ rfl, h4 2 _ rfl, h4 3 _ rfl, h4 4 _ rfl, h5⟩
/-- A cell of the innermost one is written. -/
theorem DrRep.setTop {f y : D7.Fm} {rest : List D7.Fm} {g cap : Nat} (h : DrRep w b s lim x (.slice (some ⟨g, 0, none⟩) (rest.length + 1) cap) vo) (hs : x.stack = f :: rest) (i : Nat) (u : Value) (hc : cFm y = (cFm f).set i u) :
    DrRep (w.setCell ⟨g, rest.length * 5 + i, none⟩ u) b s lim { x with stack := y :: rest } (.slice (some ⟨g, 0, none⟩) (rest.length + 1) cap) vo := by
  have h' : Owns w 108 5 cFm (.slice (some ⟨g, 0, none⟩) (rest.reverse.length + 1) cap) (rest.reverse ++ [f]) := by have := h.stack; rw [hs] at this; simpa using this
  have k := h'.setLast cFm_len i u hc
  rw [List.length_reverse] at k
  refine ⟨?_, by simpa using k, h.out.setCell (p := ⟨g, _, none⟩) (fun e => h.so g rfl e) u, h.sb, h.ob, h.so⟩
  rw [heap_setCell_other _ _ _ _ (fun e => h.sb g rfl (by rw [e]))]
  exact h.blk
/-- The innermost one is taken off. -/
theorem DrRep.pop {f : D7.Fm} {rest : List D7.Fm} {g cap : Nat} (h : DrRep w b s lim x (.slice (some ⟨g, 0, none⟩) (rest.length + 1) cap) vo) (hs : x.stack = f :: rest) :
    DrRep (w.setCell ⟨b, 6, none⟩ (.slice (some ⟨g, 0, none⟩) rest.length cap)) b s lim { x with stack := rest } (.slice (some ⟨g, 0, none⟩) rest.length cap) vo := by
  have h' : Owns w 108 5 cFm (.slice (some ⟨g, 0, none⟩) (rest.reverse.length + 1) cap) (rest.reverse ++ [f]) := by have := h.stack; rw [hs] at this; simpa using this
  have k := h'.pop cFm_len
  rw [List.length_reverse] at k
  refine ⟨by rw [heap_setCell_same w b 6 _ _ _ h.blk]; rfl, ?_, h.out.setCell (p := ⟨b, 6, none⟩) h.ob.ne _, h.sb, h.ob, h.so⟩
  have := k.setCell (p := ⟨b, 6, none⟩) h.sb.ne (.slice (some ⟨g, 0, none⟩) rest.length cap)
  have e : ({ x with stack := rest } : D7.Dx).stack.reverse = rest.reverse := rfl
  rw [e]
  unfold Owns at this ⊢
  rw [List.length_reverse] at this ⊢
  exact this
end

def EndPost (w : World) (b : Nat) (s : Bytes) (lim : Lim) (F : Nat → Prop) (res : Except D7.Flt D7.Dx) (r : Ending) (w' : World) : Prop :=
  match res with
  | .error e => r = panics e ∧ Fr F w w'
  | .ok y => r = .returned (.tuple #[]) ∧ DrAt w' b s lim y F ∧ Fr F w w'

set_option maxRecDepth 100000 in
set_option maxHeartbeats 2000000 in
theorem dended_any (b p : Nat) (s : Bytes) (lim : Lim) (x : D7.Dx) (F : Nat → Prop) (w : World) (h : DrAt w b s lim x F) (hp : p ≤ x.at_) (hx : x.at_ ≤ s.length) (hl : ∀ f rest, x.stack = f :: rest → 0 < f.left ∧ f.left < 18446744073709551616) (hst : x.stack.length ≤ 1000) :
    Calls Tryd.prog 52 #[.pointer (some ⟨b, 0, none⟩), .int .i64 (p : Nat)] w fun r w' => EndPost w b s lim F (D7.ended s x p) r w' := by
  obtain ⟨vs, vo, h, rfl⟩ := h
  obtain ⟨a, cap, hv⟩ := h.stackLen
  obtain ⟨_, _, _, _, _, c6, _⟩ := h.cells
  rw [hv] at c6
  rcases hs : x.stack with _ | ⟨f, rest⟩
  · rw [hs] at c6
    have hr : D7.ended s x p = .ok x := by simp [D7.ended, hs]
    have H := Px.hid (And.intro h hr)
    clear hr h hs hp hl hv
    go_enter Tryd.func52, Tryd.ntmps52
    go_wp2
    refine bodyPost_ret (results_none rfl _ _ _) rfl ?_
    rw [H.out.2]
    exact ⟨rfl, ⟨_, _, H.out.1, rfl⟩, Fr.refl _ _⟩
  · obtain ⟨hl1, hl2⟩ := hl f rest hs
    clear c6 hv
    obtain ⟨c0, _, _, _, c5, c6, _⟩ := h.cells
    obtain ⟨g, cap', hv, hc1, hc2, k0, k1, k2, k3, k4, kf⟩ := h.top hs
    subst hv
    rw [hs] at hst
    simp at hst
    unfold maxLen at hc2
    have n0 : ((rest.length : Int) + 1 == 0) = false := by simp; omega
    have en : ((f.left - 1 : Nat) : Int) = (f.left : Int) - 1 := by omega
    have hsz : (ByteArray.mk s.toArray).size = s.length := size_S s
    have hslc := fun w => slice_S s p x.at_ hp hx w
    obtain ⟨key, hkey⟩ : ∃ key, key = (s.take x.at_).drop p := ⟨_, rfl⟩
    have hr : D7.ended s x p = if f.kind == 5 && f.left % 2 == 0 then (if f.any && leB key f.key then .error (p, 9) else .ok { x with stack := { f with key := key, any := true, left := f.left - 1 } :: rest }) else .ok { x with stack := { f with left := f.left - 1 } :: rest } := by simp [D7.ended, hs, hkey]
    rw [← hkey] at hslc
    clear hkey
    rw [hr]
    by_cases hk : (f.kind == 5 && f.left % 2 == 0) = true
    · rw [if_pos hk]
      simp only [Bool.and_eq_true, beq_iff_eq] at hk
      obtain ⟨hk5, hk2⟩ := hk
      have hk5' : (f.kind == 5) = true := by simpa using hk5
      have hk2' : ((f.left : Int) % 2 == 0) = true := by simp; omega
      by_cases hle : (f.any && leB key f.key) = true
      · rw [if_pos hle]
        simp only [leB, Bool.and_eq_true] at hle
        obtain ⟨ha, hle⟩ := hle
        have H := Px.hid h
        have H5 := Px.hid hk5
        clear hk5 hr h hs
        go_enter Tryd.func52, Tryd.ntmps52
        go_wp2_with fail
        go_quiet (fail)
        go_wp2
        exact ⟨rfl, rfl, (Fr.refl _ w).drewN nq⟩
      · rw [if_neg hle]
        have e1 := fun W (hh : DrRep W b s lim x (.slice (some ⟨g, 0, none⟩) (rest.length + 1) cap') vo) => ((hh.setTop (y := { f with key := key }) hs 3 (S key) rfl).setTop (y := { f with key := key, any := true }) rfl 4 (.bool true) rfl).setTop (y := { f with key := key, any := true, left := f.left - 1 }) rfl 2 (.int .u64 (f.left - 1 : Nat)) rfl
        have hfo : dfoot b (.slice (some ⟨g, 0, none⟩) (rest.length + 1) cap') vo g := .inr (.inl rfl)
        have fr1 := fun n => (((Fr.drewN (Fr.refl (dfoot b (.slice (some ⟨g, 0, none⟩) (rest.length + 1) cap') vo) w) n).setCell (p := ⟨g, rest.length * 5 + 3, none⟩) (.inl hfo) (S key)).setCell (p := ⟨g, rest.length * 5 + 4, none⟩) (.inl hfo) (.bool true)).setCell (p := ⟨g, rest.length * 5 + 2, none⟩) (.inl hfo) (.int .u64 (f.left - 1 : Nat))
        rw [en] at e1 fr1
        have H := Px.hid (And.intro h (And.intro e1 fr1))
        have H5 := Px.hid hk5
        clear e1 fr1 hr h hs hk5 hfo
        by_cases ha : f.any = true
        · have hle' : (Op.bytesLess key f.key || key == f.key) = false := by
            simp only [ha, leB, Bool.true_and] at hle
            exact Bool.eq_false_iff.2 hle
          clear hle
          go_enter Tryd.func52, Tryd.ntmps52
          go_wp2_with fail
          go_quiet (fail)
          go_wp2
          refine bodyPost_ret (results_none rfl _ _ _) rfl ?_
          exact ⟨rfl, ⟨_, _, H.out.2.1 _ (H.out.1.drewN nq), rfl⟩, H.out.2.2 nq⟩
        · have ha' : f.any = false := by simpa using ha
          clear ha hle
          go_enter Tryd.func52, Tryd.ntmps52
          go_wp2_with fail
          go_quiet (fail)
          go_wp2
          refine bodyPost_ret (results_none rfl _ _ _) rfl ?_
          exact ⟨rfl, ⟨_, _, H.out.2.1 _ (H.out.1.drewN nq), rfl⟩, H.out.2.2 nq⟩
    · have e1 := h.setTop (y := { f with left := f.left - 1 }) hs 2 (.int .u64 (f.left - 1 : Nat)) rfl
      rw [if_neg hk]
      have fr1 := (Fr.refl (dfoot b (.slice (some ⟨g, 0, none⟩) (rest.length + 1) cap') vo) w).setCell (p := ⟨g, rest.length * 5 + 2, none⟩) (.inl (.inr (.inl rfl))) (.int .u64 (f.left - 1 : Nat))
      rw [en] at e1 fr1
      have H := Px.hid (And.intro e1 fr1)
      clear e1 fr1 hr h hs hslc
      by_cases hk5 : f.kind = 5
      · have hk5' : (f.kind == 5) = true := by simpa using hk5
        have hk2 : ((f.left : Int) % 2 == 0) = false := by
          simp only [hk5', Bool.true_and, beq_iff_eq] at hk
          simp; omega
        have H5 := Px.hid hk5
        clear hk hk5
        go_enter Tryd.func52, Tryd.ntmps52
        go_wp2
        refine bodyPost_ret (results_none rfl _ _ _) rfl ?_
        exact ⟨rfl, ⟨_, _, H.out.1, rfl⟩, H.out.2⟩
      · have hk5' : (f.kind == 5) = false := by simpa using hk5
        clear hk
        go_enter Tryd.func52, Tryd.ntmps52
        go_wp2
        refine bodyPost_ret (results_none rfl _ _ _) rfl ?_
        exact ⟨rfl, ⟨_, _, H.out.1, rfl⟩, H.out.2⟩
end Go.Proofs.YtddiabaagpmkgaaDoor
