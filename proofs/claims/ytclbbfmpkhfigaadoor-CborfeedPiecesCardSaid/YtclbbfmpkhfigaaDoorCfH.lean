/-
  The walks over May (der's and the reference's), cborfeed's New, End, State; and of a nil and a zero feed.
-/
import Derived.Test.YtclbbfmpkhfigaaDoorCfG
namespace Go.Proofs.YtclbbfmpkhfigaaDoor
open Go.RowKit Go.Px Go.Px.Cf

def limV (l : Lim) : Value := .agg #[.int .i64 l.d, .int .i64 l.i, .int .i64 l.b, .int .i64 l.r]
/-- Nothing that was there has changed. -/
def Same (w w' : World) : Prop := Fr (fun _ => False) w w'
theorem Same.refl (w : World) : Same w w := Fr.refl _ w
theorem Same.trans {a b c : World} (h : Same a b) (k : Same b c) : Same a c := Fr.trans h k fun _ _ x => x
theorem Same.below {a b : World} (h : Same a b) : Below a.heap.size a b := ⟨h.os, h.tape, h.output, h.size, fun k hk => h.block k hk (fun x => x)⟩
theorem Same.fr {a b : World} (h : Same a b) (F : Nat → Prop) : Fr F a b := Fr.mono h fun _ x => x.elim
theorem FeedAt.same {w w' : World} {b : Nat} {f : Feed} {F : Nat → Prop} (h : FeedAt w b f F) (hs : Same w w') : FeedAt w' b f F := by
  obtain ⟨vt, vo, vs, h, e⟩ := h
  exact ⟨vt, vo, vs, h.fr hs (fun _ _ x => x), e⟩
theorem Owns.same {α : Type} {w w' : World} {T sz : Nat} {c : α → List Value} {v : Value} {l : List α} (h : Owns w T sz c v l) (hs : Same w w') : Owns w' T sz c v l := h.fr hs (fun _ _ x => x)
theorem Tabs.same {w w' : World} (h : Tabs w) (hs : Same w w') : Tabs w' := h.below hs.below

theorem derMay_any (l : Lim) (w : World) : Calls Tryd.prog 29 #[limV l] w fun e w' => e = .returned (.bool l.may) ∧ Same w w' := by
  unfold limV
  go_enter Tryd.func29, Tryd.ntmps29
  go_wp2
  all_goals
    go_ret
    exact ⟨by (first | (simp [Lim.may, *]; done) | (simp [Lim.may, *]; omega)), (Fr.refl _ w).alloc _⟩
theorem refMay_any (l : Lim) (w : World) : Calls Tryd.prog 16 #[limV l] w fun e w' => e = .returned (.bool l.may) ∧ Same w w' := by
  unfold limV
  go_enter Tryd.func16, Tryd.ntmps16
  go_wp2
  all_goals
    go_ret
    exact ⟨by (first | (simp [Lim.may, *]; done) | (simp [Lim.may, *]; omega)), (Fr.refl _ w).alloc _⟩

theorem state_any (b : Nat) (f : Feed) (F : Nat → Prop) (w : World) (h : FeedAt w b f F) :
    Calls Tryd.prog 21 #[.pointer (some ⟨b, 0, none⟩)] w fun e w' => e = .returned (.tuple #[.int .i64 f.text.length, .int .i64 f.stack.length]) ∧ Same w w' := by
  obtain ⟨vt, vo, vs, h, rfl⟩ := h
  obtain ⟨ta, tc, htv, _⟩ := h.text.len
  obtain ⟨sa, sc, hsv⟩ := h.stackLen
  have c4 : w.cell? ⟨b, 4, none⟩ = some (.slice ta f.text.length tc) := by rw [← htv]; exact cellOf h.blk 4 rfl
  have c6 : w.cell? ⟨b, 6, none⟩ = some (.slice sa f.stack.length sc) := by rw [← hsv]; exact cellOf h.blk 6 rfl
  clear htv hsv h
  go_enter Tryd.func21, Tryd.ntmps21
  go_wp2_with fail
  go_quiet (fail)
  go_wp2
  go_ret2
  exact ⟨rfl, (Fr.refl _ w).drewN nq⟩
theorem state_nil (w : World) : Calls Tryd.prog 21 #[.pointer none] w fun e w' => e = .returned (.tuple #[.int .i64 0, .int .i64 0]) ∧ Same w w' := by
  go_enter Tryd.func21, Tryd.ntmps21
  go_wp2
  go_ret2
  exact ⟨rfl, Same.refl w⟩
theorem end_nil (w : World) : Calls Tryd.prog 19 #[.pointer none] w fun e w' => e = .returned (.tuple #[.slice none 0 0, .int .i64 0, .int .i64 1]) ∧ Same w w' := by
  go_enter Tryd.func19, Tryd.ntmps19
  go_wp2
  go_ret3
  exact ⟨rfl, Same.refl w⟩
theorem write_nil (s : List UInt8) (w : World) : Calls Tryd.prog 17 #[.pointer none, S s] w fun e w' => e = .returned (.int .i64 1) ∧ Same w w' := by
  go_enter Tryd.func17, Tryd.ntmps17
  go_wp2
  go_ret
  exact ⟨rfl, Same.refl w⟩
theorem end_zero (b : Nat) (w : World) (c2 : w.cell? ⟨b, 2, none⟩ = some (.int .i64 0)) : Calls Tryd.prog 19 #[.pointer (some ⟨b, 0, none⟩)] w fun e w' => e = .returned (.tuple #[.slice none 0 0, .int .i64 0, .int .i64 1]) ∧ Same w w' := by
  go_enter Tryd.func19, Tryd.ntmps19
  go_wp2
  go_ret3
  exact ⟨rfl, Same.refl w⟩
theorem write_zero (b : Nat) (s : List UInt8) (w : World) (c2 : w.cell? ⟨b, 2, none⟩ = some (.int .i64 0)) : Calls Tryd.prog 17 #[.pointer (some ⟨b, 0, none⟩), S s] w fun e w' => e = .returned (.int .i64 1) ∧ Same w w' := by
  go_enter Tryd.func17, Tryd.ntmps17
  go_wp2
  go_ret
  exact ⟨rfl, Same.refl w⟩

theorem new_no (l : Lim) (w : World) (hm : l.may = false) : Calls Tryd.prog 15 #[limV l] w fun e w' => e = .returned (.tuple #[.pointer none, .int .i64 2]) ∧ Same w w' := by
  have H := Px.hid hm
  clear hm
  unfold limV
  go_enter Tryd.func15, Tryd.ntmps15
  go_wp2_with fail
  refine (derMay_any l _).mono ?_
  rintro e w' ⟨rfl, hs⟩
  have HS := Px.hid (Same.trans ((Fr.refl (fun _ => False) w).alloc _) hs)
  clear hs
  rw [H.out]
  go_wp2
  go_ret2
  exact ⟨rfl, HS.out⟩
theorem new_yes (l : Lim) (w : World) (hm : l.may = true) : Calls Tryd.prog 15 #[limV l] w fun e w' => ∃ b, e = .returned (.tuple #[.pointer (some ⟨b, 0, none⟩), .int .i64 0]) ∧ Same w w' ∧ w.heap.size ≤ b ∧ FeedAt w' b (Cf.init l) (fun k => k = b) := by
  have H := Px.hid hm
  clear hm
  unfold limV
  go_enter Tryd.func15, Tryd.ntmps15
  go_wp2_with fail
  refine (derMay_any l _).mono ?_
  rintro e w' ⟨rfl, hs⟩
  have HS := Px.hid (Same.trans ((Fr.refl (fun _ => False) w).alloc _) hs)
  have c0 : w'.cell? ⟨w.heap.size, 0, none⟩ = some (.int .i64 l.d) := (hs.cell (p := ⟨w.heap.size, 0, none⟩) (by simp) (fun x => x)).trans (cellOf (heap_alloc_new w _) 0 rfl)
  have c1 : w'.cell? ⟨w.heap.size, 1, none⟩ = some (.int .i64 l.i) := (hs.cell (p := ⟨w.heap.size, 1, none⟩) (by simp) (fun x => x)).trans (cellOf (heap_alloc_new w _) 1 rfl)
  have c2 : w'.cell? ⟨w.heap.size, 2, none⟩ = some (.int .i64 l.b) := (hs.cell (p := ⟨w.heap.size, 2, none⟩) (by simp) (fun x => x)).trans (cellOf (heap_alloc_new w _) 2 rfl)
  have c3 : w'.cell? ⟨w.heap.size, 3, none⟩ = some (.int .i64 l.r) := (hs.cell (p := ⟨w.heap.size, 3, none⟩) (by simp) (fun x => x)).trans (cellOf (heap_alloc_new w _) 3 rfl)
  clear hs
  rw [H.out]
  go_wp2
  go_ret2
  refine ⟨w'.heap.size, rfl, HS.out.alloc _, HS.out.size, .slice none 0 0, .slice none 0 0, .slice none 0 0, ⟨heap_alloc_new w' _, owns_nil _ _ _ _, owns_nil _ _ _ _, owns_nil _ _ _ _, ?_, ?_, ?_, ?_, ?_, ?_⟩, ?_⟩
  · intro k hk; simp [Value.ownBlock] at hk
  · intro k hk; simp [Value.ownBlock] at hk
  · intro k hk; simp [Value.ownBlock] at hk
  · intro k hk; simp [Value.ownBlock] at hk
  · intro k hk; simp [Value.ownBlock] at hk
  · intro k hk; simp [Value.ownBlock] at hk
  · funext k; simp [foot, Value.ownBlock]

theorem atom_one (l : List Atom) : ∀ u ∈ l.flatMap cAtom, u.oneCell' = true := by
  intro u hu
  simp only [List.mem_flatMap] at hu
  obtain ⟨a, _, hu⟩ := hu
  simp only [cAtom, List.mem_cons, List.not_mem_nil, or_false] at hu
  rcases hu with rfl | rfl | rfl <;> rfl

set_option maxRecDepth 100000 in
set_option maxHeartbeats 1000000 in
theorem end_any (b : Nat) (f : Feed) (F : Nat → Prop) (w : World) (h : FeedAt w b f F) (hb0 : f.lim.b ≠ 0) (ho : f.out.length ≤ 1000000) (hne : f.err = 0 → f.next = 3 → f.out ≠ []) :
    Calls Tryd.prog 19 #[.pointer (some ⟨b, 0, none⟩)] w fun e w' => ∃ v, e = .returned (.tuple #[v, .int .i64 (Cf.End f).2.1, .int .i64 (Cf.End f).2.2]) ∧ Owns w' 72 3 cAtom v (Cf.End f).1 ∧ Same w w' ∧ (∀ k, v.ownBlock = some k → w.heap.size ≤ k) := by
  obtain ⟨vt, vo, vs, h, rfl⟩ := h
  have h0 : (f.lim.b == 0) = false := by simpa using hb0
  have c2 : w.cell? ⟨b, 2, none⟩ = some (.int .i64 f.lim.b) := cellOf h.blk 2 rfl
  have c13 : w.cell? ⟨b, 13, none⟩ = some (.int .i64 f.err) := cellOf h.blk 13 rfl
  have c14 : w.cell? ⟨b, 14, none⟩ = some (.int .i64 f.at_) := cellOf h.blk 14 rfl
  have c7 : w.cell? ⟨b, 7, none⟩ = some (.int .i64 f.next) := cellOf h.blk 7 rfl
  clear hb0
  by_cases he : f.err = 0
  · have he' : (f.err == 0) = true := by simpa using he
    have he2 : (f.err != 0) = false := by simp [he]
    by_cases hn : f.next = 3
    · have hn2 : (f.next != 3) = false := by simp [hn]
      have HE := Px.hid (show Cf.End f = (f.out, 0, 0) by simp [Cf.End, he2, hn2])
      have he0 := he
      clear he
      obtain ⟨oa, oc, hov, hoc1, hoc2, hon⟩ := h.out.len
      have c5 : w.cell? ⟨b, 5, none⟩ = some (.slice oa f.out.length oc) := by rw [← hov]; exact cellOf h.blk 5 rfl
      have hpos : 0 < f.out.length := List.length_pos_iff.2 (hne he0 hn)
      obtain ⟨g, rfl⟩ : ∃ g, oa = some ⟨g, 0, none⟩ := by
        obtain ⟨g, cap, hv, _⟩ := h.out.at cAtom_len (j := 0) (a := f.out[0]) (by simp [hpos])
        rw [hov] at hv
        simp only [Value.slice.injEq] at hv
        exact ⟨g, hv.1⟩
      have hown : w.ownsRow 0 72 3 (.slice (some ⟨g, 0, none⟩) f.out.length oc) f.out.length (f.out.flatMap cAtom) := by have := h.out; rw [hov] at this; exact this
      have HC := Px.hid (hown.cells (g := g) rfl)
      obtain ⟨i0, hi0, hz0, hz1, hz2⟩ := info_parts Tryd.infoAtom
      clear he0 hn hov hon h hown hoc1 hoc2
      go_enter Tryd.func19, Tryd.ntmps19
      go_wp2_with (at_builtin; refine wpList_append_lies _ rfl _ _ _ rfl 0 72 i0 _ 3 32 Tryd.underlying32 hi0 hz0 hz1 hz2 rfl (by omega) (.slice none 0 0) 0 [] rfl (World.ownsRow_nil _ _ _ _) ⟨g, 0, none⟩ f.out.length oc (f.out.flatMap cAtom) rfl (flat_len cAtom_len _) HC.out (atom_one _) hpos (by unfold maxLen; omega) (by omega) (by omega) w.heap.size rfl ?_)
      intro gg cap w1 hown1 hgrow hat hlt
      have HW := Px.hid (And.intro hown1 (And.intro hgrow hat))
      clear hown1 hgrow hat
      go_wp2
      go_ret3
      rw [HE.out]
      obtain ⟨h1, h2, h3⟩ := HW.out
      refine ⟨.slice (some ⟨gg, 0, none⟩) f.out.length cap, rfl, ?_, (Fr.refl _ w).grown h2 (fun k e => by simp [Value.ownBlock] at e), fun k hk => ?_⟩
      · unfold Owns
        simpa using h1
      · simp only [Value.ownBlock, Option.some.injEq] at hk
        subst hk
        rcases h3 with e | e
        · simp [Value.ownBlock] at e
        · omega
    · have hn2 : (f.next != 3) = true := by simp [hn]
      have HE := Px.hid (show Cf.End f = ([], (f.text.length : Int), 9) by simp [Cf.End, he2, hn2])
      obtain ⟨ta, tc, htv, _⟩ := h.text.len
      have c4 : w.cell? ⟨b, 4, none⟩ = some (.slice ta f.text.length tc) := by rw [← htv]; exact cellOf h.blk 4 rfl
      clear he hn htv h
      go_enter Tryd.func19, Tryd.ntmps19
      go_wp2_with fail
      go_quiet (fail)
      go_wp2
      go_ret3
      rw [HE.out]
      exact ⟨_, rfl, owns_nil _ _ _ _, (Fr.refl _ w).drewN nq, fun k hk => by simp [Value.ownBlock] at hk⟩
  · have he2 : (f.err != 0) = true := by simp [he]
    have HE := Px.hid (show Cf.End f = ([], f.at_, f.err) by simp [Cf.End, he2])
    clear he h
    go_enter Tryd.func19, Tryd.ntmps19
    go_wp2_with fail
    go_quiet (fail)
    go_wp2
    go_ret3
    rw [HE.out]
    exact ⟨_, rfl, owns_nil _ _ _ _, (Fr.refl _ w).drewN nq, fun k hk => by simp [Value.ownBlock] at hk⟩
end Go.Proofs.YtclbbfmpkhfigaaDoor
