/-
  The walks over the statements CborfeedNil and CborfeedStops.
-/
import Derived.Test.YtclbbfmpkhfigaaDoorCfI
namespace Go.Proofs.YtclbbfmpkhfigaaDoor
open Go.RowKit Go.Px Go.Px.Cf

theorem zero_at {b : Nat} (w : World) (h : w.heap[b]? = some (.cells (feedCells (Cf.init ⟨0, 0, 0, 0⟩) (.slice none 0 0) (.slice none 0 0) (.slice none 0 0)) 48 (0, 0))) : FeedAt w b (Cf.init ⟨0, 0, 0, 0⟩) (fun k => k = b) := by
  refine ⟨.slice none 0 0, .slice none 0 0, .slice none 0 0, ⟨h, owns_nil _ _ _ _, owns_nil _ _ _ _, owns_nil _ _ _ _, ?_, ?_, ?_, ?_, ?_, ?_⟩, ?_⟩
  · intro k hk; simp [Value.ownBlock] at hk
  · intro k hk; simp [Value.ownBlock] at hk
  · intro k hk; simp [Value.ownBlock] at hk
  · intro k hk; simp [Value.ownBlock] at hk
  · intro k hk; simp [Value.ownBlock] at hk
  · intro k hk; simp [Value.ownBlock] at hk
  · funext k; simp [foot, Value.ownBlock]

/-- What a feed made of nothing reads as, as long as nothing of it has changed. -/
def Zero (w0 w : World) (b : Nat) : Prop := Same w0 w ∧ w.heap[b]? = some (.cells (feedCells (Cf.init ⟨0, 0, 0, 0⟩) (.slice none 0 0) (.slice none 0 0) (.slice none 0 0)) 48 (0, 0))
theorem Zero.same {w0 w w' : World} {b : Nat} (h : Zero w0 w b) (hs : Same w w') : Zero w0 w' b := ⟨h.1.trans hs, (hs.block b (ltOf h.2) (fun x => x)).trans h.2⟩
theorem Zero.cell {w0 w : World} {b : Nat} (h : Zero w0 w b) : w.cell? ⟨b, 2, none⟩ = some (.int .i64 0) := cellOf h.2 2 rfl
theorem Zero.at {w0 w : World} {b : Nat} (h : Zero w0 w b) : FeedAt w b (Cf.init ⟨0, 0, 0, 0⟩) (fun k => k = b) := zero_at w h.2
theorem state_zero {w0 : World} (b : Nat) (w : World) (h : Zero w0 w b) : Calls Tryd.prog 21 #[.pointer (some ⟨b, 0, none⟩)] w fun e w' => e = .returned (.tuple #[.int .i64 0, .int .i64 0]) ∧ Same w w' := state_any b _ _ w h.at
/-- A block that holds limits. -/
def limObj (l : Lim) : Obj := .cells #[.int .i64 l.d, .int .i64 l.i, .int .i64 l.b, .int .i64 l.r] 24 (0, 0)
def LimIn (w0 w : World) (b : Nat) (l : Lim) : Prop := Same w0 w ∧ w.heap[b]? = some (limObj l)
theorem LimIn.same {w0 w w' : World} {b : Nat} {l : Lim} (h : LimIn w0 w b l) (hs : Same w w') : LimIn w0 w' b l := ⟨h.1.trans hs, (hs.block b (ltOf h.2) (fun x => x)).trans h.2⟩
theorem LimIn.boxed (w : World) (l : Lim) : LimIn w (w.alloc (.cells #[.int .i64 l.d, .int .i64 l.i, .int .i64 l.b, .int .i64 l.r] 24 (0, 0))) w.heap.size l := ⟨(Fr.refl _ w).alloc _, heap_alloc_new w _⟩
theorem LimIn.cells {w0 w : World} {b : Nat} {l : Lim} (h : LimIn w0 w b l) : w.cell? ⟨b, 0, none⟩ = some (.int .i64 l.d) ∧ w.cell? ⟨b, 1, none⟩ = some (.int .i64 l.i) ∧ w.cell? ⟨b, 2, none⟩ = some (.int .i64 l.b) ∧ w.cell? ⟨b, 3, none⟩ = some (.int .i64 l.r) :=
  ⟨cellOf h.2 0 rfl, cellOf h.2 1 rfl, cellOf h.2 2 rfl, cellOf h.2 3 rfl⟩
theorem Tabs.lim {w w' : World} {b : Nat} {l : Lim} (h : Tabs w) (hz : LimIn w w' b l) : Tabs w' := h.same hz.1
theorem Tabs.two {w : World} (h : Tabs w) : 2 ≤ w.heap.size := by
  have h1 := World.block_lt_of_cell? w _ (h.2 0 (by omega)).1
  simp only at h1
  omega
theorem Tabs.zero {w w' : World} {b : Nat} (h : Tabs w) (hz : Zero w w' b) : Tabs w' := h.same hz.1

set_option maxRecDepth 100000 in
set_option maxHeartbeats 2000000 in
theorem law_CborfeedNil (s : List UInt8) (w : World) (_ : s.length ≤ maxLen) (hT : Tabs w) :
    Calls Tryd.prog 6 #[S s] w fun e w' => e = .returned (.bool true) ∧ Below w.heap.size w w' := by
  have HT := Px.hid hT
  clear hT
  go_enter Tryd.func6, Tryd.ntmps6
  go_wp2_with fail
  have HZ := Px.hid (show Zero w (w.alloc _) w.heap.size from ⟨(Fr.refl _ w).alloc _, heap_alloc_new w _⟩)
  refine (end_nil _).mono ?_
  rintro e w1 ⟨rfl, hs⟩
  have HZ := Px.hid (HZ.out.same hs)
  clear hs
  go_wp2_with fail
  refine (end_zero _ _ HZ.out.cell).mono ?_
  rintro e w2 ⟨rfl, hs⟩
  have HZ := Px.hid (HZ.out.same hs)
  clear hs
  go_wp2_with fail
  refine (state_nil _).mono ?_
  rintro e w3 ⟨rfl, hs⟩
  have HZ := Px.hid (HZ.out.same hs)
  clear hs
  go_wp2_with fail
  refine (state_zero _ _ HZ.out).mono ?_
  rintro e w4 ⟨rfl, hs⟩
  have HZ := Px.hid (HZ.out.same hs)
  clear hs
  go_wp2_with fail
  refine (wakes_any _ (HT.out.zero HZ.out) (HT.out.zero HZ.out).two).mono ?_
  rintro e w5 ⟨rfl, hs⟩
  have HZ := Px.hid (HZ.out.same hs)
  clear hs
  go_wp2_with fail
  refine (write_nil s _).mono ?_
  rintro e w6 ⟨rfl, hs⟩
  have HZ := Px.hid (HZ.out.same hs)
  clear hs
  go_wp2_with fail
  refine (write_zero _ s _ HZ.out.cell).mono ?_
  rintro e w7 ⟨rfl, hs⟩
  have HZ := Px.hid (HZ.out.same hs)
  clear hs
  go_wp2
  go_ret
  exact ⟨rfl, HZ.out.1.below⟩

theorem end_told (f : Feed) (h : f.err ≠ 0) : Cf.End f = ([], f.at_, f.err) := by simp [Cf.End, h]

set_option maxRecDepth 100000 in
set_option maxHeartbeats 2000000 in
theorem law_CborfeedStops (s more : List UInt8) (l : Lim) (w : World) (hs : s.length ≤ maxLen) (hm : more.length ≤ maxLen) (hT : Tabs w) :
    Calls Tryd.prog 5 #[S s, S more, limV l] w fun e w' => e = .returned (.bool true) ∧ Below w.heap.size w w' := by
  have HT := Px.hid hT
  have HS := Px.hid (And.intro hs hm)
  clear hT hs hm
  unfold limV
  go_enter Tryd.func5, Tryd.ntmps5
  go_wp2_with fail
  have HL := Px.hid (LimIn.boxed w l)
  refine (wakes_any _ (HT.out.lim HL.out) (HT.out.lim HL.out).two).mono ?_
  rintro e w1 ⟨rfl, hs⟩
  have HL := Px.hid (HL.out.same hs)
  clear hs
  obtain ⟨c0, c1, c2, c3⟩ := HL.out.cells
  cases hm : l.may
  · have HM := Px.hid hm
    clear hm
    go_wp2_with fail
    refine (new_no l _ HM.out).mono ?_
    rintro e w2 ⟨rfl, hs⟩
    have HL := Px.hid (HL.out.same hs)
    clear hs c0 c1 c2 c3
    obtain ⟨c0, c1, c2, c3⟩ := HL.out.cells
    go_wp2_with fail
    refine (refMay_any l _).mono ?_
    rintro e w3 ⟨rfl, hs⟩
    have HL := Px.hid (HL.out.same hs)
    clear hs
    rw [HM.out]
    go_wp2
    go_ret
    exact ⟨rfl, HL.out.1.below⟩
  · have HM := Px.hid hm
    clear hm
    go_wp2_with fail
    refine (Own.new HL.out.1 HM.out).mono ?_
    rintro e w2 ⟨b, rfl, ho, hs, hb⟩
    have HO := Px.hid ho
    clear ho hs hb
    go_wp2_with fail
    refine (HO.out.write HT.out.two HT.out s HS.out.1).mono ?_
    rintro e w3 ⟨rfl, ho⟩
    have HO := Px.hid ho
    clear ho
    by_cases he : (Cf.write (Cf.init l) s).err = 0
    · have hw : Cf.write (Cf.write (Cf.init l) s) [] = Cf.write (Cf.init l) s := rfl
      rw [he]
      have HE := Px.hid (And.intro he hw)
      clear he hw
      go_wp2_with fail
      refine (HO.out.write HT.out.two HT.out [] (Nat.zero_le _)).mono ?_
      rintro e w4 ⟨rfl, ho⟩
      rw [HE.out.2] at ho ⊢
      rw [HE.out.1]
      have HO := Px.hid ho
      clear ho
      go_wp2
      go_ret
      obtain ⟨_, _, _, hs, _⟩ := HO.out
      exact ⟨rfl, hs.below⟩
    · obtain ⟨g, hg⟩ : ∃ g, g = Cf.write (Cf.init l) s := ⟨_, rfl⟩
      have he' : (g.err == 0) = false := by rw [hg]; simpa using he
      rw [← hg] at HO he ⊢
      have HE := Px.hid he
      clear he hg
      go_wp2_with fail
      refine HO.out.ends.mono ?_
      rintro e w4 ⟨v, rfl, hv, hs, hvf⟩
      rw [end_told g HE.out]
      have HO := Px.hid (HO.out.same hs)
      clear hv hs hvf
      go_wp2_with fail
      refine HO.out.state.mono ?_
      rintro e w5 ⟨rfl, hs⟩
      have HO := Px.hid (HO.out.same hs)
      clear hs
      go_wp2_with fail
      refine (HO.out.write HT.out.two HT.out more HS.out.2).mono ?_
      rintro e w6 ⟨rfl, ho⟩
      rw [Cf.write_err _ HE.out] at ho ⊢
      have HO := Px.hid ho
      clear ho
      go_wp2_with fail
      refine HO.out.ends.mono ?_
      rintro e w7 ⟨v2, rfl, hv, hs, hvf⟩
      rw [end_told g HE.out] at hv ⊢
      obtain ⟨va, vc, hvl, _⟩ := hv.len
      simp only [List.length_nil] at hvl
      subst hvl
      have HO := Px.hid (HO.out.same hs)
      clear hv hs hvf
      go_wp2_with fail
      refine HO.out.state.mono ?_
      rintro e w8 ⟨rfl, hs⟩
      have HO := Px.hid (HO.out.same hs)
      clear hs
      go_wp2
      go_ret
      obtain ⟨_, _, _, hs, _⟩ := HO.out
      exact ⟨rfl, hs.below⟩
end Go.Proofs.YtclbbfmpkhfigaaDoor
