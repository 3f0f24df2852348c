/-
  Several texts in one: The walks over the statements of layer 17: wakes, CborReads, CborOneWay; and over CborfeedSame of layer 20.
-/
import Derived.Test.YtclbbfmpkhfigaaDoorMH
import Derived.Test.YtclbbfmpkhfigaaDoorMD
/-! The walks over the statements of layer 17: wakes, CborReads, CborOneWay; and over CborfeedSame of layer 20. -/
namespace Go.Proofs.YtclbbfmpkhfigaaDoor
open Go.RowKit Go.Px Go.Px.R7

theorem encB_mem {l : List Atom} {a : Atom} (h : a ∈ l) : a.text.length ≤ (E7.encB l).length := by
  induction l with
  | nil => cases h
  | cons b t ih =>
    rw [E7.encB_cons, List.length_append]
    rcases List.mem_cons.1 h with rfl | h
    · have := atomB_text a; omega
    · have := ih h; omega
theorem decode_wf {s : Bytes} {lim : Lim} (h : (R7.decode s lim).2.2 = 0) (hs : s.length ≤ 140737488355327) : ∀ a ∈ (R7.decode s lim).1, a.num < 18446744073709551616 ∧ a.text.length ≤ 9223372036854775807 := by
  obtain ⟨_, _, _, h2, h3, _⟩ := E7.decode_sound h
  intro a ha
  refine ⟨(h2 a ha).1, ?_⟩
  have := encB_mem ha
  rw [← h3] at this
  omega
def wakeA : Bytes := [131, 1, 32, 65, 97]
def wakeB : Bytes := [162, 97, 98, 1, 97, 97, 1]
theorem wakeA_dec : (R7.decode wakeA most).2 = (0, 0) ∧ (R7.decode wakeA most).1.length = 4 := by decide +kernel
theorem wakeB_dec : (R7.decode wakeB most).2 = (4, 9) := by decide +kernel
/-- A decoding's list, as it lies. -/
theorem Gives.len {w w' : World} {d : List Atom × Int × Int} {r : Ending} (h : Gives w d r w') : ∃ a c, r = .returned (.tuple #[.slice a d.1.length c, .int .i64 d.2.1, .int .i64 d.2.2]) ∧ Owns w' 72 3 cAtom (.slice a d.1.length c) d.1 ∧ Same w w' := by
  obtain ⟨vo, rfl, h1, h2, _⟩ := h
  obtain ⟨a, c, hv, _⟩ := h1.len
  subst hv
  exact ⟨a, c, rfl, h1, h2⟩
theorem wakes17_any (w : World) (hT : Tabs w) : Calls Tryd.prog 22 #[] w fun e w' => e = .returned (.bool true) ∧ Same w w' := by
  have HT := Px.hid hT
  clear hT
  go_enter Tryd.func22, Tryd.ntmps22
  go_wp2_with fail
  refine (most_any _).mono ?_
  rintro e w1 ⟨rfl, hs⟩
  have HS := Px.hid hs
  clear hs
  go_wp2_with fail
  refine (decode_any wakeA most (by decide) _ (HT.out.same HS.out)).mono ?_
  intro e w2 hg
  obtain ⟨a, c, rfl, ho, hs⟩ := hg.len
  rw [wakeA_dec.2] at ho
  rw [wakeA_dec.1, wakeA_dec.2]
  have HO := Px.hid ho
  have HS := Px.hid (HS.out.trans hs)
  clear ho hs hg
  go_wp2_with fail
  refine (most_any _).mono ?_
  rintro e w3 ⟨rfl, hs⟩
  have HO := Px.hid (Owns.same HO.out hs)
  have HS := Px.hid (HS.out.trans hs)
  clear hs
  go_wp2_with fail
  refine (decode_any wakeB most (by decide) _ (HT.out.same HS.out)).mono ?_
  intro e w4 hg
  obtain ⟨a2, c2, rfl, _, hs⟩ := hg.len
  rw [wakeB_dec]
  have HO := Px.hid (Owns.same HO.out hs)
  have HS := Px.hid (HS.out.trans hs)
  clear hs hg
  go_wp2_with fail
  refine (encode_any _ _ _ (HO.out.lies cAtom_len) (decode_wf (by rw [wakeA_dec.1]) (by decide)) (HT.out.same HS.out)).mono ?_
  rintro e w5 ⟨rfl, hs⟩
  rw [E7.encode_decode (show (R7.decode wakeA most).2.2 = 0 by rw [wakeA_dec.1])]
  have HS := Px.hid (HS.out.trans hs)
  clear hs
  unfold wakeA
  go_wp2
  go_ret
  exact ⟨rfl, HS.out⟩

/-- What was there stands, and the tables. -/
structure On (w w' : World) (b : Nat) (lim : Lim) : Prop where
  lim : LimIn w w' b lim
  tabs : Tabs w'
theorem On.sm {w w1 w2 : World} {b : Nat} {lim : Lim} (h : On w w1 b lim) (hs : Same w1 w2) : On w w2 b lim := ⟨h.lim.same hs, h.tabs.same hs⟩
theorem On.boxed {w : World} (lim : Lim) (h : Tabs w) : On w (w.alloc (.cells #[.int .i64 lim.d, .int .i64 lim.i, .int .i64 lim.b, .int .i64 lim.r] 24 (0, 0))) w.heap.size lim := ⟨LimIn.boxed w lim, h.lim (LimIn.boxed w lim)⟩
set_option maxRecDepth 100000 in
set_option maxHeartbeats 2000000 in
theorem law_CborReads (s : Bytes) (lim : Lim) (w : World) (hs0 : s.length ≤ 140737488351232) (hT : Tabs w) :
    Calls Tryd.prog 7 #[S s, limV lim] w fun e w' => e = .returned (.bool true) ∧ Below w.heap.size w w' := by
  have hs : s.length ≤ 140737488355327 := by omega
  clear hs0
  have HS := Px.hid (And.intro hs True.intro)
  have HO := Px.hid (On.boxed lim hT)
  clear hs hT
  unfold limV
  go_enter Tryd.func7, Tryd.ntmps7
  go_wp2_with fail
  refine (wakes17_any _ HO.out.tabs).mono ?_
  rintro e w1 ⟨rfl, hs⟩
  have HO := Px.hid (HO.out.sm hs)
  clear hs
  obtain ⟨c0, c1, c2, c3⟩ := HO.out.lim.cells
  go_wp2_with fail
  refine (decode_any s lim HS.out.1 _ HO.out.tabs).mono ?_
  intro e w2 hg
  obtain ⟨a, c, rfl, ho, hs⟩ := hg.len
  have HO := Px.hid (HO.out.sm hs)
  have HA := Px.hid ho
  clear hs hg ho c0 c1 c2 c3
  obtain ⟨c0, c1, c2, c3⟩ := HO.out.lim.cells
  obtain ⟨d, hd⟩ : ∃ d, d = R7.decode s lim := ⟨_, rfl⟩
  have HR := Px.hid (refdecode_any s lim HS.out.1)
  rw [← hd] at HA HR ⊢
  clear hd
  go_wp2_with fail
  refine (HR.out _).mono ?_
  intro e w3 hg
  obtain ⟨a2, c2, rfl, ho, hs⟩ := hg.len
  have HO := Px.hid (HO.out.sm hs)
  have HA := Px.hid (And.intro (Owns.same HA.out hs) ho)
  clear hs hg ho c0 c1 c3
  go_wp2_with fail
  refine (same_any _ _ _ _ HA.out.1 HA.out.2).mono ?_
  rintro e w4 ⟨rfl, hs⟩
  have HO := Px.hid (HO.out.sm hs)
  clear hs
  go_wp2
  go_ret
  exact ⟨rfl, HO.out.lim.1.below⟩
set_option maxRecDepth 100000 in
set_option maxHeartbeats 2000000 in
theorem law_CborOneWay (s : Bytes) (lim : Lim) (w : World) (hs0 : s.length ≤ 140737488351232) (hT : Tabs w) :
    Calls Tryd.prog 10 #[S s, limV lim] w fun e w' => e = .returned (.bool true) ∧ Below w.heap.size w w' := by
  have hs : s.length ≤ 140737488355327 := by omega
  clear hs0
  have HS := Px.hid (And.intro hs True.intro)
  have HO := Px.hid (On.boxed lim hT)
  clear hs hT
  unfold limV
  go_enter Tryd.func10, Tryd.ntmps10
  go_wp2_with fail
  refine (wakes17_any _ HO.out.tabs).mono ?_
  rintro e w1 ⟨rfl, hs⟩
  have HO := Px.hid (HO.out.sm hs)
  clear hs
  obtain ⟨c0, c1, c2, c3⟩ := HO.out.lim.cells
  go_wp2_with fail
  refine (decode_any s lim HS.out.1 _ HO.out.tabs).mono ?_
  intro e w2 hg
  obtain ⟨a, c, rfl, ho, hs⟩ := hg.len
  have HO := Px.hid (HO.out.sm hs)
  have HA := Px.hid ho
  clear hs hg ho c0 c1 c2 c3
  by_cases he : (R7.decode s lim).2.2 = 0
  · have HW := Px.hid (decode_wf he HS.out.1)
    have HE := Px.hid (E7.encode_decode he)
    rw [he]
    clear he
    obtain ⟨d, hd⟩ : ∃ d, d = R7.decode s lim := ⟨_, rfl⟩
    rw [← hd] at HA HW HE ⊢
    clear hd
    go_wp2_with fail
    refine (encode_any _ _ _ (HA.out.lies cAtom_len) HW.out HO.out.tabs).mono ?_
    rintro e w3 ⟨rfl, hs⟩
    rw [HE.out]
    have HO := Px.hid (HO.out.sm hs)
    clear hs
    go_wp2
    go_ret
    exact ⟨rfl, HO.out.lim.1.below⟩
  · have hnl := E7.decode_nil he
    rw [hnl]
    have hb : ((R7.decode s lim).2.2 != 0) = true := by simpa using he
    clear he hnl HA
    obtain ⟨d, hd⟩ : ∃ d, d = R7.decode s lim := ⟨_, rfl⟩
    rw [← hd] at hb ⊢
    clear hd
    go_wp2
    go_ret
    exact ⟨rfl, HO.out.lim.1.below⟩
end Go.Proofs.YtclbbfmpkhfigaaDoor
