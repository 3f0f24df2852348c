/-
  The walks over the statements' own helper wakes (layer 19), and over JsonfeedNil and JsonfeedStops (turned from layer 18 by mk_yq.py).
-/
import Derived.Test.YtahojodgmjmpnaaYpJ
namespace Go.Proofs.Ytahojodgmjmpnaa
open Go.RowKit Go.Px

theorem Fr.toSame {F : Nat → Prop} {w w' : World} (h : Fr F w w') (hF : ∀ k, F k → w.heap.size ≤ k) : Same w w' :=
  ⟨h.os, h.tape, h.output, h.size, fun b hb _ => h.block b hb (fun x => by have := hF b x; omega)⟩
/-- The greatest limits. -/
def most : Lim := ⟨32, 4096, 262144, 4096⟩
theorem most_may : most.may = true := by decide
theorem most_any (w : World) : Calls Try.prog 17 #[] w fun e w' => e = .returned (limV most) ∧ Same w w' := by
  go_enter Try.func17, Try.ntmps17
  go_wp2
  exact bodyPost_ret (v := limV most) (by simp [results, Try.results17, go_sem, limV, most]) rfl ⟨rfl, (Fr.refl _ w).alloc _⟩
def limObj (l : Lim) : Obj := .cells #[.int .i64 l.d, .int .i64 l.i, .int .i64 l.b, .int .i64 l.r] 24 (0, 0)
def LimIn (w0 w : World) (b : Nat) (l : Lim) : Prop := Same w0 w ∧ w.heap[b]? = some (limObj l)
theorem LimIn.same {w0 w w' : World} {b : Nat} {l : Lim} (h : LimIn w0 w b l) (hs : Same w w') : LimIn w0 w' b l := ⟨h.1.trans hs, (hs.block b (ltOf h.2) (fun x => x)).trans h.2⟩
theorem LimIn.boxed (w : World) (l : Lim) : LimIn w (w.alloc (.cells #[.int .i64 l.d, .int .i64 l.i, .int .i64 l.b, .int .i64 l.r] 24 (0, 0))) w.heap.size l := ⟨(Fr.refl _ w).alloc _, heap_alloc_new w _⟩
theorem LimIn.cells {w0 w : World} {b : Nat} {l : Lim} (h : LimIn w0 w b l) : w.cell? ⟨b, 0, none⟩ = some (.int .i64 l.d) ∧ w.cell? ⟨b, 1, none⟩ = some (.int .i64 l.i) ∧ w.cell? ⟨b, 2, none⟩ = some (.int .i64 l.b) ∧ w.cell? ⟨b, 3, none⟩ = some (.int .i64 l.r) :=
  ⟨cellOf h.2 0 rfl, cellOf h.2 1 rfl, cellOf h.2 2 rfl, cellOf h.2 3 rfl⟩
/-- A feed of the call's own: it lies in blocks that are newer than w. -/
def Own (w w' : World) (b : Nat) (f : J6.Feed) : Prop := ∃ F, FeedAt w' b f F ∧ J6.Fits f ∧ Same w w' ∧ (∀ k, F k → w.heap.size ≤ k)
theorem Own.write {w w1 : World} {b : Nat} {f : J6.Feed} (h : Own w w1 b f) (s : List UInt8) (hs : s.length ≤ maxLen) :
    Calls Try.prog 11 #[.pointer (some ⟨b, 0, none⟩), S s] w1 fun r w' => r = .returned (.int .i64 (J6.write f s).err) ∧ Own w w' b (J6.write f s) := by
  obtain ⟨F, h1, h2, h3, h4⟩ := h
  refine (write_any b f s F w1 h1 h2 hs).mono ?_
  rintro e w' ⟨rfl, F', g1, g2, g3⟩
  have hf : ∀ k, F' k → w.heap.size ≤ k := fun k hk => by rcases g3 k hk with x | x; exact h4 k x; exact Nat.le_trans h3.size x
  exact ⟨rfl, F', g1, h2.write s f, Fr.toSame ((h3.fr F).trans g2 (fun _ _ x => x)) h4, hf⟩
theorem Own.ends {w w1 : World} {b : Nat} {f : J6.Feed} (h : Own w w1 b f) :
    Calls Try.prog 13 #[.pointer (some ⟨b, 0, none⟩)] w1 fun e w' => ∃ v, e = .returned (.tuple #[v, .int .i64 (J6.End f).2.1, .int .i64 (J6.End f).2.2]) ∧ Owns w' 64 3 cVal v (J6.End f).1 ∧ Same w1 w' ∧ (∀ k, v.ownBlock = some k → w1.heap.size ≤ k) := by
  obtain ⟨F, h1, h2, h3, h4⟩ := h
  exact end_any b f F w1 h1 h2
theorem Own.same {w w1 w2 : World} {b : Nat} {f : J6.Feed} (h : Own w w1 b f) (hs : Same w1 w2) : Own w w2 b f := by
  obtain ⟨F, h1, h2, h3, h4⟩ := h
  exact ⟨F, h1.same hs, h2, h3.trans hs, h4⟩
theorem Own.state {w w1 : World} {b : Nat} {f : J6.Feed} (h : Own w w1 b f) :
    Calls Try.prog 15 #[.pointer (some ⟨b, 0, none⟩)] w1 fun e w' => e = .returned (.tuple #[.int .i64 (f.n : Nat), .int .i64 f.stack.length]) ∧ Same w1 w' := by
  obtain ⟨F, h1, h2, h3, h4⟩ := h
  exact state_any b f F w1 h1
theorem Own.new {w w1 : World} {l : Lim} (hs : Same w w1) (hm : l.may = true) :
    Calls Try.prog 9 #[limV l] w1 fun e w' => ∃ b, e = .returned (.tuple #[.pointer (some ⟨b, 0, none⟩), .int .i64 0]) ∧ Own w w' b (J6.init l) ∧ Same w1 w' ∧ w1.heap.size ≤ b := by
  refine (new_yes l w1 hm).mono ?_
  rintro e w' ⟨b, rfl, h1, h2, h3⟩
  exact ⟨b, rfl, ⟨_, h3, J6.fits0 hm, hs.trans h1, fun k hk => by subst hk; exact Nat.le_trans hs.size h2⟩, h1, h2⟩

def wakeS : List UInt8 := [91, 116, 114, 117, 101, 93]
theorem wake_slice (k : Nat) (c : UInt8) (hc : wakeS[k]? = some c) (w : World) :
    (Instr.slice 9 (.string ⟨#[91, 116, 114, 117, 101, 93]⟩) (some (.int .i64 (k : Int))) (some (.int .i64 ((k : Int) + 1))) none).run Try.prog w = .ok (S [c]) w := by
  have hk : k < 6 := (List.getElem?_eq_some_iff.1 hc).1
  have e : (⟨#[91, 116, 114, 117, 101, 93]⟩ : ByteArray) = ⟨wakeS.toArray⟩ := rfl
  rw [e, run_slice_string w _ _ _ _ _ _ Try.underlying9 (by omega) (by omega) (by rw [size_S]; show _ ≤ ((6 : Nat) : Int); omega), ByteArray.extract_mk]
  have e1 : ((k : Int)).toNat = k := by omega
  have e2 : ((k : Int) + 1).toNat = k + 1 := by omega
  rw [e1, e2]
  have : (wakeS.drop k).take (k + 1 - k) = [c] := by
    have h4 : k = 0 ∨ k = 1 ∨ k = 2 ∨ k = 3 ∨ k = 4 ∨ k = 5 := by omega
    rcases h4 with rfl | rfl | rfl | rfl | rfl | rfl <;> (cases hc; rfl)
  rw [this]
theorem wake_err : ∀ k, k ≤ 6 → (J6.write (J6.init most) (wakeS.take k)).err = 0 := by
  intro k hk
  have h4 : k = 0 ∨ k = 1 ∨ k = 2 ∨ k = 3 ∨ k = 4 ∨ k = 5 ∨ k = 6 := by omega
  rcases h4 with rfl | rfl | rfl | rfl | rfl | rfl | rfl <;> decide +kernel
theorem wake_end : (J6.End (J6.write (J6.init most) wakeS)).2 = (0, 0) ∧ (J6.End (J6.write (J6.init most) wakeS)).1.length = 2 ∧ (J6.write (J6.init most) wakeS).n = 6 ∧ (J6.write (J6.init most) wakeS).stack.length = 0 := by
  decide +kernel
set_option maxRecDepth 100000 in
set_option maxHeartbeats 2000000 in
theorem wakes_any (w : World) : Calls Try.prog 8 #[] w fun e w' => e = .returned (.bool true) ∧ Same w w' := by
  go_enter Try.func8, Try.ntmps8
  go_wp2_with fail
  refine (most_any _).mono ?_
  rintro e w1 ⟨rfl, hs1⟩
  have H1 := Px.hid hs1
  clear hs1
  go_wp2_with fail
  refine (Own.new H1.out most_may).mono ?_
  rintro e w2 ⟨b, rfl, ho, hs, hb⟩
  have H2 := Px.hid ho
  clear ho hs
  go_wp2
  go_loopw [23] (fun i wr => ∃ k : Nat, k ≤ 6 ∧ i = .int .i64 k ∧ Own w wr b (J6.write (J6.init most) (wakeS.take k))) (fun i _ => 6 - (intOf i).toNat)
  case atStart => exact ⟨0, by omega, rfl, H2.out⟩
  case round =>
    obtain ⟨k, hk, rfl, ho⟩ := hrel
    have HO := Px.hid ho
    clear ho H1 H2
    by_cases hlt : k < 6
    · have hlt' : (k : Int) < 6 := by omega
      obtain ⟨c, hc⟩ : ∃ c, wakeS[k]? = some c := ⟨_, List.getElem?_eq_getElem (show k < wakeS.length from hlt)⟩
      have hsl := wake_slice k c hc
      have HC := Px.hid (And.intro hc hlt)
      clear hc hlt
      go_wp2_with fail
      refine (HO.out.write [c] (by unfold maxLen; simp)).mono ?_
      rintro e w' ⟨rfl, ho⟩
      have e1 : J6.write (J6.write (J6.init most) (wakeS.take k)) [c] = J6.write (J6.init most) (wakeS.take (k + 1)) := by
        rw [← J6.write_app, List.take_add_one, HC.out.1]; rfl
      rw [e1] at ho ⊢
      rw [wake_err (k + 1) (by have := HC.out.2; omega)]
      have HO2 := Px.hid ho
      clear ho e1
      go_wp2
      go_roundw
      case rel => exact ⟨k + 1, by have := HC.out.2; omega, by go_num, HO2.out⟩
      case measure => simp [intOf]; have := HC.out.2; omega
    · have hlt' : ¬ (k : Int) < 6 := by omega
      have hk4 : k = 6 := by omega
      subst hk4
      obtain ⟨we, wl, wt, wk⟩ := wake_end
      have ets : wakeS.take 6 = wakeS := rfl
      have HO3 := Px.hid HO.out
      rw [ets] at HO3
      have HW := Px.hid (And.intro we (And.intro wl (And.intro wt wk)))
      clear we wl wt wk ets hlt hlt' HO hk
      go_wp2_with fail
      refine HO3.out.ends.mono ?_
      rintro e w3 ⟨v, rfl, hv, hs3, hvf⟩
      obtain ⟨va, vc, hvl, _⟩ := hv.len
      have HO4 := Px.hid (HO3.out.same hs3)
      rw [HW.out.2.1] at hvl
      subst hvl
      rw [HW.out.1]
      clear hv hs3 hvf HO3
      go_wp2_with fail
      refine HO4.out.state.mono ?_
      rintro e w4 ⟨rfl, hs4⟩
      have HO5 := Px.hid (HO4.out.same hs4)
      clear hs4
      rw [HW.out.2.2.1, HW.out.2.2.2]
      go_wp2
      go_ret
      obtain ⟨_, _, _, hs, _⟩ := HO5.out
      exact ⟨rfl, hs⟩
def zeroF : J6.Feed := J6.init ⟨0, 0, 0, 0⟩
/-- What a feed made of nothing reads as, as long as nothing of it has changed. -/
def Zero (w0 w : World) (b : Nat) : Prop := Same w0 w ∧ w.heap[b]? = some (.cells (feedCells zeroF (.slice none 0 0) (.slice none 0 0) .nilIface) 46 (0, 0))
theorem Zero.same {w0 w w' : World} {b : Nat} (h : Zero w0 w b) (hs : Same w w') : Zero w0 w' b := ⟨h.1.trans hs, (hs.block b (ltOf h.2) (fun x => x)).trans h.2⟩
theorem Zero.cell {w0 w : World} {b : Nat} (h : Zero w0 w b) : w.cell? ⟨b, 2, none⟩ = some (.int .i64 0) := cellOf h.2 2 rfl
theorem Zero.at {w0 w : World} {b : Nat} (h : Zero w0 w b) : FeedAt w b zeroF (fun k => k = b) := by
  refine ⟨.slice none 0 0, .slice none 0 0, .nilIface, [], [], ⟨h.2, ⟨owns_nil _ _ _ _, owns_nil _ _ _ _, rfl, (fun p hp => by cases hp), ⟨rfl, rfl⟩, ?_⟩, ?_⟩, ?_⟩
  · simp [blocks, nmBlocks, Value.ownBlock, Apart]
  · simp [blocks, nmBlocks, Value.ownBlock]
  · funext k; simp [foot, blocks, nmBlocks, Value.ownBlock]
theorem state_zero {w0 : World} (b : Nat) (w : World) (h : Zero w0 w b) : Calls Try.prog 15 #[.pointer (some ⟨b, 0, none⟩)] w fun e w' => e = .returned (.tuple #[.int .i64 0, .int .i64 0]) ∧ Same w w' := state_any b _ _ w h.at
set_option maxRecDepth 100000 in
set_option maxHeartbeats 2000000 in
theorem law_JsonfeedNil (s : List UInt8) (w : World) (_ : s.length ≤ maxLen) :
    Calls Try.prog 6 #[S s] w fun e w' => e = .returned (.bool true) ∧ Below w.heap.size w w' := by
  go_enter Try.func6, Try.ntmps6
  go_wp2_with fail
  have HZ := Px.hid (show Zero w (w.alloc _) w.heap.size from ⟨(Fr.refl _ w).alloc _, heap_alloc_new w _⟩)
  refine (end_nil _).mono ?_
  rintro e w1 ⟨rfl, hs⟩
  have HZ := Px.hid (HZ.out.same hs)
  clear hs
  go_wp2_with fail
  refine (end_zero _ _ HZ.out.cell).mono ?_
  rintro e w2 ⟨rfl, hs⟩
  have HZ := Px.hid (HZ.out.same hs)
  clear hs
  go_wp2_with fail
  refine (state_nil _).mono ?_
  rintro e w3 ⟨rfl, hs⟩
  have HZ := Px.hid (HZ.out.same hs)
  clear hs
  go_wp2_with fail
  refine (state_zero _ _ HZ.out).mono ?_
  rintro e w4 ⟨rfl, hs⟩
  have HZ := Px.hid (HZ.out.same hs)
  clear hs
  go_wp2_with fail
  refine (wakes_any _).mono ?_
  rintro e w5 ⟨rfl, hs⟩
  have HZ := Px.hid (HZ.out.same hs)
  clear hs
  go_wp2_with fail
  refine (write_nil s _).mono ?_
  rintro e w6 ⟨rfl, hs⟩
  have HZ := Px.hid (HZ.out.same hs)
  clear hs
  go_wp2_with fail
  refine (write_zero _ s _ HZ.out.cell).mono ?_
  rintro e w7 ⟨rfl, hs⟩
  have HZ := Px.hid (HZ.out.same hs)
  clear hs
  go_wp2
  go_ret
  exact ⟨rfl, HZ.out.1.below⟩

theorem end_told (f : J6.Feed) (h : f.err ≠ 0) : J6.End f = ([], f.at_, f.err) := by simp [J6.End, h]

set_option maxRecDepth 100000 in
set_option maxHeartbeats 2000000 in
theorem law_JsonfeedStops (s more : List UInt8) (l : Lim) (w : World) (hs : s.length ≤ maxLen) (hm : more.length ≤ maxLen) :
    Calls Try.prog 5 #[S s, S more, limV l] w fun e w' => e = .returned (.bool true) ∧ Below w.heap.size w w' := by
  have HS := Px.hid (And.intro hs hm)
  clear hs hm
  unfold limV
  go_enter Try.func5, Try.ntmps5
  go_wp2_with fail
  have HL := Px.hid (LimIn.boxed w l)
  refine (wakes_any _).mono ?_
  rintro e w1 ⟨rfl, hs⟩
  have HL := Px.hid (HL.out.same hs)
  clear hs
  obtain ⟨c0, c1, c2, c3⟩ := HL.out.cells
  cases hm : l.may
  · have HM := Px.hid hm
    clear hm
    go_wp2_with fail
    refine (new_no l _ HM.out).mono ?_
    rintro e w2 ⟨rfl, hs⟩
    have HL := Px.hid (HL.out.same hs)
    clear hs c0 c1 c2 c3
    obtain ⟨c0, c1, c2, c3⟩ := HL.out.cells
    go_wp2_with fail
    refine (refMay_any l _).mono ?_
    rintro e w3 ⟨rfl, hs⟩
    have HL := Px.hid (HL.out.same hs)
    clear hs
    rw [HM.out]
    go_wp2
    go_ret
    exact ⟨rfl, HL.out.1.below⟩
  · have HM := Px.hid hm
    clear hm
    go_wp2_with fail
    refine (Own.new HL.out.1 HM.out).mono ?_
    rintro e w2 ⟨b, rfl, ho, hs, hb⟩
    have HO := Px.hid ho
    clear ho hs hb
    go_wp2_with fail
    refine (HO.out.write s HS.out.1).mono ?_
    rintro e w3 ⟨rfl, ho⟩
    have HO := Px.hid ho
    clear ho
    by_cases he : (J6.write (J6.init l) s).err = 0
    · have hw : J6.write (J6.write (J6.init l) s) [] = J6.write (J6.init l) s := rfl
      rw [he]
      have HE := Px.hid (And.intro he hw)
      clear he hw
      go_wp2_with fail
      refine (HO.out.write [] (Nat.zero_le _)).mono ?_
      rintro e w4 ⟨rfl, ho⟩
      rw [HE.out.2] at ho ⊢
      rw [HE.out.1]
      have HO := Px.hid ho
      clear ho
      go_wp2
      go_ret
      obtain ⟨_, _, _, hs, _⟩ := HO.out
      exact ⟨rfl, hs.below⟩
    · obtain ⟨g, hg⟩ : ∃ g, g = J6.write (J6.init l) s := ⟨_, rfl⟩
      have he' : (g.err == 0) = false := by rw [hg]; simpa using he
      rw [← hg] at HO he ⊢
      have HE := Px.hid he
      clear he hg
      go_wp2_with fail
      refine HO.out.ends.mono ?_
      rintro e w4 ⟨v, rfl, hv, hs, hvf⟩
      rw [end_told g HE.out]
      have HO := Px.hid (HO.out.same hs)
      clear hv hs hvf
      go_wp2_with fail
      refine HO.out.state.mono ?_
      rintro e w5 ⟨rfl, hs⟩
      have HO := Px.hid (HO.out.same hs)
      clear hs
      go_wp2_with fail
      refine (HO.out.write more HS.out.2).mono ?_
      rintro e w6 ⟨rfl, ho⟩
      rw [write_err _ HE.out] at ho ⊢
      have HO := Px.hid ho
      clear ho
      go_wp2_with fail
      refine HO.out.ends.mono ?_
      rintro e w7 ⟨v2, rfl, hv, hs, hvf⟩
      rw [end_told g HE.out] at hv ⊢
      obtain ⟨va, vc, hvl, _⟩ := hv.len
      simp only [List.length_nil] at hvl
      subst hvl
      have HO := Px.hid (HO.out.same hs)
      clear hv hs hvf
      go_wp2_with fail
      refine HO.out.state.mono ?_
      rintro e w8 ⟨rfl, hs⟩
      have HO := Px.hid (HO.out.same hs)
      clear hs
      go_wp2
      go_ret
      obtain ⟨_, _, _, hs, _⟩ := HO.out
      exact ⟨rfl, hs.below⟩
end Go.Proofs.Ytahojodgmjmpnaa
