/-
  The walks over the statements' own helpers of layer 20: Most, wakes; and over CborfeedNil.
-/
import Derived.Test.YtclbbfmpkhfigaaDoorCfH
namespace Go.Proofs.YtclbbfmpkhfigaaDoor
open Go.RowKit Go.Px Go.Px.Cf

def most : Lim := ⟨32, 4096, 262144, 4096⟩
theorem most_any (w : World) : Calls Tryd.prog 28 #[] w fun e w' => e = .returned (limV most) ∧ Same w w' := by
  go_enter Tryd.func28, Tryd.ntmps28
  go_wp2
  exact bodyPost_ret (v := limV most) (by simp [results, Tryd.results28, go_sem, limV, most]) rfl ⟨rfl, (Fr.refl _ w).alloc _⟩

theorem Fr.toSame {F : Nat → Prop} {w w' : World} (h : Fr F w w') (hF : ∀ k, F k → w.heap.size ≤ k) : Same w w' :=
  ⟨h.os, h.tape, h.output, h.size, fun k hk _ => h.block k hk (fun x => by have := hF k x; omega)⟩

/-- A feed of the call's own: it lies in blocks that are newer than w. -/
def Own (w w' : World) (b : Nat) (f : Feed) : Prop := ∃ F, FeedAt w' b f F ∧ FeedOk f ∧ Same w w' ∧ (∀ k, F k → w.heap.size ≤ k)

theorem Own.write {w w1 : World} {b : Nat} {f : Feed} (h : Own w w1 b f) (hw : 2 ≤ w.heap.size) (hT : Tabs w) (s : List UInt8) (hs : s.length ≤ maxLen) :
    Calls Tryd.prog 17 #[.pointer (some ⟨b, 0, none⟩), S s] w1 fun r w' => r = .returned (.int .i64 (Cf.write f s).err) ∧ Own w w' b (Cf.write f s) := by
  obtain ⟨F, h1, h2, h3, h4⟩ := h
  refine (write_any b f s F w1 h1 h2 hs (fun k hk => Nat.le_trans hw (h4 k hk)) (hT.same h3)).mono ?_
  rintro e w' ⟨rfl, F', g1, g2, g3, g4⟩
  have hf : ∀ k, F' k → w.heap.size ≤ k := fun k hk => by rcases g3 k hk with x | x; exact h4 k x; exact Nat.le_trans h3.size x
  exact ⟨rfl, F', g1, g4, Fr.toSame ((h3.fr F).trans g2 (fun _ _ x => x)) h4, hf⟩
theorem feedOk_out {f : Feed} (h : FeedOk f) : (f.err = 0 → f.next = 3 → f.out ≠ []) ∧ (f.err = 0 → f.out.length ≤ 1000000) ∧ f.lim.b ≠ 0 := by
  have hm := may_of h.1
  refine ⟨fun he hn => ?_, fun he => ?_, by omega⟩
  · rcases (h.2 he).next with x | ⟨x, _⟩ | ⟨x, _⟩ | ⟨_, _, x⟩
    · omega
    · omega
    · omega
    · exact x
  · have := (h.2 he).out; have := (h.2 he).len; omega
theorem end_err (b : Nat) (f : Feed) (F : Nat → Prop) (w : World) (h : FeedAt w b f F) (hok : FeedOk f) :
    Calls Tryd.prog 19 #[.pointer (some ⟨b, 0, none⟩)] w fun e w' => ∃ v, e = .returned (.tuple #[v, .int .i64 (Cf.End f).2.1, .int .i64 (Cf.End f).2.2]) ∧ Owns w' 72 3 cAtom v (Cf.End f).1 ∧ Same w w' ∧ (∀ k, v.ownBlock = some k → w.heap.size ≤ k) := by
  obtain ⟨h1, h2, h3⟩ := feedOk_out hok
  by_cases he : f.err = 0
  · exact end_any b f F w h h3 (h2 he) h1
  · obtain ⟨vt, vo, vs, h, rfl⟩ := h
    have h0 : (f.lim.b == 0) = false := by simpa using h3
    have c2 : w.cell? ⟨b, 2, none⟩ = some (.int .i64 f.lim.b) := cellOf h.blk 2 rfl
    have c13 : w.cell? ⟨b, 13, none⟩ = some (.int .i64 f.err) := cellOf h.blk 13 rfl
    have c14 : w.cell? ⟨b, 14, none⟩ = some (.int .i64 f.at_) := cellOf h.blk 14 rfl
    have he2 : (f.err != 0) = true := by simp [he]
    have HE := Px.hid (show Cf.End f = ([], f.at_, f.err) by simp [Cf.End, he2])
    clear he h h1 h2 h3
    go_enter Tryd.func19, Tryd.ntmps19
    go_wp2_with fail
    go_quiet (fail)
    go_wp2
    go_ret3
    rw [HE.out]
    exact ⟨_, rfl, owns_nil _ _ _ _, (Fr.refl _ w).drewN nq, fun k hk => by simp [Value.ownBlock] at hk⟩
theorem Own.ends {w w1 : World} {b : Nat} {f : Feed} (h : Own w w1 b f) :
    Calls Tryd.prog 19 #[.pointer (some ⟨b, 0, none⟩)] w1 fun e w' => ∃ v, e = .returned (.tuple #[v, .int .i64 (Cf.End f).2.1, .int .i64 (Cf.End f).2.2]) ∧ Owns w' 72 3 cAtom v (Cf.End f).1 ∧ Same w1 w' ∧ (∀ k, v.ownBlock = some k → w1.heap.size ≤ k) := by
  obtain ⟨F, h1, h2, h3, h4⟩ := h
  exact end_err b f F w1 h1 h2
theorem Own.same {w w1 w2 : World} {b : Nat} {f : Feed} (h : Own w w1 b f) (hs : Same w1 w2) : Own w w2 b f := by
  obtain ⟨F, h1, h2, h3, h4⟩ := h
  exact ⟨F, h1.same hs, h2, h3.trans hs, h4⟩
theorem Own.state {w w1 : World} {b : Nat} {f : Feed} (h : Own w w1 b f) :
    Calls Tryd.prog 21 #[.pointer (some ⟨b, 0, none⟩)] w1 fun e w' => e = .returned (.tuple #[.int .i64 f.text.length, .int .i64 f.stack.length]) ∧ Same w1 w' := by
  obtain ⟨F, h1, h2, h3, h4⟩ := h
  exact state_any b f F w1 h1
theorem init_ok {l : Lim} (h : l.may = true) : FeedOk (Cf.init l) :=
  ⟨h, fun _ => ⟨h, rfl, by have := may_of h; show ((0 : Nat) : Int) ≤ l.b; omega, fun x hx => by simp [Cf.init] at hx, Nat.le_refl _, by have := may_of h; show ((0 : Nat) : Int) ≤ l.d; omega, .inl rfl⟩⟩
theorem Own.new {w w1 : World} {l : Lim} (hs : Same w w1) (hm : l.may = true) :
    Calls Tryd.prog 15 #[limV l] w1 fun e w' => ∃ b, e = .returned (.tuple #[.pointer (some ⟨b, 0, none⟩), .int .i64 0]) ∧ Own w w' b (Cf.init l) ∧ Same w1 w' ∧ w1.heap.size ≤ b := by
  refine (new_yes l w1 hm).mono ?_
  rintro e w' ⟨b, rfl, h1, h2, h3⟩
  exact ⟨b, rfl, ⟨_, h3, init_ok hm, hs.trans h1, fun k hk => by subst hk; exact Nat.le_trans hs.size h2⟩, h1, h2⟩

def wakeS : List UInt8 := [130, 1, 65, 97]
theorem wake_slice (k : Nat) (c : UInt8) (hc : wakeS[k]? = some c) (w : World) :
    (Instr.slice 9 (.string ⟨#[130, 1, 65, 97]⟩) (some (.int .i64 (k : Int))) (some (.int .i64 ((k : Int) + 1))) none).run Tryd.prog w = .ok (S [c]) w := by
  have hk : k < 4 := (List.getElem?_eq_some_iff.1 hc).1
  have e : (⟨#[130, 1, 65, 97]⟩ : ByteArray) = ⟨wakeS.toArray⟩ := rfl
  rw [e, run_slice_string w _ _ _ _ _ _ Tryd.underlying9 (by omega) (by omega) (by rw [size_S]; show _ ≤ ((4 : Nat) : Int); omega), ByteArray.extract_mk]
  have e1 : ((k : Int)).toNat = k := by omega
  have e2 : ((k : Int) + 1).toNat = k + 1 := by omega
  rw [e1, e2]
  have : (wakeS.drop k).take (k + 1 - k) = [c] := by
    have h4 : k = 0 ∨ k = 1 ∨ k = 2 ∨ k = 3 := by omega
    rcases h4 with rfl | rfl | rfl | rfl <;> (cases hc; rfl)
  rw [this]
theorem wake_err : ∀ k, k ≤ 4 → (Cf.write (Cf.init most) (wakeS.take k)).err = 0 := by
  intro k hk
  have h4 : k = 0 ∨ k = 1 ∨ k = 2 ∨ k = 3 ∨ k = 4 := by omega
  rcases h4 with rfl | rfl | rfl | rfl | rfl <;> decide +kernel
theorem wake_end : (Cf.End (Cf.write (Cf.init most) wakeS)).2 = (0, 0) ∧ (Cf.End (Cf.write (Cf.init most) wakeS)).1.length = 3 ∧ (Cf.write (Cf.init most) wakeS).text.length = 4 ∧ (Cf.write (Cf.init most) wakeS).stack.length = 0 := by
  decide +kernel
theorem most_may : most.may = true := by decide

set_option maxRecDepth 100000 in
set_option maxHeartbeats 2000000 in
theorem wakes_any (w : World) (hT : Tabs w) (hw : 2 ≤ w.heap.size) : Calls Tryd.prog 14 #[] w fun e w' => e = .returned (.bool true) ∧ Same w w' := by
  have HT := Px.hid hT
  clear hT
  go_enter Tryd.func14, Tryd.ntmps14
  go_wp2_with fail
  refine (most_any _).mono ?_
  rintro e w1 ⟨rfl, hs1⟩
  have H1 := Px.hid hs1
  clear hs1
  go_wp2_with fail
  refine (Own.new H1.out most_may).mono ?_
  rintro e w2 ⟨b, rfl, ho, hs, hb⟩
  have H2 := Px.hid ho
  clear ho hs
  go_wp2
  go_loopw [23] (fun i wr => ∃ k : Nat, k ≤ 4 ∧ i = .int .i64 k ∧ Own w wr b (Cf.write (Cf.init most) (wakeS.take k))) (fun i _ => 4 - (intOf i).toNat)
  case atStart => exact ⟨0, by omega, rfl, H2.out⟩
  case round =>
    obtain ⟨k, hk, rfl, ho⟩ := hrel
    have HO := Px.hid ho
    clear ho H1 H2
    by_cases hlt : k < 4
    · have hlt' : (k : Int) < 4 := by omega
      obtain ⟨c, hc⟩ : ∃ c, wakeS[k]? = some c := ⟨_, List.getElem?_eq_getElem (show k < wakeS.length from hlt)⟩
      have hsl := wake_slice k c hc
      have HC := Px.hid (And.intro hc hlt)
      clear hc hlt
      go_wp2_with fail
      refine (HO.out.write hw HT.out [c] (by unfold maxLen; simp)).mono ?_
      rintro e w' ⟨rfl, ho⟩
      have e1 : Cf.write (Cf.write (Cf.init most) (wakeS.take k)) [c] = Cf.write (Cf.init most) (wakeS.take (k + 1)) := by
        rw [← Cf.write_append, List.take_add_one, HC.out.1]; rfl
      rw [e1] at ho ⊢
      rw [wake_err (k + 1) (by have := HC.out.2; omega)]
      have HO2 := Px.hid ho
      clear ho e1
      go_wp2
      go_roundw
      case rel => exact ⟨k + 1, by have := HC.out.2; omega, by go_num, HO2.out⟩
      case measure => simp [intOf]; have := HC.out.2; omega
    · have hlt' : ¬ (k : Int) < 4 := by omega
      have hk4 : k = 4 := by omega
      subst hk4
      obtain ⟨we, wl, wt, wk⟩ := wake_end
      have ets : wakeS.take 4 = wakeS := rfl
      have HO3 := Px.hid HO.out
      rw [ets] at HO3
      have HW := Px.hid (And.intro we (And.intro wl (And.intro wt wk)))
      clear we wl wt wk ets hlt hlt' HO hk
      go_wp2_with fail
      refine HO3.out.ends.mono ?_
      rintro e w3 ⟨v, rfl, hv, hs3, hvf⟩
      obtain ⟨va, vc, hvl, _⟩ := hv.len
      have HO4 := Px.hid (HO3.out.same hs3)
      rw [HW.out.2.1] at hvl
      subst hvl
      rw [HW.out.1]
      clear hv hs3 hvf HO3
      go_wp2_with fail
      refine HO4.out.state.mono ?_
      rintro e w4 ⟨rfl, hs4⟩
      have HO5 := Px.hid (HO4.out.same hs4)
      clear hs4
      rw [HW.out.2.2.1, HW.out.2.2.2]
      go_wp2
      go_ret
      obtain ⟨_, _, _, hs, _⟩ := HO5.out
      exact ⟨rfl, hs⟩
end Go.Proofs.YtclbbfmpkhfigaaDoor
