/-
  The walks over jsonfeed's Write, New, State; and of a nil and a zero feed.
-/
import Derived.Test.YtahojodgmjmpnaaYnJ
namespace Go.Proofs.Ytahojodgmjmpnaa
open Go.RowKit Go.Px

theorem FeedAt.cells {w : World} {b : Nat} {f : J6.Feed} {F : Nat → Prop} (h : FeedAt w b f F) : w.cell? ⟨b, 2, none⟩ = some (.int .i64 f.lim.b) ∧ w.cell? ⟨b, 4, none⟩ = some (.int .i64 (f.n : Nat)) ∧ w.cell? ⟨b, 9, none⟩ = some (.int .i64 f.err) ∧ w.cell? ⟨b, 10, none⟩ = some (.int .i64 f.at_) ∧ w.cell? ⟨b, 7, none⟩ = some (.int .i64 (f.next : Nat)) := by
  obtain ⟨vo, vs, tv, tb, ps, h, rfl⟩ := h
  exact ⟨cellOf h.blk 2 rfl, cellOf h.blk 4 rfl, cellOf h.blk 9 rfl, cellOf h.blk 10 rfl, cellOf h.blk 7 rfl⟩
theorem After.at {w w1 : World} {b : Nat} {f : J6.Feed} {F : Nat → Prop} (h : After w w1 b f F) : ∃ F1, FeedAt w1 b f F1 := by
  obtain ⟨F1, h1, _⟩ := h
  exact ⟨F1, h1⟩
theorem After.draws {w w1 : World} {b : Nat} {f : J6.Feed} {F : Nat → Prop} (h : After w w1 b f F) (n : Nat) : After w (w1.drewN n) b f F := by
  obtain ⟨F1, a1, a2, a3⟩ := h
  refine ⟨F1, ?_, a2.drewN n, a3⟩
  obtain ⟨v1, v2, v3, v4, v5, v6, v7⟩ := a1
  exact ⟨v1, v2, v3, v4, v5, v6.drewN n, v7⟩
theorem write_drop (f : J6.Feed) (s : List UInt8) (k : Nat) (hk : k < s.length) (h : f.err = 0) : J6.write f (s.drop k) = J6.write (J6.byte f s[k]) (s.drop (k + 1)) := by
  rw [List.drop_eq_getElem_cons hk, J6.write_cons, if_pos (by rw [h]; rfl)]
theorem write_err (f : J6.Feed) {s : List UInt8} (h : f.err ≠ 0) : J6.write f s = f := J6.write_stop (by simpa using h) s
set_option maxRecDepth 100000 in
set_option maxHeartbeats 4000000 in
theorem write_any (b : Nat) (f : J6.Feed) (s : List UInt8) (F : Nat → Prop) (w : World) (h : FeedAt w b f F) (hok : J6.Fits f) (hs : s.length ≤ maxLen) :
    Calls Try.prog 11 #[.pointer (some ⟨b, 0, none⟩), S s] w fun r w' => r = .returned (.int .i64 (J6.write f s).err) ∧ After w w' b (J6.write f s) F := by
  unfold maxLen at hs
  have hm := J6.may_parts6 hok.may
  have c2 : w.cell? ⟨b, 2, none⟩ = some (.int .i64 f.lim.b) := h.cells.1
  have h0 : (f.lim.b == 0) = false := by simp; omega
  have hsz : (ByteArray.mk s.toArray).size = s.length := size_S s
  have H := Px.hid (And.intro h hok)
  clear h hok hm
  go_enter Try.func11, Try.ntmps11
  go_wp2
  go_loopw [5] (fun i wr => ∃ k q, k ≤ s.length ∧ i = .int .i64 (k : Nat) ∧ After w wr b q F ∧ J6.Fits q ∧ J6.write f s = J6.write q (s.drop k)) (fun i _ => s.length - (intOf i).toNat)
  case atStart => exact ⟨0, f, Nat.zero_le _, rfl, After.refl H.out.1, H.out.2, by simp⟩
  case round =>
    obtain ⟨k, q, hk, rfl, hq, hok, hwr⟩ := hrel
    have HOK := Px.hid hok
    have HWR := Px.hid hwr
    have HQ := Px.hid hq
    clear hok hwr H c2 h0 hq
    obtain ⟨F1, hF1⟩ := HQ.out.at
    have c9 : wr.cell? ⟨b, 9, none⟩ = some (.int .i64 q.err) := hF1.cells.2.2.1
    have c4 : wr.cell? ⟨b, 4, none⟩ = some (.int .i64 (q.n : Nat)) := hF1.cells.2.1
    have c2 : wr.cell? ⟨b, 2, none⟩ = some (.int .i64 q.lim.b) := hF1.cells.1
    clear hF1
    by_cases hlt : k < s.length
    · have hltz : (k : Int) < (s.length : Int) := by omega
      by_cases he : q.err = 0
      · have he' : (q.err == 0) = true := by simpa using he
        have HWR := Px.hid (HWR.out.trans (write_drop q s k hlt he))
        have HOKB := Px.hid (HOK.out.byte he s[k])
        obtain ⟨c, hc⟩ : ∃ c, s[k] = c := ⟨_, rfl⟩
        rw [hc] at HWR HOKB
        have hidx : ∀ w', (Instr.index 9 (S s) (.int .i64 (k : Int))).run Try.prog w' = .ok (.int .u8 c.toNat) w' := fun w' => by
          have e := idx_S s k hlt w'
          have hg : s.getD k 0 = c := by rw [← hc]; simp [hlt]
          rw [hg] at e
          exact e
        have HE := Px.hid (And.intro (HOK.out.ok he) hlt)
        clear he hc
        rcases Bool.eq_false_or_eq_true ((q.n : Int) == q.lim.b) with hd | hd
        · have HB := Px.hid (show J6.byte q c = J6.wrong q q.lim.b 10 by unfold J6.byte; rw [if_pos hd])
          go_wp2_with fail
          go_quiet (fail)
          have HX := Px.hid (HQ.out.draws nq)
          obtain ⟨WX, hWX⟩ : ∃ WX, WX = wr.drewN nq := ⟨_, rfl⟩
          rw [← hWX] at HX ⊢
          clear hWX c2 c4 c9
          have c2 : WX.cell? ⟨b, 2, none⟩ = some (.int .i64 q.lim.b) := by obtain ⟨F1, hF1⟩ := HX.out.at; exact hF1.cells.1
          go_wp2_with fail
          refine (After.bind HX.out (fun F1 h1 => (wrong_any b q.lim.b 10 q F1 _ h1).mono (fun r w' h => ⟨h.1, F1, h.2.1, h.2.2, Fresh.refl _ _⟩))).mono ?_
          rintro e w' ⟨rfl, hA⟩
          have c9 : w'.cell? ⟨b, 9, none⟩ = some (.int .i64 10) := by obtain ⟨F1, hF1⟩ := hA.at; exact hF1.cells.2.2.1
          have HA := Px.hid hA
          clear hA
          go_wp2
          go_ret
          rw [HB.out] at HWR HOKB
          rw [HWR.out, write_err _ (by simp [J6.wrong])]
          exact ⟨rfl, HA.out⟩
        · have hd' : ¬ (q.n : Int) = q.lim.b := by simpa using hd
          have HB := Px.hid (show J6.byte q c = J6.takeC q c by unfold J6.byte; rw [if_neg (by rw [hd]; simp)])
          have HD := Px.hid hd'
          clear hd'
          go_wp2_with fail
          go_quiet (fail)
          go_wp2_with fail
          refine (After.bind (HQ.out.draws nq) (fun F1 h1 => take_any b c q F1 _ h1 HE.out.1 HD.out)).mono ?_
          rintro e w' ⟨rfl, hA⟩
          have HA := Px.hid hA
          clear hA
          go_wp2
          go_roundw
          case rel =>
            refine ⟨k + 1, J6.takeC q c, HE.out.2, by go_num, HA.out, ?_, ?_⟩
            · have := HOKB.out; rw [HB.out] at this; exact this
            · rw [HWR.out, HB.out]
          case measure => have := HE.out.2; simp [intOf]; omega
      · have he' : (q.err == 0) = false := by simpa using he
        have HWE := Px.hid (HWR.out.trans (write_err _ he))
        clear he
        go_wp2
        go_ret
        rw [HWE.out]
        exact ⟨rfl, HQ.out⟩
    · have hlt' : ¬ (k : Int) < (s.length : Int) := by omega
      have HWE := Px.hid (HWR.out.trans (by rw [List.drop_eq_nil_of_le (by omega)]; rfl : J6.write q (s.drop k) = q))
      go_wp2
      go_ret
      rw [HWE.out]
      exact ⟨rfl, HQ.out⟩
theorem state_any (b : Nat) (f : J6.Feed) (F : Nat → Prop) (w : World) (h : FeedAt w b f F) :
    Calls Try.prog 15 #[.pointer (some ⟨b, 0, none⟩)] w fun e w' => e = .returned (.tuple #[.int .i64 (f.n : Nat), .int .i64 f.stack.length]) ∧ Same w w' := by
  obtain ⟨vo, vs, tv, tb, ps, h, rfl⟩ := h
  obtain ⟨sa, sc, hsv, _⟩ := h.stackLen
  have c4 : w.cell? ⟨b, 4, none⟩ = some (.int .i64 (f.n : Nat)) := cellOf h.blk 4 rfl
  have c6 : w.cell? ⟨b, 6, none⟩ = some (.slice sa f.stack.length sc) := by rw [← hsv]; exact cellOf h.blk 6 rfl
  clear hsv h
  go_enter Try.func15, Try.ntmps15
  go_wp2_with fail
  go_quiet (fail)
  go_wp2
  go_ret2
  exact ⟨rfl, (Fr.refl _ w).drewN nq⟩
theorem state_nil (w : World) : Calls Try.prog 15 #[.pointer none] w fun e w' => e = .returned (.tuple #[.int .i64 0, .int .i64 0]) ∧ Same w w' := by
  go_enter Try.func15, Try.ntmps15
  go_wp2
  go_ret2
  exact ⟨rfl, Same.refl w⟩
theorem end_nil (w : World) : Calls Try.prog 13 #[.pointer none] w fun e w' => e = .returned (.tuple #[.slice none 0 0, .int .i64 0, .int .i64 1]) ∧ Same w w' := by
  go_enter Try.func13, Try.ntmps13
  go_wp2
  go_ret3
  exact ⟨rfl, Same.refl w⟩
theorem write_nil (s : List UInt8) (w : World) : Calls Try.prog 11 #[.pointer none, S s] w fun e w' => e = .returned (.int .i64 1) ∧ Same w w' := by
  go_enter Try.func11, Try.ntmps11
  go_wp2
  go_ret
  exact ⟨rfl, Same.refl w⟩
theorem end_zero (b : Nat) (w : World) (c2 : w.cell? ⟨b, 2, none⟩ = some (.int .i64 0)) : Calls Try.prog 13 #[.pointer (some ⟨b, 0, none⟩)] w fun e w' => e = .returned (.tuple #[.slice none 0 0, .int .i64 0, .int .i64 1]) ∧ Same w w' := by
  go_enter Try.func13, Try.ntmps13
  go_wp2
  go_ret3
  exact ⟨rfl, Same.refl w⟩
theorem write_zero (b : Nat) (s : List UInt8) (w : World) (c2 : w.cell? ⟨b, 2, none⟩ = some (.int .i64 0)) : Calls Try.prog 11 #[.pointer (some ⟨b, 0, none⟩), S s] w fun e w' => e = .returned (.int .i64 1) ∧ Same w w' := by
  go_enter Try.func11, Try.ntmps11
  go_wp2
  go_ret
  exact ⟨rfl, Same.refl w⟩
theorem new_no (l : Lim) (w : World) (hm : l.may = false) : Calls Try.prog 9 #[limV l] w fun e w' => e = .returned (.tuple #[.pointer none, .int .i64 2]) ∧ Same w w' := by
  have H := Px.hid hm
  clear hm
  unfold limV
  go_enter Try.func9, Try.ntmps9
  go_wp2_with fail
  refine (derMay_any l _).mono ?_
  rintro e w' ⟨rfl, hs⟩
  have HS := Px.hid (Same.trans ((Fr.refl (fun _ => False) w).alloc _) hs)
  clear hs
  rw [H.out]
  go_wp2
  go_ret2
  exact ⟨rfl, HS.out⟩
theorem new_yes (l : Lim) (w : World) (hm : l.may = true) : Calls Try.prog 9 #[limV l] w fun e w' => ∃ b, e = .returned (.tuple #[.pointer (some ⟨b, 0, none⟩), .int .i64 0]) ∧ Same w w' ∧ w.heap.size ≤ b ∧ FeedAt w' b (J6.init l) (fun k => k = b) := by
  have H := Px.hid hm
  clear hm
  unfold limV
  go_enter Try.func9, Try.ntmps9
  go_wp2_with fail
  refine (derMay_any l _).mono ?_
  rintro e w' ⟨rfl, hs⟩
  have HS := Px.hid (Same.trans ((Fr.refl (fun _ => False) w).alloc _) hs)
  have c0 : w'.cell? ⟨w.heap.size, 0, none⟩ = some (.int .i64 l.d) := (hs.cell (p := ⟨w.heap.size, 0, none⟩) (by simp) (fun x => x)).trans (cellOf (heap_alloc_new w _) 0 rfl)
  have c1 : w'.cell? ⟨w.heap.size, 1, none⟩ = some (.int .i64 l.i) := (hs.cell (p := ⟨w.heap.size, 1, none⟩) (by simp) (fun x => x)).trans (cellOf (heap_alloc_new w _) 1 rfl)
  have c2 : w'.cell? ⟨w.heap.size, 2, none⟩ = some (.int .i64 l.b) := (hs.cell (p := ⟨w.heap.size, 2, none⟩) (by simp) (fun x => x)).trans (cellOf (heap_alloc_new w _) 2 rfl)
  have c3 : w'.cell? ⟨w.heap.size, 3, none⟩ = some (.int .i64 l.r) := (hs.cell (p := ⟨w.heap.size, 3, none⟩) (by simp) (fun x => x)).trans (cellOf (heap_alloc_new w _) 3 rfl)
  clear hs
  rw [H.out]
  go_wp2
  go_ret2
  refine ⟨w'.heap.size, rfl, HS.out.alloc _, HS.out.size, .slice none 0 0, .slice none 0 0, .nilIface, [], [], ⟨heap_alloc_new w' _, ⟨owns_nil _ _ _ _, owns_nil _ _ _ _, rfl, (fun p hp => by cases hp), ⟨rfl, rfl⟩, ?_⟩, ?_⟩, ?_⟩
  · simp [blocks, nmBlocks, Value.ownBlock, Apart]
  · simp [blocks, nmBlocks, Value.ownBlock]
  · funext k; simp [foot, blocks, nmBlocks, Value.ownBlock]
end Go.Proofs.Ytahojodgmjmpnaa
