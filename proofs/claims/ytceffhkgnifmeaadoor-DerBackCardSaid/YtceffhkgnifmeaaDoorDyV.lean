/-
  The walk over the program's der.Decode where something stands behind.
-/
import Derived.Test.YtceffhkgnifmeaaDoorDvV
namespace Go.Proofs.YtceffhkgnifmeaaDoor
open Go.RowKit Go.Px

set_option maxRecDepth 100000 in
set_option maxHeartbeats 1000000 in
theorem decode_want (s : Bytes) (lim : Lim) (hs : s.length ≤ 140737488355327) (hm : lim.may = true) (w : World) (hT : ∀ w2, Same w w2 → Tabs w2) (m : Nat) (y : D5.Dx) (hrun : D5.run s lim m = some (.ok y)) (hle : y.at_ < s.length) (e : D5.Flt) (hw : D5.want s lim y.at_ = .error e) :
    Calls Tryd.prog 14 #[S s, limV lim] w fun r w' => r = .returned (.tuple #[.slice none 0 0, .int .i64 (e : D5.Flt).1, .int .i64 (e : D5.Flt).2]) ∧ Same w w' := by
  have hmf : ∀ (fn : Fn) (first cap : Array Value) (w : World), (Instr.makeFunc fn first cap).run Tryd.prog w = .ok (.func fn first cap) w := fun _ _ _ _ => rfl
  have HI := Px.hid (And.intro hs (And.intro hm (And.intro hT hrun)))
  clear hs hT hrun
  have hsz : (ByteArray.mk s.toArray).size = s.length := size_S s
  have hle' : (y.at_ : Int) < (s.length : Int) := by omega
  have HW := Px.hid hw
  clear hle hw
  unfold limV
  go_enter_defers Tryd.func14, Tryd.ntmps14
  go_upto_region 1 with fail
  rw [show ((((w.alloc (.cells #[.int .i64 lim.d, .int .i64 lim.i, .int .i64 lim.b, .int .i64 lim.r] 23 (0, 0))).alloc (.cells #[.slice none 0 0] 25 (0, 0))).alloc (.cells #[.int .i64 0] 3 (0, 0))).alloc (.cells #[.int .i64 0] 26 (0, 0))) = World.dec w lim from rfl]
  have HD := Px.hid (dec_at w lim)
  have a0 := cellOf HD.out.lim 0 rfl
  have a1 := cellOf HD.out.lim 1 rfl
  have a2 := cellOf HD.out.lim 2 rfl
  have a3 := cellOf HD.out.lim 3 rfl
  go_wp2_with fail
  refine (derMay_any lim _).mono ?_
  rintro r w1 ⟨rfl, hsm⟩
  have HE := Px.hid (HD.out.keep hsm)
  clear a0 a1 a2 a3 hsm
  have a0 := cellOf HE.out.lim 0 rfl
  have a1 := cellOf HE.out.lim 1 rfl
  have a2 := cellOf HE.out.lim 2 rfl
  have a3 := cellOf HE.out.lim 3 rfl
  rw [hm]
  go_upto_region 5 with fail
  rw [show w1.alloc (.cells #[S s, .int .i64 lim.d, .int .i64 lim.i, .int .i64 lim.b, .int .i64 lim.r, .int .i64 0, .slice none 0 0, .slice none 0 0] 70 (0, 0)) = w1.alloc (.cells (drCells s lim 0 (.slice none 0 0) (.slice none 0 0)) 70 (0, 0)) from rfl]
  obtain ⟨WX, hWX⟩ : ∃ WX, WX = w1.alloc (.cells (drCells s lim 0 (.slice none 0 0) (.slice none 0 0)) 70 (0, 0)) := ⟨_, rfl⟩
  rw [← hWX]
  have HX := Px.hid (show DrRep WX w1.heap.size s lim ⟨0, [], []⟩ (.slice none 0 0) (.slice none 0 0) ∧ Same w1 WX from by rw [hWX]; exact ⟨new_dr w1 s lim, (Same.refl w1).alloc _⟩)
  clear hWX a0 a1 a2 a3
  have hTX : ∀ w2, Fr (dfoot w1.heap.size (.slice none 0 0) (.slice none 0 0)) WX w2 → Tabs w2 := fun w2 h2 =>
    HI.out.2.2.1 w2 (HE.out.fr (Fr.trans (HX.out.2.mono (fun _ e => e.elim)) h2 (fun _ _ e => e)) (fun _ hk => Nat.le_of_eq (new_foot hk).symm)).same
  have HT := Px.hid hTX
  clear hTX
  go_wp2_with fail
  refine (read_any s lim HI.out.1 HI.out.2.1 w1.heap.size _ _ _ WX HX.out.1 (new_inv HI.out.2.1) HT.out m _ HI.out.2.2.2).mono ?_
  intro r w2 hpost
  unfold BegPost at hpost
  obtain ⟨rfl, F', ⟨zs, zo, hz, rfl⟩, hf, hfr⟩ := hpost
  have HF := Px.hid (HE.out.fr (Fr.trans (HX.out.2.mono (fun _ e => e.elim)) hf (fun _ _ e => e)) (fun _ hk => Nat.le_of_eq (new_foot hk).symm))
  have c5 := hz.cells.2.2.2.2.1
  have HZ := Px.hid (And.intro hz True.intro)
  clear hz hf hfr
  go_wp2_with fail
  refine (dwant_no _ y.at_ s lim _ _ _ _ HZ.out.1 e HW.out).mono ?_
  rintro r w3 ⟨rfl, hs3⟩
  have HF := Px.hid (HF.out.keep hs3)
  clear hs3
  unfold panics
  go_wp2
  refine leaves_cons (f := 29) (args := #[.pointer (some ⟨w.heap.size + 1, 0, none⟩), .pointer (some ⟨w.heap.size + 1 + 1, 0, none⟩), .pointer (some ⟨w.heap.size + 1 + 1 + 1, 0, none⟩)]) (by simp) (by simp [go_sem]) ?_
  refine (catch_flt (w.heap.size + 1) (w.heap.size + 1 + 1) (w.heap.size + 1 + 1 + 1) e _ _ _ [] _ (cellOf HF.out.v0 0 rfl) (cellOf HF.out.v1 0 rfl) (cellOf HF.out.v2 0 rfl) (freeOf HF.out.v0 0) (freeOf HF.out.v1 0) (freeOf HF.out.v2 0) (ltOf HF.out.v0) (ltOf HF.out.v1) (ltOf HF.out.v2) (by omega) (by omega) (by omega)).mono ?_
  rintro r u' w3 ⟨rfl, rfl, rfl⟩
  have hS := ((((HF.out.same.setCell (p := ⟨w.heap.size + 1, 0, none⟩) (.inr (by simp only; omega)) (.slice none 0 0)).setCell (p := ⟨w.heap.size + 1 + 1, 0, none⟩) (.inr (by simp only; omega)) (.int .i64 (e : D5.Flt).1)).setCell (p := ⟨w.heap.size + 1 + 1 + 1, 0, none⟩) (.inr (by simp only; omega)) (.int .i64 (e : D5.Flt).2)).alloc (.cells #[.int .i64 (e : D5.Flt).1, .int .i64 (e : D5.Flt).2] 65 (0, 0))).drew
  have HS := Px.hid hS
  have c0 := cellOf HF.out.v0 0 rfl
  have c1 := cellOf HF.out.v1 0 rfl
  have c2 := cellOf HF.out.v2 0 rfl
  have l0 := ltOf HF.out.v0
  have l1 := ltOf HF.out.v1
  have l2 := ltOf HF.out.v2
  clear hS
  simp [Leaves, settle, results, Tryd.results14, go_sem, c0, c1, c2, l0, l1, l2]
  exact HS.out
set_option maxRecDepth 100000 in
set_option maxHeartbeats 1000000 in
theorem decode_rest (s : Bytes) (lim : Lim) (hs : s.length ≤ 140737488355327) (hm : lim.may = true) (w : World) (hT : ∀ w2, Same w w2 → Tabs w2) (m : Nat) (y : D5.Dx) (hrun : D5.run s lim m = some (.ok y)) (hle : y.at_ < s.length) (c : Nat) (hw : D5.want s lim y.at_ = .ok c) :
    Calls Tryd.prog 14 #[S s, limV lim] w fun r w' => r = .returned (.tuple #[.slice none 0 0, .int .i64 (((y.at_ : Int), (9 : Int)) : D5.Flt).1, .int .i64 (((y.at_ : Int), (9 : Int)) : D5.Flt).2]) ∧ Same w w' := by
  have hmf : ∀ (fn : Fn) (first cap : Array Value) (w : World), (Instr.makeFunc fn first cap).run Tryd.prog w = .ok (.func fn first cap) w := fun _ _ _ _ => rfl
  have HI := Px.hid (And.intro hs (And.intro hm (And.intro hT hrun)))
  clear hs hT hrun
  have hsz : (ByteArray.mk s.toArray).size = s.length := size_S s
  have hle' : (y.at_ : Int) < (s.length : Int) := by omega
  have HW := Px.hid hw
  clear hle hw
  unfold limV
  go_enter_defers Tryd.func14, Tryd.ntmps14
  go_upto_region 1 with fail
  rw [show ((((w.alloc (.cells #[.int .i64 lim.d, .int .i64 lim.i, .int .i64 lim.b, .int .i64 lim.r] 23 (0, 0))).alloc (.cells #[.slice none 0 0] 25 (0, 0))).alloc (.cells #[.int .i64 0] 3 (0, 0))).alloc (.cells #[.int .i64 0] 26 (0, 0))) = World.dec w lim from rfl]
  have HD := Px.hid (dec_at w lim)
  have a0 := cellOf HD.out.lim 0 rfl
  have a1 := cellOf HD.out.lim 1 rfl
  have a2 := cellOf HD.out.lim 2 rfl
  have a3 := cellOf HD.out.lim 3 rfl
  go_wp2_with fail
  refine (derMay_any lim _).mono ?_
  rintro r w1 ⟨rfl, hsm⟩
  have HE := Px.hid (HD.out.keep hsm)
  clear a0 a1 a2 a3 hsm
  have a0 := cellOf HE.out.lim 0 rfl
  have a1 := cellOf HE.out.lim 1 rfl
  have a2 := cellOf HE.out.lim 2 rfl
  have a3 := cellOf HE.out.lim 3 rfl
  rw [hm]
  go_upto_region 5 with fail
  rw [show w1.alloc (.cells #[S s, .int .i64 lim.d, .int .i64 lim.i, .int .i64 lim.b, .int .i64 lim.r, .int .i64 0, .slice none 0 0, .slice none 0 0] 70 (0, 0)) = w1.alloc (.cells (drCells s lim 0 (.slice none 0 0) (.slice none 0 0)) 70 (0, 0)) from rfl]
  obtain ⟨WX, hWX⟩ : ∃ WX, WX = w1.alloc (.cells (drCells s lim 0 (.slice none 0 0) (.slice none 0 0)) 70 (0, 0)) := ⟨_, rfl⟩
  rw [← hWX]
  have HX := Px.hid (show DrRep WX w1.heap.size s lim ⟨0, [], []⟩ (.slice none 0 0) (.slice none 0 0) ∧ Same w1 WX from by rw [hWX]; exact ⟨new_dr w1 s lim, (Same.refl w1).alloc _⟩)
  clear hWX a0 a1 a2 a3
  have hTX : ∀ w2, Fr (dfoot w1.heap.size (.slice none 0 0) (.slice none 0 0)) WX w2 → Tabs w2 := fun w2 h2 =>
    HI.out.2.2.1 w2 (HE.out.fr (Fr.trans (HX.out.2.mono (fun _ e => e.elim)) h2 (fun _ _ e => e)) (fun _ hk => Nat.le_of_eq (new_foot hk).symm)).same
  have HT := Px.hid hTX
  clear hTX
  go_wp2_with fail
  refine (read_any s lim HI.out.1 HI.out.2.1 w1.heap.size _ _ _ WX HX.out.1 (new_inv HI.out.2.1) HT.out m _ HI.out.2.2.2).mono ?_
  intro r w2 hpost
  unfold BegPost at hpost
  obtain ⟨rfl, F', ⟨zs, zo, hz, rfl⟩, hf, hfr⟩ := hpost
  have HF := Px.hid (HE.out.fr (Fr.trans (HX.out.2.mono (fun _ e => e.elim)) hf (fun _ _ e => e)) (fun _ hk => Nat.le_of_eq (new_foot hk).symm))
  have c5 := hz.cells.2.2.2.2.1
  have HZ := Px.hid (And.intro hz True.intro)
  clear hz hf hfr
  go_wp2_with fail
  refine (dwant_yes _ y.at_ s lim _ _ _ _ HZ.out.1 c HW.out).mono ?_
  rintro r w3 ⟨rfl, hs3⟩
  have HF := Px.hid (HF.out.keep hs3)
  have HZ := Px.hid (And.intro (HZ.out.1.same hs3) True.intro)
  clear hs3 c5
  have c5 := HZ.out.1.cells.2.2.2.2.1
  go_wp2
  refine leaves_cons (f := 29) (args := #[.pointer (some ⟨w.heap.size + 1, 0, none⟩), .pointer (some ⟨w.heap.size + 1 + 1, 0, none⟩), .pointer (some ⟨w.heap.size + 1 + 1 + 1, 0, none⟩)]) (by simp) (by simp [go_sem]) ?_
  refine (catch_flt (w.heap.size + 1) (w.heap.size + 1 + 1) (w.heap.size + 1 + 1 + 1) ((y.at_ : Int), (9 : Int)) _ _ _ [] _ (cellOf HF.out.v0 0 rfl) (cellOf HF.out.v1 0 rfl) (cellOf HF.out.v2 0 rfl) (freeOf HF.out.v0 0) (freeOf HF.out.v1 0) (freeOf HF.out.v2 0) (ltOf HF.out.v0) (ltOf HF.out.v1) (ltOf HF.out.v2) (by omega) (by omega) (by omega)).mono ?_
  rintro r u' w3 ⟨rfl, rfl, rfl⟩
  have hS := ((((HF.out.same.setCell (p := ⟨w.heap.size + 1, 0, none⟩) (.inr (by simp only; omega)) (.slice none 0 0)).setCell (p := ⟨w.heap.size + 1 + 1, 0, none⟩) (.inr (by simp only; omega)) (.int .i64 (((y.at_ : Int), (9 : Int)) : D5.Flt).1)).setCell (p := ⟨w.heap.size + 1 + 1 + 1, 0, none⟩) (.inr (by simp only; omega)) (.int .i64 (((y.at_ : Int), (9 : Int)) : D5.Flt).2)).alloc (.cells #[.int .i64 (((y.at_ : Int), (9 : Int)) : D5.Flt).1, .int .i64 (((y.at_ : Int), (9 : Int)) : D5.Flt).2] 65 (0, 0))).drew
  have HS := Px.hid hS
  have c0 := cellOf HF.out.v0 0 rfl
  have c1 := cellOf HF.out.v1 0 rfl
  have c2 := cellOf HF.out.v2 0 rfl
  have l0 := ltOf HF.out.v0
  have l1 := ltOf HF.out.v1
  have l2 := ltOf HF.out.v2
  clear hS
  simp [Leaves, settle, results, Tryd.results14, go_sem, c0, c1, c2, l0, l1, l2]
  exact HS.out
end Go.Proofs.YtceffhkgnifmeaaDoor
