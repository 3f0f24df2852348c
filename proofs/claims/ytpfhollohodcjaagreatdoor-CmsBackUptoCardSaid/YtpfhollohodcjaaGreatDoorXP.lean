/-
  Several texts in one: The walk over the program's der.Decode. The walk over the program's der.Decode where the limits may be. The walk over the program's der.Decode where the text is read whole. The walk over the program's der.Decode where something stands behind.
-/
import Derived.Test.YtpfhollohodcjaaGreatDoorXO
/-! The walk over the program's der.Decode. -/
namespace Go.Proofs.YtpfhollohodcjaaGreatDoor
open Go.RowKit Go.Px

/-- Decode's first four blocks. -/
def World.dec (w : World) (lim : Lim) : World := ((((w.alloc (.cells #[.int .i64 lim.d, .int .i64 lim.i, .int .i64 lim.b, .int .i64 lim.r] 23 (0, 0))).alloc (.cells #[.slice none 0 0] 47 (0, 0))).alloc (.cells #[.int .i64 0] 3 (0, 0))).alloc (.cells #[.int .i64 0] 28 (0, 0)))
structure DecAt (w w1 : World) (lim : Lim) (v0 v1 v2 : Value) : Prop where
  lim : w1.heap[w.heap.size]? = some (.cells #[.int .i64 lim.d, .int .i64 lim.i, .int .i64 lim.b, .int .i64 lim.r] 23 (0, 0))
  v0 : w1.heap[w.heap.size + 1]? = some (.cells #[v0] 47 (0, 0))
  v1 : w1.heap[w.heap.size + 1 + 1]? = some (.cells #[v1] 3 (0, 0))
  v2 : w1.heap[w.heap.size + 1 + 1 + 1]? = some (.cells #[v2] 28 (0, 0))
  same : Same w w1
theorem dec_at (w : World) (lim : Lim) : DecAt w (World.dec w lim) lim (.slice none 0 0) (.int .i64 0) (.int .i64 0) := by
  refine ⟨?_, ?_, ?_, ?_, (((Same.refl w).alloc _).alloc _).alloc _ |>.alloc _⟩
  · exact (Below.heap_alloc _ _ _ (by simp <;> omega)).trans ((Below.heap_alloc _ _ _ (by simp <;> omega)).trans ((Below.heap_alloc _ _ _ (by simp)).trans (heap_alloc_new w _)))
  · refine (Below.heap_alloc _ _ _ (by simp <;> omega)).trans ((Below.heap_alloc _ _ _ (by simp)).trans ?_)
    have := heap_alloc_new (w.alloc (.cells #[.int .i64 lim.d, .int .i64 lim.i, .int .i64 lim.b, .int .i64 lim.r] 23 (0, 0))) (.cells #[.slice none 0 0] 47 (0, 0))
    simpa using this
  · refine (Below.heap_alloc _ _ _ (by simp)).trans ?_
    have := heap_alloc_new ((w.alloc (.cells #[.int .i64 lim.d, .int .i64 lim.i, .int .i64 lim.b, .int .i64 lim.r] 23 (0, 0))).alloc (.cells #[.slice none 0 0] 47 (0, 0))) (.cells #[.int .i64 0] 3 (0, 0))
    simpa using this
  · have := heap_alloc_new (((w.alloc (.cells #[.int .i64 lim.d, .int .i64 lim.i, .int .i64 lim.b, .int .i64 lim.r] 23 (0, 0))).alloc (.cells #[.slice none 0 0] 47 (0, 0))).alloc (.cells #[.int .i64 0] 3 (0, 0))) (.cells #[.int .i64 0] 28 (0, 0))
    simpa [World.dec] using this
theorem DecAt.keep {w w1 w2 : World} {lim : Lim} {v0 v1 v2 : Value} (h : DecAt w w1 lim v0 v1 v2) (hs : Same w1 w2) : DecAt w w2 lim v0 v1 v2 :=
  ⟨(hs.block _ (ltOf h.lim) (fun x => x)).trans h.lim, (hs.block _ (ltOf h.v0) (fun x => x)).trans h.v0, (hs.block _ (ltOf h.v1) (fun x => x)).trans h.v1, (hs.block _ (ltOf h.v2) (fun x => x)).trans h.v2, Fr.trans h.same hs (fun _ _ x => x)⟩
set_option maxRecDepth 100000 in
set_option maxHeartbeats 1000000 in
theorem decode_no (s : Bytes) (lim : Lim) (hm : lim.may = false) (w : World) :
    Calls Tryz.prog 22 #[S s, limV lim] w fun r w' => r = .returned (.tuple #[.slice none 0 0, .int .i64 0, .int .i64 2]) ∧ Same w w' := by
  have hmf : ∀ (fn : Fn) (first cap : Array Value) (w : World), (Instr.makeFunc fn first cap).run Tryz.prog w = .ok (.func fn first cap) w := fun _ _ _ _ => rfl
  unfold limV
  go_enter_defers Tryz.func22, Tryz.ntmps22
  go_upto_region 1 with fail
  rw [show ((((w.alloc (.cells #[.int .i64 lim.d, .int .i64 lim.i, .int .i64 lim.b, .int .i64 lim.r] 23 (0, 0))).alloc (.cells #[.slice none 0 0] 47 (0, 0))).alloc (.cells #[.int .i64 0] 3 (0, 0))).alloc (.cells #[.int .i64 0] 28 (0, 0))) = World.dec w lim from rfl]
  have HD := Px.hid (dec_at w lim)
  have a0 := cellOf HD.out.lim 0 rfl
  have a1 := cellOf HD.out.lim 1 rfl
  have a2 := cellOf HD.out.lim 2 rfl
  have a3 := cellOf HD.out.lim 3 rfl
  go_wp2_with fail
  refine (derMay_any lim _).mono ?_
  rintro e w1 ⟨rfl, hs⟩
  have HE := Px.hid (HD.out.keep hs)
  have b0 := cellOf HE.out.v0 0 rfl
  have b1 := cellOf HE.out.v1 0 rfl
  have b2 := cellOf HE.out.v2 0 rfl
  have f0 := freeOf HE.out.v0 0
  have f1 := freeOf HE.out.v1 0
  have f2 := freeOf HE.out.v2 0
  clear a0 a1 a2 a3 hs
  rw [hm]
  go_wp2
  have hS : Same w (((w1.setCell ⟨w.heap.size + 1, 0, none⟩ (.slice none 0 0)).setCell ⟨w.heap.size + 1 + 1, 0, none⟩ (.int .i64 0)).setCell ⟨w.heap.size + 1 + 1 + 1, 0, none⟩ (.int .i64 2)) :=
    ((HE.out.same.setCell (p := ⟨w.heap.size + 1, 0, none⟩) (.inr (by simp only; omega)) _).setCell (p := ⟨w.heap.size + 1 + 1, 0, none⟩) (.inr (by simp only; omega)) _).setCell (p := ⟨w.heap.size + 1 + 1 + 1, 0, none⟩) (.inr (by simp only; omega)) _
  have HS := Px.hid hS
  clear hS
  simp [bodyPostD, Leaves, results, Tryz.results22, go_sem, b0, b1, b2]
  exact HS.out
end Go.Proofs.YtpfhollohodcjaaGreatDoor

/-! The walk over the program's der.Decode where the limits may be. -/
namespace Go.Proofs.YtpfhollohodcjaaGreatDoor
open Go.RowKit Go.Px

theorem new_dr (w : World) (s : Bytes) (lim : Lim) : DrRep (w.alloc (.cells (drCells s lim 0 (.slice none 0 0) (.slice none 0 0)) 108 (0, 0))) w.heap.size s lim ⟨0, [], []⟩ (.slice none 0 0) (.slice none 0 0) :=
  ⟨heap_alloc_new w _, owns_nil _ _ _ _, owns_nil _ _ _ _, nofun, nofun, nofun⟩
theorem new_foot {w : World} {k : Nat} (h : dfoot w.heap.size (.slice none 0 0) (.slice none 0 0) k) : k = w.heap.size := by
  rcases h with e | e | e
  · exact e
  · cases e
  · cases e
theorem new_inv {s : Bytes} {lim : Lim} (hm : lim.may = true) : RInv s lim ⟨0, [], []⟩ := by
  obtain ⟨_, _, _, _, _, _, _, _⟩ := may_parts hm
  exact ⟨nofun, by show ((0 : Nat) : Int) ≤ lim.d; omega, by show ((0 : Nat) : Int) ≤ lim.i; omega, Nat.zero_le _, by show ((0 : Nat) : Int) ≤ lim.b; omega, nofun⟩
theorem DecAt.fr {w w1 w2 : World} {lim : Lim} {v0 v1 v2 : Value} {F : Nat → Prop} (h : DecAt w w1 lim v0 v1 v2) (hs : Fr F w1 w2) (hF : ∀ k, F k → w1.heap.size ≤ k) : DecAt w w2 lim v0 v1 v2 :=
  have hn : ∀ k, k < w1.heap.size → ¬ F k := fun k hk e => by have := hF k e; omega
  ⟨(hs.block _ (ltOf h.lim) (hn _ (ltOf h.lim))).trans h.lim, (hs.block _ (ltOf h.v0) (hn _ (ltOf h.v0))).trans h.v0, (hs.block _ (ltOf h.v1) (hn _ (ltOf h.v1))).trans h.v1, (hs.block _ (ltOf h.v2) (hn _ (ltOf h.v2))).trans h.v2, Fr.trans h.same hs (fun k hk e => by have := hF k e; have := h.same.size; omega)⟩
set_option maxRecDepth 100000 in
set_option maxHeartbeats 1000000 in
theorem decode_err (s : Bytes) (lim : Lim) (hs : s.length ≤ 140737488355327) (hm : lim.may = true) (w : World) (hT : ∀ w2, Same w w2 → Tabs w2) (m : Nat) (e : D5.Flt) (hrun : D5.run s lim m = some (.error e)) :
    Calls Tryz.prog 22 #[S s, limV lim] w fun r w' => r = .returned (.tuple #[.slice none 0 0, .int .i64 e.1, .int .i64 e.2]) ∧ Same w w' := by
  have hmf : ∀ (fn : Fn) (first cap : Array Value) (w : World), (Instr.makeFunc fn first cap).run Tryz.prog w = .ok (.func fn first cap) w := fun _ _ _ _ => rfl
  have HI := Px.hid (And.intro hs (And.intro hm (And.intro hT hrun)))
  clear hs hT hrun
  unfold limV
  go_enter_defers Tryz.func22, Tryz.ntmps22
  go_upto_region 1 with fail
  rw [show ((((w.alloc (.cells #[.int .i64 lim.d, .int .i64 lim.i, .int .i64 lim.b, .int .i64 lim.r] 23 (0, 0))).alloc (.cells #[.slice none 0 0] 47 (0, 0))).alloc (.cells #[.int .i64 0] 3 (0, 0))).alloc (.cells #[.int .i64 0] 28 (0, 0))) = World.dec w lim from rfl]
  have HD := Px.hid (dec_at w lim)
  have a0 := cellOf HD.out.lim 0 rfl
  have a1 := cellOf HD.out.lim 1 rfl
  have a2 := cellOf HD.out.lim 2 rfl
  have a3 := cellOf HD.out.lim 3 rfl
  go_wp2_with fail
  refine (derMay_any lim _).mono ?_
  rintro r w1 ⟨rfl, hsm⟩
  have HE := Px.hid (HD.out.keep hsm)
  clear a0 a1 a2 a3 hsm
  have a0 := cellOf HE.out.lim 0 rfl
  have a1 := cellOf HE.out.lim 1 rfl
  have a2 := cellOf HE.out.lim 2 rfl
  have a3 := cellOf HE.out.lim 3 rfl
  rw [hm]
  go_upto_region 5 with fail
  rw [show w1.alloc (.cells #[S s, .int .i64 lim.d, .int .i64 lim.i, .int .i64 lim.b, .int .i64 lim.r, .int .i64 0, .slice none 0 0, .slice none 0 0] 108 (0, 0)) = w1.alloc (.cells (drCells s lim 0 (.slice none 0 0) (.slice none 0 0)) 108 (0, 0)) from rfl]
  obtain ⟨WX, hWX⟩ : ∃ WX, WX = w1.alloc (.cells (drCells s lim 0 (.slice none 0 0) (.slice none 0 0)) 108 (0, 0)) := ⟨_, rfl⟩
  rw [← hWX]
  have HX := Px.hid (show DrRep WX w1.heap.size s lim ⟨0, [], []⟩ (.slice none 0 0) (.slice none 0 0) ∧ Same w1 WX from by rw [hWX]; exact ⟨new_dr w1 s lim, (Same.refl w1).alloc _⟩)
  clear hWX a0 a1 a2 a3
  have hTX : ∀ w2, Fr (dfoot w1.heap.size (.slice none 0 0) (.slice none 0 0)) WX w2 → Tabs w2 := fun w2 h2 =>
    HI.out.2.2.1 w2 (HE.out.fr (Fr.trans (HX.out.2.mono (fun _ e => e.elim)) h2 (fun _ _ e => e)) (fun _ hk => Nat.le_of_eq (new_foot hk).symm)).same
  have HT := Px.hid hTX
  clear hTX
  go_wp2_with fail
  refine (read_any s lim HI.out.1 HI.out.2.1 w1.heap.size _ _ _ WX HX.out.1 (new_inv HI.out.2.1) HT.out m _ HI.out.2.2.2).mono ?_
  intro r w2 hpost
  unfold BegPost at hpost
  obtain ⟨rfl, hf⟩ := hpost
  have HF := Px.hid (HE.out.fr (Fr.trans (HX.out.2.mono (fun _ e => e.elim)) hf (fun _ _ e => e)) (fun _ hk => Nat.le_of_eq (new_foot hk).symm))
  clear hf
  unfold panics
  go_wp2
  refine leaves_cons (f := 58) (args := #[.pointer (some ⟨w.heap.size + 1, 0, none⟩), .pointer (some ⟨w.heap.size + 1 + 1, 0, none⟩), .pointer (some ⟨w.heap.size + 1 + 1 + 1, 0, none⟩)]) (by simp) (by simp [go_sem]) ?_
  refine (catch_flt (w.heap.size + 1) (w.heap.size + 1 + 1) (w.heap.size + 1 + 1 + 1) e _ _ _ [] w2 (cellOf HF.out.v0 0 rfl) (cellOf HF.out.v1 0 rfl) (cellOf HF.out.v2 0 rfl) (freeOf HF.out.v0 0) (freeOf HF.out.v1 0) (freeOf HF.out.v2 0) (ltOf HF.out.v0) (ltOf HF.out.v1) (ltOf HF.out.v2) (by omega) (by omega) (by omega)).mono ?_
  rintro r u' w3 ⟨rfl, rfl, rfl⟩
  have hS := ((((HF.out.same.setCell (p := ⟨w.heap.size + 1, 0, none⟩) (.inr (by simp only; omega)) (.slice none 0 0)).setCell (p := ⟨w.heap.size + 1 + 1, 0, none⟩) (.inr (by simp only; omega)) (.int .i64 e.1)).setCell (p := ⟨w.heap.size + 1 + 1 + 1, 0, none⟩) (.inr (by simp only; omega)) (.int .i64 e.2)).alloc (.cells #[.int .i64 e.1, .int .i64 e.2] 103 (0, 0))).drew
  have HS := Px.hid hS
  have c0 := cellOf HF.out.v0 0 rfl
  have c1 := cellOf HF.out.v1 0 rfl
  have c2 := cellOf HF.out.v2 0 rfl
  have l0 := ltOf HF.out.v0
  have l1 := ltOf HF.out.v1
  have l2 := ltOf HF.out.v2
  clear hS
  simp [Leaves, settle, results, Tryz.results22, go_sem, c0, c1, c2, l0, l1, l2]
  exact HS.out
end Go.Proofs.YtpfhollohodcjaaGreatDoor

/-! The walk over the program's der.Decode where the text is read whole. -/
namespace Go.Proofs.YtpfhollohodcjaaGreatDoor
open Go.RowKit Go.Px

set_option maxRecDepth 100000 in
set_option maxHeartbeats 1000000 in
theorem decode_ok (s : Bytes) (lim : Lim) (hs : s.length ≤ 140737488355327) (hm : lim.may = true) (w : World) (hT : ∀ w2, Same w w2 → Tabs w2) (m : Nat) (y : D5.Dx) (hrun : D5.run s lim m = some (.ok y)) (hle : ¬ y.at_ < s.length) :
    Calls Tryz.prog 22 #[S s, limV lim] w fun r w' => ∃ vo, r = .returned (.tuple #[vo, .int .i64 0, .int .i64 0]) ∧ Owns w' 90 3 cNode vo y.out ∧ Same w w' ∧ ∀ g, vo.ownBlock = some g → w.heap.size ≤ g := by
  have hmf : ∀ (fn : Fn) (first cap : Array Value) (w : World), (Instr.makeFunc fn first cap).run Tryz.prog w = .ok (.func fn first cap) w := fun _ _ _ _ => rfl
  have HI := Px.hid (And.intro hs (And.intro hm (And.intro hT hrun)))
  clear hs hT hrun
  have hsz : (ByteArray.mk s.toArray).size = s.length := size_S s
  have hle' : ¬ (y.at_ : Int) < (s.length : Int) := by omega
  clear hle
  unfold limV
  go_enter_defers Tryz.func22, Tryz.ntmps22
  go_upto_region 1 with fail
  rw [show ((((w.alloc (.cells #[.int .i64 lim.d, .int .i64 lim.i, .int .i64 lim.b, .int .i64 lim.r] 23 (0, 0))).alloc (.cells #[.slice none 0 0] 47 (0, 0))).alloc (.cells #[.int .i64 0] 3 (0, 0))).alloc (.cells #[.int .i64 0] 28 (0, 0))) = World.dec w lim from rfl]
  have HD := Px.hid (dec_at w lim)
  have a0 := cellOf HD.out.lim 0 rfl
  have a1 := cellOf HD.out.lim 1 rfl
  have a2 := cellOf HD.out.lim 2 rfl
  have a3 := cellOf HD.out.lim 3 rfl
  go_wp2_with fail
  refine (derMay_any lim _).mono ?_
  rintro r w1 ⟨rfl, hsm⟩
  have HE := Px.hid (HD.out.keep hsm)
  clear a0 a1 a2 a3 hsm
  have a0 := cellOf HE.out.lim 0 rfl
  have a1 := cellOf HE.out.lim 1 rfl
  have a2 := cellOf HE.out.lim 2 rfl
  have a3 := cellOf HE.out.lim 3 rfl
  rw [hm]
  go_upto_region 5 with fail
  rw [show w1.alloc (.cells #[S s, .int .i64 lim.d, .int .i64 lim.i, .int .i64 lim.b, .int .i64 lim.r, .int .i64 0, .slice none 0 0, .slice none 0 0] 108 (0, 0)) = w1.alloc (.cells (drCells s lim 0 (.slice none 0 0) (.slice none 0 0)) 108 (0, 0)) from rfl]
  obtain ⟨WX, hWX⟩ : ∃ WX, WX = w1.alloc (.cells (drCells s lim 0 (.slice none 0 0) (.slice none 0 0)) 108 (0, 0)) := ⟨_, rfl⟩
  rw [← hWX]
  have HX := Px.hid (show DrRep WX w1.heap.size s lim ⟨0, [], []⟩ (.slice none 0 0) (.slice none 0 0) ∧ Same w1 WX from by rw [hWX]; exact ⟨new_dr w1 s lim, (Same.refl w1).alloc _⟩)
  clear hWX a0 a1 a2 a3
  have hTX : ∀ w2, Fr (dfoot w1.heap.size (.slice none 0 0) (.slice none 0 0)) WX w2 → Tabs w2 := fun w2 h2 =>
    HI.out.2.2.1 w2 (HE.out.fr (Fr.trans (HX.out.2.mono (fun _ e => e.elim)) h2 (fun _ _ e => e)) (fun _ hk => Nat.le_of_eq (new_foot hk).symm)).same
  have HT := Px.hid hTX
  clear hTX
  go_wp2_with fail
  refine (read_any s lim HI.out.1 HI.out.2.1 w1.heap.size _ _ _ WX HX.out.1 (new_inv HI.out.2.1) HT.out m _ HI.out.2.2.2).mono ?_
  intro r w2 hpost
  unfold BegPost at hpost
  obtain ⟨rfl, F', ⟨zs, zo, hz, rfl⟩, hf, hfr⟩ := hpost
  obtain ⟨oa, oc, rfl, _⟩ := hz.out.len
  have hD2 := HE.out.fr (Fr.trans (HX.out.2.mono (fun _ e => e.elim)) hf (fun _ _ e => e)) (fun _ hk => Nat.le_of_eq (new_foot hk).symm)
  have hzo : ∀ g, (Value.slice oa y.out.length oc).ownBlock = some g → w.heap.size + 1 + 1 + 1 < g := fun g hg => by
    have h3 := ltOf HE.out.v2
    rcases hfr g (.inr (.inr hg)) with e | e
    · have := new_foot e; omega
    · have := HX.out.2.size; omega
  have c5 := hz.cells.2.2.2.2.1
  have c7 := hz.cells.2.2.2.2.2.2
  have c0 := cellOf hD2.v0 0 rfl
  have c1 := cellOf hD2.v1 0 rfl
  have c2 := cellOf hD2.v2 0 rfl
  have f0 := freeOf hD2.v0 0
  have f1 := freeOf hD2.v1 0
  have f2 := freeOf hD2.v2 0
  have l0 := ltOf hD2.v0
  have l1 := ltOf hD2.v1
  have l2 := ltOf hD2.v2
  have HZ := Px.hid (And.intro hz (And.intro hD2 hzo))
  clear hz hf hfr hD2 hzo
  go_wp2
  refine leaves_cons (f := 58) (args := #[.pointer (some ⟨w.heap.size + 1, 0, none⟩), .pointer (some ⟨w.heap.size + 1 + 1, 0, none⟩), .pointer (some ⟨w.heap.size + 1 + 1 + 1, 0, none⟩)]) (by simp) (by simp [go_sem]) ?_
  refine (catch_idle ⟨w.heap.size + 1, 0, none⟩ ⟨w.heap.size + 1 + 1, 0, none⟩ ⟨w.heap.size + 1 + 1 + 1, 0, none⟩ _).mono ?_
  rintro r u' w3 ⟨rfl, rfl, rfl⟩
  have hS := ((HZ.out.2.1.same.setCell (p := ⟨w.heap.size + 1, 0, none⟩) (.inr (by simp only; omega)) (.slice oa y.out.length oc)).setCell (p := ⟨w.heap.size + 1 + 1, 0, none⟩) (.inr (by simp only; omega)) (.int .i64 0)).setCell (p := ⟨w.heap.size + 1 + 1 + 1, 0, none⟩) (.inr (by simp only; omega)) (.int .i64 0)
  have hO := ((HZ.out.1.out.setCell (p := ⟨w.heap.size + 1, 0, none⟩) (fun e => by have := HZ.out.2.2 _ e; simp only at this; omega) (.slice oa y.out.length oc)).setCell (p := ⟨w.heap.size + 1 + 1, 0, none⟩) (fun e => by have := HZ.out.2.2 _ e; simp only at this; omega) (.int .i64 0)).setCell (p := ⟨w.heap.size + 1 + 1 + 1, 0, none⟩) (fun e => by have := HZ.out.2.2 _ e; simp only at this; omega) (.int .i64 0)
  have HS := Px.hid (And.intro hO hS)
  clear hS hO
  simp only [settle, Leaves]
  exact ⟨.tuple #[.slice oa y.out.length oc, .int .i64 0, .int .i64 0], by simp [results, Tryz.results22, go_sem, c0, c1, c2], _, rfl, HS.out.1, HS.out.2, fun g hg => by have := HZ.out.2.2 g hg; omega⟩
end Go.Proofs.YtpfhollohodcjaaGreatDoor

/-! The walk over the program's der.Decode where something stands behind. -/
namespace Go.Proofs.YtpfhollohodcjaaGreatDoor
open Go.RowKit Go.Px

set_option maxRecDepth 100000 in
set_option maxHeartbeats 1000000 in
theorem decode_want (s : Bytes) (lim : Lim) (hs : s.length ≤ 140737488355327) (hm : lim.may = true) (w : World) (hT : ∀ w2, Same w w2 → Tabs w2) (m : Nat) (y : D5.Dx) (hrun : D5.run s lim m = some (.ok y)) (hle : y.at_ < s.length) (e : D5.Flt) (hw : D5.want s lim y.at_ = .error e) :
    Calls Tryz.prog 22 #[S s, limV lim] w fun r w' => r = .returned (.tuple #[.slice none 0 0, .int .i64 (e : D5.Flt).1, .int .i64 (e : D5.Flt).2]) ∧ Same w w' := by
  have hmf : ∀ (fn : Fn) (first cap : Array Value) (w : World), (Instr.makeFunc fn first cap).run Tryz.prog w = .ok (.func fn first cap) w := fun _ _ _ _ => rfl
  have HI := Px.hid (And.intro hs (And.intro hm (And.intro hT hrun)))
  clear hs hT hrun
  have hsz : (ByteArray.mk s.toArray).size = s.length := size_S s
  have hle' : (y.at_ : Int) < (s.length : Int) := by omega
  have HW := Px.hid hw
  clear hle hw
  unfold limV
  go_enter_defers Tryz.func22, Tryz.ntmps22
  go_upto_region 1 with fail
  rw [show ((((w.alloc (.cells #[.int .i64 lim.d, .int .i64 lim.i, .int .i64 lim.b, .int .i64 lim.r] 23 (0, 0))).alloc (.cells #[.slice none 0 0] 47 (0, 0))).alloc (.cells #[.int .i64 0] 3 (0, 0))).alloc (.cells #[.int .i64 0] 28 (0, 0))) = World.dec w lim from rfl]
  have HD := Px.hid (dec_at w lim)
  have a0 := cellOf HD.out.lim 0 rfl
  have a1 := cellOf HD.out.lim 1 rfl
  have a2 := cellOf HD.out.lim 2 rfl
  have a3 := cellOf HD.out.lim 3 rfl
  go_wp2_with fail
  refine (derMay_any lim _).mono ?_
  rintro r w1 ⟨rfl, hsm⟩
  have HE := Px.hid (HD.out.keep hsm)
  clear a0 a1 a2 a3 hsm
  have a0 := cellOf HE.out.lim 0 rfl
  have a1 := cellOf HE.out.lim 1 rfl
  have a2 := cellOf HE.out.lim 2 rfl
  have a3 := cellOf HE.out.lim 3 rfl
  rw [hm]
  go_upto_region 5 with fail
  rw [show w1.alloc (.cells #[S s, .int .i64 lim.d, .int .i64 lim.i, .int .i64 lim.b, .int .i64 lim.r, .int .i64 0, .slice none 0 0, .slice none 0 0] 108 (0, 0)) = w1.alloc (.cells (drCells s lim 0 (.slice none 0 0) (.slice none 0 0)) 108 (0, 0)) from rfl]
  obtain ⟨WX, hWX⟩ : ∃ WX, WX = w1.alloc (.cells (drCells s lim 0 (.slice none 0 0) (.slice none 0 0)) 108 (0, 0)) := ⟨_, rfl⟩
  rw [← hWX]
  have HX := Px.hid (show DrRep WX w1.heap.size s lim ⟨0, [], []⟩ (.slice none 0 0) (.slice none 0 0) ∧ Same w1 WX from by rw [hWX]; exact ⟨new_dr w1 s lim, (Same.refl w1).alloc _⟩)
  clear hWX a0 a1 a2 a3
  have hTX : ∀ w2, Fr (dfoot w1.heap.size (.slice none 0 0) (.slice none 0 0)) WX w2 → Tabs w2 := fun w2 h2 =>
    HI.out.2.2.1 w2 (HE.out.fr (Fr.trans (HX.out.2.mono (fun _ e => e.elim)) h2 (fun _ _ e => e)) (fun _ hk => Nat.le_of_eq (new_foot hk).symm)).same
  have HT := Px.hid hTX
  clear hTX
  go_wp2_with fail
  refine (read_any s lim HI.out.1 HI.out.2.1 w1.heap.size _ _ _ WX HX.out.1 (new_inv HI.out.2.1) HT.out m _ HI.out.2.2.2).mono ?_
  intro r w2 hpost
  unfold BegPost at hpost
  obtain ⟨rfl, F', ⟨zs, zo, hz, rfl⟩, hf, hfr⟩ := hpost
  have HF := Px.hid (HE.out.fr (Fr.trans (HX.out.2.mono (fun _ e => e.elim)) hf (fun _ _ e => e)) (fun _ hk => Nat.le_of_eq (new_foot hk).symm))
  have c5 := hz.cells.2.2.2.2.1
  have HZ := Px.hid (And.intro hz True.intro)
  clear hz hf hfr
  go_wp2_with fail
  refine (dwant_no _ y.at_ s lim _ _ _ _ HZ.out.1 e HW.out).mono ?_
  rintro r w3 ⟨rfl, hs3⟩
  have HF := Px.hid (HF.out.keep hs3)
  clear hs3
  unfold panics
  go_wp2
  refine leaves_cons (f := 58) (args := #[.pointer (some ⟨w.heap.size + 1, 0, none⟩), .pointer (some ⟨w.heap.size + 1 + 1, 0, none⟩), .pointer (some ⟨w.heap.size + 1 + 1 + 1, 0, none⟩)]) (by simp) (by simp [go_sem]) ?_
  refine (catch_flt (w.heap.size + 1) (w.heap.size + 1 + 1) (w.heap.size + 1 + 1 + 1) e _ _ _ [] _ (cellOf HF.out.v0 0 rfl) (cellOf HF.out.v1 0 rfl) (cellOf HF.out.v2 0 rfl) (freeOf HF.out.v0 0) (freeOf HF.out.v1 0) (freeOf HF.out.v2 0) (ltOf HF.out.v0) (ltOf HF.out.v1) (ltOf HF.out.v2) (by omega) (by omega) (by omega)).mono ?_
  rintro r u' w3 ⟨rfl, rfl, rfl⟩
  have hS := ((((HF.out.same.setCell (p := ⟨w.heap.size + 1, 0, none⟩) (.inr (by simp only; omega)) (.slice none 0 0)).setCell (p := ⟨w.heap.size + 1 + 1, 0, none⟩) (.inr (by simp only; omega)) (.int .i64 (e : D5.Flt).1)).setCell (p := ⟨w.heap.size + 1 + 1 + 1, 0, none⟩) (.inr (by simp only; omega)) (.int .i64 (e : D5.Flt).2)).alloc (.cells #[.int .i64 (e : D5.Flt).1, .int .i64 (e : D5.Flt).2] 103 (0, 0))).drew
  have HS := Px.hid hS
  have c0 := cellOf HF.out.v0 0 rfl
  have c1 := cellOf HF.out.v1 0 rfl
  have c2 := cellOf HF.out.v2 0 rfl
  have l0 := ltOf HF.out.v0
  have l1 := ltOf HF.out.v1
  have l2 := ltOf HF.out.v2
  clear hS
  simp [Leaves, settle, results, Tryz.results22, go_sem, c0, c1, c2, l0, l1, l2]
  exact HS.out
set_option maxRecDepth 100000 in
set_option maxHeartbeats 1000000 in
theorem decode_rest (s : Bytes) (lim : Lim) (hs : s.length ≤ 140737488355327) (hm : lim.may = true) (w : World) (hT : ∀ w2, Same w w2 → Tabs w2) (m : Nat) (y : D5.Dx) (hrun : D5.run s lim m = some (.ok y)) (hle : y.at_ < s.length) (c : Nat) (hw : D5.want s lim y.at_ = .ok c) :
    Calls Tryz.prog 22 #[S s, limV lim] w fun r w' => r = .returned (.tuple #[.slice none 0 0, .int .i64 (((y.at_ : Int), (9 : Int)) : D5.Flt).1, .int .i64 (((y.at_ : Int), (9 : Int)) : D5.Flt).2]) ∧ Same w w' := by
  have hmf : ∀ (fn : Fn) (first cap : Array Value) (w : World), (Instr.makeFunc fn first cap).run Tryz.prog w = .ok (.func fn first cap) w := fun _ _ _ _ => rfl
  have HI := Px.hid (And.intro hs (And.intro hm (And.intro hT hrun)))
  clear hs hT hrun
  have hsz : (ByteArray.mk s.toArray).size = s.length := size_S s
  have hle' : (y.at_ : Int) < (s.length : Int) := by omega
  have HW := Px.hid hw
  clear hle hw
  unfold limV
  go_enter_defers Tryz.func22, Tryz.ntmps22
  go_upto_region 1 with fail
  rw [show ((((w.alloc (.cells #[.int .i64 lim.d, .int .i64 lim.i, .int .i64 lim.b, .int .i64 lim.r] 23 (0, 0))).alloc (.cells #[.slice none 0 0] 47 (0, 0))).alloc (.cells #[.int .i64 0] 3 (0, 0))).alloc (.cells #[.int .i64 0] 28 (0, 0))) = World.dec w lim from rfl]
  have HD := Px.hid (dec_at w lim)
  have a0 := cellOf HD.out.lim 0 rfl
  have a1 := cellOf HD.out.lim 1 rfl
  have a2 := cellOf HD.out.lim 2 rfl
  have a3 := cellOf HD.out.lim 3 rfl
  go_wp2_with fail
  refine (derMay_any lim _).mono ?_
  rintro r w1 ⟨rfl, hsm⟩
  have HE := Px.hid (HD.out.keep hsm)
  clear a0 a1 a2 a3 hsm
  have a0 := cellOf HE.out.lim 0 rfl
  have a1 := cellOf HE.out.lim 1 rfl
  have a2 := cellOf HE.out.lim 2 rfl
  have a3 := cellOf HE.out.lim 3 rfl
  rw [hm]
  go_upto_region 5 with fail
  rw [show w1.alloc (.cells #[S s, .int .i64 lim.d, .int .i64 lim.i, .int .i64 lim.b, .int .i64 lim.r, .int .i64 0, .slice none 0 0, .slice none 0 0] 108 (0, 0)) = w1.alloc (.cells (drCells s lim 0 (.slice none 0 0) (.slice none 0 0)) 108 (0, 0)) from rfl]
  obtain ⟨WX, hWX⟩ : ∃ WX, WX = w1.alloc (.cells (drCells s lim 0 (.slice none 0 0) (.slice none 0 0)) 108 (0, 0)) := ⟨_, rfl⟩
  rw [← hWX]
  have HX := Px.hid (show DrRep WX w1.heap.size s lim ⟨0, [], []⟩ (.slice none 0 0) (.slice none 0 0) ∧ Same w1 WX from by rw [hWX]; exact ⟨new_dr w1 s lim, (Same.refl w1).alloc _⟩)
  clear hWX a0 a1 a2 a3
  have hTX : ∀ w2, Fr (dfoot w1.heap.size (.slice none 0 0) (.slice none 0 0)) WX w2 → Tabs w2 := fun w2 h2 =>
    HI.out.2.2.1 w2 (HE.out.fr (Fr.trans (HX.out.2.mono (fun _ e => e.elim)) h2 (fun _ _ e => e)) (fun _ hk => Nat.le_of_eq (new_foot hk).symm)).same
  have HT := Px.hid hTX
  clear hTX
  go_wp2_with fail
  refine (read_any s lim HI.out.1 HI.out.2.1 w1.heap.size _ _ _ WX HX.out.1 (new_inv HI.out.2.1) HT.out m _ HI.out.2.2.2).mono ?_
  intro r w2 hpost
  unfold BegPost at hpost
  obtain ⟨rfl, F', ⟨zs, zo, hz, rfl⟩, hf, hfr⟩ := hpost
  have HF := Px.hid (HE.out.fr (Fr.trans (HX.out.2.mono (fun _ e => e.elim)) hf (fun _ _ e => e)) (fun _ hk => Nat.le_of_eq (new_foot hk).symm))
  have c5 := hz.cells.2.2.2.2.1
  have HZ := Px.hid (And.intro hz True.intro)
  clear hz hf hfr
  go_wp2_with fail
  refine (dwant_yes _ y.at_ s lim _ _ _ _ HZ.out.1 c HW.out).mono ?_
  rintro r w3 ⟨rfl, hs3⟩
  have HF := Px.hid (HF.out.keep hs3)
  have HZ := Px.hid (And.intro (HZ.out.1.same hs3) True.intro)
  clear hs3 c5
  have c5 := HZ.out.1.cells.2.2.2.2.1
  go_wp2
  refine leaves_cons (f := 58) (args := #[.pointer (some ⟨w.heap.size + 1, 0, none⟩), .pointer (some ⟨w.heap.size + 1 + 1, 0, none⟩), .pointer (some ⟨w.heap.size + 1 + 1 + 1, 0, none⟩)]) (by simp) (by simp [go_sem]) ?_
  refine (catch_flt (w.heap.size + 1) (w.heap.size + 1 + 1) (w.heap.size + 1 + 1 + 1) ((y.at_ : Int), (9 : Int)) _ _ _ [] _ (cellOf HF.out.v0 0 rfl) (cellOf HF.out.v1 0 rfl) (cellOf HF.out.v2 0 rfl) (freeOf HF.out.v0 0) (freeOf HF.out.v1 0) (freeOf HF.out.v2 0) (ltOf HF.out.v0) (ltOf HF.out.v1) (ltOf HF.out.v2) (by omega) (by omega) (by omega)).mono ?_
  rintro r u' w3 ⟨rfl, rfl, rfl⟩
  have hS := ((((HF.out.same.setCell (p := ⟨w.heap.size + 1, 0, none⟩) (.inr (by simp only; omega)) (.slice none 0 0)).setCell (p := ⟨w.heap.size + 1 + 1, 0, none⟩) (.inr (by simp only; omega)) (.int .i64 (((y.at_ : Int), (9 : Int)) : D5.Flt).1)).setCell (p := ⟨w.heap.size + 1 + 1 + 1, 0, none⟩) (.inr (by simp only; omega)) (.int .i64 (((y.at_ : Int), (9 : Int)) : D5.Flt).2)).alloc (.cells #[.int .i64 (((y.at_ : Int), (9 : Int)) : D5.Flt).1, .int .i64 (((y.at_ : Int), (9 : Int)) : D5.Flt).2] 103 (0, 0))).drew
  have HS := Px.hid hS
  have c0 := cellOf HF.out.v0 0 rfl
  have c1 := cellOf HF.out.v1 0 rfl
  have c2 := cellOf HF.out.v2 0 rfl
  have l0 := ltOf HF.out.v0
  have l1 := ltOf HF.out.v1
  have l2 := ltOf HF.out.v2
  clear hS
  simp [Leaves, settle, results, Tryz.results22, go_sem, c0, c1, c2, l0, l1, l2]
  exact HS.out
end Go.Proofs.YtpfhollohodcjaaGreatDoor
