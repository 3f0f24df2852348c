/-
  The walk over the program's der.Decode where the limits may be.
-/
import Derived.Test.YtceffhkgnifmeaaDoorDtV
namespace Go.Proofs.YtceffhkgnifmeaaDoor
open Go.RowKit Go.Px

theorem new_dr (w : World) (s : Bytes) (lim : Lim) : DrRep (w.alloc (.cells (drCells s lim 0 (.slice none 0 0) (.slice none 0 0)) 70 (0, 0))) w.heap.size s lim ⟨0, [], []⟩ (.slice none 0 0) (.slice none 0 0) :=
  ⟨heap_alloc_new w _, owns_nil _ _ _ _, owns_nil _ _ _ _, nofun, nofun, nofun⟩
theorem new_foot {w : World} {k : Nat} (h : dfoot w.heap.size (.slice none 0 0) (.slice none 0 0) k) : k = w.heap.size := by
  rcases h with e | e | e
  · exact e
  · cases e
  · cases e
theorem new_inv {s : Bytes} {lim : Lim} (hm : lim.may = true) : RInv s lim ⟨0, [], []⟩ := by
  obtain ⟨_, _, _, _, _, _, _, _⟩ := may_parts hm
  exact ⟨nofun, by show ((0 : Nat) : Int) ≤ lim.d; omega, by show ((0 : Nat) : Int) ≤ lim.i; omega, Nat.zero_le _, by show ((0 : Nat) : Int) ≤ lim.b; omega, nofun⟩
theorem DecAt.fr {w w1 w2 : World} {lim : Lim} {v0 v1 v2 : Value} {F : Nat → Prop} (h : DecAt w w1 lim v0 v1 v2) (hs : Fr F w1 w2) (hF : ∀ k, F k → w1.heap.size ≤ k) : DecAt w w2 lim v0 v1 v2 :=
  have hn : ∀ k, k < w1.heap.size → ¬ F k := fun k hk e => by have := hF k e; omega
  ⟨(hs.block _ (ltOf h.lim) (hn _ (ltOf h.lim))).trans h.lim, (hs.block _ (ltOf h.v0) (hn _ (ltOf h.v0))).trans h.v0, (hs.block _ (ltOf h.v1) (hn _ (ltOf h.v1))).trans h.v1, (hs.block _ (ltOf h.v2) (hn _ (ltOf h.v2))).trans h.v2, Fr.trans h.same hs (fun k hk e => by have := hF k e; have := h.same.size; omega)⟩
set_option maxRecDepth 100000 in
set_option maxHeartbeats 1000000 in
theorem decode_err (s : Bytes) (lim : Lim) (hs : s.length ≤ 140737488355327) (hm : lim.may = true) (w : World) (hT : ∀ w2, Same w w2 → Tabs w2) (m : Nat) (e : D5.Flt) (hrun : D5.run s lim m = some (.error e)) :
    Calls Tryd.prog 14 #[S s, limV lim] w fun r w' => r = .returned (.tuple #[.slice none 0 0, .int .i64 e.1, .int .i64 e.2]) ∧ Same w w' := by
  have hmf : ∀ (fn : Fn) (first cap : Array Value) (w : World), (Instr.makeFunc fn first cap).run Tryd.prog w = .ok (.func fn first cap) w := fun _ _ _ _ => rfl
  have HI := Px.hid (And.intro hs (And.intro hm (And.intro hT hrun)))
  clear hs hT hrun
  unfold limV
  go_enter_defers Tryd.func14, Tryd.ntmps14
  go_upto_region 1 with fail
  rw [show ((((w.alloc (.cells #[.int .i64 lim.d, .int .i64 lim.i, .int .i64 lim.b, .int .i64 lim.r] 23 (0, 0))).alloc (.cells #[.slice none 0 0] 25 (0, 0))).alloc (.cells #[.int .i64 0] 3 (0, 0))).alloc (.cells #[.int .i64 0] 26 (0, 0))) = World.dec w lim from rfl]
  have HD := Px.hid (dec_at w lim)
  have a0 := cellOf HD.out.lim 0 rfl
  have a1 := cellOf HD.out.lim 1 rfl
  have a2 := cellOf HD.out.lim 2 rfl
  have a3 := cellOf HD.out.lim 3 rfl
  go_wp2_with fail
  refine (derMay_any lim _).mono ?_
  rintro r w1 ⟨rfl, hsm⟩
  have HE := Px.hid (HD.out.keep hsm)
  clear a0 a1 a2 a3 hsm
  have a0 := cellOf HE.out.lim 0 rfl
  have a1 := cellOf HE.out.lim 1 rfl
  have a2 := cellOf HE.out.lim 2 rfl
  have a3 := cellOf HE.out.lim 3 rfl
  rw [hm]
  go_upto_region 5 with fail
  rw [show w1.alloc (.cells #[S s, .int .i64 lim.d, .int .i64 lim.i, .int .i64 lim.b, .int .i64 lim.r, .int .i64 0, .slice none 0 0, .slice none 0 0] 70 (0, 0)) = w1.alloc (.cells (drCells s lim 0 (.slice none 0 0) (.slice none 0 0)) 70 (0, 0)) from rfl]
  obtain ⟨WX, hWX⟩ : ∃ WX, WX = w1.alloc (.cells (drCells s lim 0 (.slice none 0 0) (.slice none 0 0)) 70 (0, 0)) := ⟨_, rfl⟩
  rw [← hWX]
  have HX := Px.hid (show DrRep WX w1.heap.size s lim ⟨0, [], []⟩ (.slice none 0 0) (.slice none 0 0) ∧ Same w1 WX from by rw [hWX]; exact ⟨new_dr w1 s lim, (Same.refl w1).alloc _⟩)
  clear hWX a0 a1 a2 a3
  have hTX : ∀ w2, Fr (dfoot w1.heap.size (.slice none 0 0) (.slice none 0 0)) WX w2 → Tabs w2 := fun w2 h2 =>
    HI.out.2.2.1 w2 (HE.out.fr (Fr.trans (HX.out.2.mono (fun _ e => e.elim)) h2 (fun _ _ e => e)) (fun _ hk => Nat.le_of_eq (new_foot hk).symm)).same
  have HT := Px.hid hTX
  clear hTX
  go_wp2_with fail
  refine (read_any s lim HI.out.1 HI.out.2.1 w1.heap.size _ _ _ WX HX.out.1 (new_inv HI.out.2.1) HT.out m _ HI.out.2.2.2).mono ?_
  intro r w2 hpost
  unfold BegPost at hpost
  obtain ⟨rfl, hf⟩ := hpost
  have HF := Px.hid (HE.out.fr (Fr.trans (HX.out.2.mono (fun _ e => e.elim)) hf (fun _ _ e => e)) (fun _ hk => Nat.le_of_eq (new_foot hk).symm))
  clear hf
  unfold panics
  go_wp2
  refine leaves_cons (f := 29) (args := #[.pointer (some ⟨w.heap.size + 1, 0, none⟩), .pointer (some ⟨w.heap.size + 1 + 1, 0, none⟩), .pointer (some ⟨w.heap.size + 1 + 1 + 1, 0, none⟩)]) (by simp) (by simp [go_sem]) ?_
  refine (catch_flt (w.heap.size + 1) (w.heap.size + 1 + 1) (w.heap.size + 1 + 1 + 1) e _ _ _ [] w2 (cellOf HF.out.v0 0 rfl) (cellOf HF.out.v1 0 rfl) (cellOf HF.out.v2 0 rfl) (freeOf HF.out.v0 0) (freeOf HF.out.v1 0) (freeOf HF.out.v2 0) (ltOf HF.out.v0) (ltOf HF.out.v1) (ltOf HF.out.v2) (by omega) (by omega) (by omega)).mono ?_
  rintro r u' w3 ⟨rfl, rfl, rfl⟩
  have hS := ((((HF.out.same.setCell (p := ⟨w.heap.size + 1, 0, none⟩) (.inr (by simp only; omega)) (.slice none 0 0)).setCell (p := ⟨w.heap.size + 1 + 1, 0, none⟩) (.inr (by simp only; omega)) (.int .i64 e.1)).setCell (p := ⟨w.heap.size + 1 + 1 + 1, 0, none⟩) (.inr (by simp only; omega)) (.int .i64 e.2)).alloc (.cells #[.int .i64 e.1, .int .i64 e.2] 65 (0, 0))).drew
  have HS := Px.hid hS
  have c0 := cellOf HF.out.v0 0 rfl
  have c1 := cellOf HF.out.v1 0 rfl
  have c2 := cellOf HF.out.v2 0 rfl
  have l0 := ltOf HF.out.v0
  have l1 := ltOf HF.out.v1
  have l2 := ltOf HF.out.v2
  clear hS
  simp [Leaves, settle, results, Tryd.results14, go_sem, c0, c1, c2, l0, l1, l2]
  exact HS.out
end Go.Proofs.YtceffhkgnifmeaaDoor
