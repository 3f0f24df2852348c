/-
  The walk over the program's der.Decode where the text is read whole.
-/
import Derived.Test.YtceffhkgnifmeaaDoorDuV
namespace Go.Proofs.YtceffhkgnifmeaaDoor
open Go.RowKit Go.Px

set_option maxRecDepth 100000 in
set_option maxHeartbeats 1000000 in
theorem decode_ok (s : Bytes) (lim : Lim) (hs : s.length ≤ 140737488355327) (hm : lim.may = true) (w : World) (hT : ∀ w2, Same w w2 → Tabs w2) (m : Nat) (y : D5.Dx) (hrun : D5.run s lim m = some (.ok y)) (hle : ¬ y.at_ < s.length) :
    Calls Tryd.prog 14 #[S s, limV lim] w fun r w' => ∃ vo, r = .returned (.tuple #[vo, .int .i64 0, .int .i64 0]) ∧ Owns w' 63 3 cNode vo y.out ∧ Same w w' ∧ ∀ g, vo.ownBlock = some g → w.heap.size ≤ g := by
  have hmf : ∀ (fn : Fn) (first cap : Array Value) (w : World), (Instr.makeFunc fn first cap).run Tryd.prog w = .ok (.func fn first cap) w := fun _ _ _ _ => rfl
  have HI := Px.hid (And.intro hs (And.intro hm (And.intro hT hrun)))
  clear hs hT hrun
  have hsz : (ByteArray.mk s.toArray).size = s.length := size_S s
  have hle' : ¬ (y.at_ : Int) < (s.length : Int) := by omega
  clear hle
  unfold limV
  go_enter_defers Tryd.func14, Tryd.ntmps14
  go_upto_region 1 with fail
  rw [show ((((w.alloc (.cells #[.int .i64 lim.d, .int .i64 lim.i, .int .i64 lim.b, .int .i64 lim.r] 23 (0, 0))).alloc (.cells #[.slice none 0 0] 25 (0, 0))).alloc (.cells #[.int .i64 0] 3 (0, 0))).alloc (.cells #[.int .i64 0] 26 (0, 0))) = World.dec w lim from rfl]
  have HD := Px.hid (dec_at w lim)
  have a0 := cellOf HD.out.lim 0 rfl
  have a1 := cellOf HD.out.lim 1 rfl
  have a2 := cellOf HD.out.lim 2 rfl
  have a3 := cellOf HD.out.lim 3 rfl
  go_wp2_with fail
  refine (derMay_any lim _).mono ?_
  rintro r w1 ⟨rfl, hsm⟩
  have HE := Px.hid (HD.out.keep hsm)
  clear a0 a1 a2 a3 hsm
  have a0 := cellOf HE.out.lim 0 rfl
  have a1 := cellOf HE.out.lim 1 rfl
  have a2 := cellOf HE.out.lim 2 rfl
  have a3 := cellOf HE.out.lim 3 rfl
  rw [hm]
  go_upto_region 5 with fail
  rw [show w1.alloc (.cells #[S s, .int .i64 lim.d, .int .i64 lim.i, .int .i64 lim.b, .int .i64 lim.r, .int .i64 0, .slice none 0 0, .slice none 0 0] 70 (0, 0)) = w1.alloc (.cells (drCells s lim 0 (.slice none 0 0) (.slice none 0 0)) 70 (0, 0)) from rfl]
  obtain ⟨WX, hWX⟩ : ∃ WX, WX = w1.alloc (.cells (drCells s lim 0 (.slice none 0 0) (.slice none 0 0)) 70 (0, 0)) := ⟨_, rfl⟩
  rw [← hWX]
  have HX := Px.hid (show DrRep WX w1.heap.size s lim ⟨0, [], []⟩ (.slice none 0 0) (.slice none 0 0) ∧ Same w1 WX from by rw [hWX]; exact ⟨new_dr w1 s lim, (Same.refl w1).alloc _⟩)
  clear hWX a0 a1 a2 a3
  have hTX : ∀ w2, Fr (dfoot w1.heap.size (.slice none 0 0) (.slice none 0 0)) WX w2 → Tabs w2 := fun w2 h2 =>
    HI.out.2.2.1 w2 (HE.out.fr (Fr.trans (HX.out.2.mono (fun _ e => e.elim)) h2 (fun _ _ e => e)) (fun _ hk => Nat.le_of_eq (new_foot hk).symm)).same
  have HT := Px.hid hTX
  clear hTX
  go_wp2_with fail
  refine (read_any s lim HI.out.1 HI.out.2.1 w1.heap.size _ _ _ WX HX.out.1 (new_inv HI.out.2.1) HT.out m _ HI.out.2.2.2).mono ?_
  intro r w2 hpost
  unfold BegPost at hpost
  obtain ⟨rfl, F', ⟨zs, zo, hz, rfl⟩, hf, hfr⟩ := hpost
  obtain ⟨oa, oc, rfl, _⟩ := hz.out.len
  have hD2 := HE.out.fr (Fr.trans (HX.out.2.mono (fun _ e => e.elim)) hf (fun _ _ e => e)) (fun _ hk => Nat.le_of_eq (new_foot hk).symm)
  have hzo : ∀ g, (Value.slice oa y.out.length oc).ownBlock = some g → w.heap.size + 1 + 1 + 1 < g := fun g hg => by
    have h3 := ltOf HE.out.v2
    rcases hfr g (.inr (.inr hg)) with e | e
    · have := new_foot e; omega
    · have := HX.out.2.size; omega
  have c5 := hz.cells.2.2.2.2.1
  have c7 := hz.cells.2.2.2.2.2.2
  have c0 := cellOf hD2.v0 0 rfl
  have c1 := cellOf hD2.v1 0 rfl
  have c2 := cellOf hD2.v2 0 rfl
  have f0 := freeOf hD2.v0 0
  have f1 := freeOf hD2.v1 0
  have f2 := freeOf hD2.v2 0
  have l0 := ltOf hD2.v0
  have l1 := ltOf hD2.v1
  have l2 := ltOf hD2.v2
  have HZ := Px.hid (And.intro hz (And.intro hD2 hzo))
  clear hz hf hfr hD2 hzo
  go_wp2
  refine leaves_cons (f := 29) (args := #[.pointer (some ⟨w.heap.size + 1, 0, none⟩), .pointer (some ⟨w.heap.size + 1 + 1, 0, none⟩), .pointer (some ⟨w.heap.size + 1 + 1 + 1, 0, none⟩)]) (by simp) (by simp [go_sem]) ?_
  refine (catch_idle ⟨w.heap.size + 1, 0, none⟩ ⟨w.heap.size + 1 + 1, 0, none⟩ ⟨w.heap.size + 1 + 1 + 1, 0, none⟩ _).mono ?_
  rintro r u' w3 ⟨rfl, rfl, rfl⟩
  have hS := ((HZ.out.2.1.same.setCell (p := ⟨w.heap.size + 1, 0, none⟩) (.inr (by simp only; omega)) (.slice oa y.out.length oc)).setCell (p := ⟨w.heap.size + 1 + 1, 0, none⟩) (.inr (by simp only; omega)) (.int .i64 0)).setCell (p := ⟨w.heap.size + 1 + 1 + 1, 0, none⟩) (.inr (by simp only; omega)) (.int .i64 0)
  have hO := ((HZ.out.1.out.setCell (p := ⟨w.heap.size + 1, 0, none⟩) (fun e => by have := HZ.out.2.2 _ e; simp only at this; omega) (.slice oa y.out.length oc)).setCell (p := ⟨w.heap.size + 1 + 1, 0, none⟩) (fun e => by have := HZ.out.2.2 _ e; simp only at this; omega) (.int .i64 0)).setCell (p := ⟨w.heap.size + 1 + 1 + 1, 0, none⟩) (fun e => by have := HZ.out.2.2 _ e; simp only at this; omega) (.int .i64 0)
  have HS := Px.hid (And.intro hO hS)
  clear hS hO
  simp only [settle, Leaves]
  exact ⟨.tuple #[.slice oa y.out.length oc, .int .i64 0, .int .i64 0], by simp [results, Tryd.results14, go_sem, c0, c1, c2], _, rfl, HS.out.1, HS.out.2, fun g hg => by have := HZ.out.2.2 g hg; omega⟩
end Go.Proofs.YtceffhkgnifmeaaDoor
