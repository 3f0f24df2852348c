/-
  The walks over the reference's Same (layer 17) and the statements' read (layer 20).
-/
import Derived.Test.YtclbbfmpkhfigaaDoorRv
namespace Go.Proofs.YtclbbfmpkhfigaaDoor
open Go.RowKit Go.Px Go.Px.R7

set_option maxRecDepth 100000 in
set_option maxHeartbeats 2000000 in
theorem same_any (w : World) (va vb : Value) (l : List Atom) (ha : Owns w 72 3 cAtom va l) (hb : Owns w 72 3 cAtom vb l) :
    Calls Tryd.prog 20 #[va, vb] w fun r w' => r = .returned (.bool true) ∧ Same w w' := by
  obtain ⟨aa, ac, hva, hac1, hac2, _⟩ := ha.len
  obtain ⟨ba, bc, hvb, _, _, _⟩ := hb.len
  subst hva hvb
  have HA := Px.hid (And.intro ha hb)
  have hlm : l.length ≤ maxLen := Nat.le_trans hac1 hac2
  unfold maxLen at hlm
  clear ha hb hac1 hac2
  go_enter Tryd.func20, Tryd.ntmps20
  go_wp2
  go_loopw [5] (fun i wr => ∃ k : Nat, k ≤ l.length ∧ i = .int .i64 (k : Nat) ∧ Same w wr) (fun i _ => l.length - (intOf i).toNat)
  case atStart => exact ⟨0, Nat.zero_le _, rfl, Same.refl w⟩
  case round =>
    obtain ⟨k, hk, rfl, hs⟩ := hrel
    by_cases hlt : k < l.length
    · have hltz : (k : Int) < (l.length : Int) := by omega
      obtain ⟨g1, p1, e1, _, _, c1, _⟩ := (Owns.same HA.out.1 hs).at cAtom_len (j := k) (a := l[k]) (by simp [hlt])
      obtain ⟨g2, p2, e2, _, _, c2, _⟩ := (Owns.same HA.out.2 hs).at cAtom_len (j := k) (a := l[k]) (by simp [hlt])
      simp only [Value.slice.injEq, true_and] at e1 e2
      obtain ⟨rfl, rfl⟩ := e1
      obtain ⟨rfl, rfl⟩ := e2
      have x0 := c1 0 _ rfl
      have x1 := c1 1 _ rfl
      have x2 := c1 2 _ rfl
      have y0 := c2 0 _ rfl
      have y1 := c2 1 _ rfl
      have y2 := c2 2 _ rfl
      have HS := Px.hid hs
      clear c1 c2 hs HA
      obtain ⟨kd, hkd⟩ : ∃ kd, kd = l[k].kind := ⟨_, rfl⟩
      obtain ⟨nm, hnm⟩ : ∃ nm, nm = l[k].num := ⟨_, rfl⟩
      obtain ⟨tx, htx⟩ : ∃ tx, tx = l[k].text := ⟨_, rfl⟩
      rw [← hkd] at x0 y0
      rw [← hnm] at x1 y1
      rw [← htx] at x2 y2
      clear hkd hnm htx
      rw [Nat.add_zero] at x0 y0
      go_wp2_with fail
      go_quiet (fail)
      go_wp2
      go_roundw
      case rel => exact ⟨k + 1, by omega, by go_num, (HS.out.drewN nq)⟩
      case measure => simp [intOf]; omega
    · have hltz : ¬ (k : Int) < (l.length : Int) := by omega
      have HS := Px.hid hs
      clear hs
      go_wp2
      go_ret
      exact ⟨rfl, HS.out⟩

/-- What the statements' read hands back. -/
def readV (v : Value) (x : St) : Value := .tuple #[v, .int .i64 x.place, .int .i64 x.err, .int .i64 (x.taken : Nat), .int .i64 (x.frames : Nat), .int .i64 (if x.ended then 0 else x.err)]
set_option maxRecDepth 100000 in
set_option maxHeartbeats 2000000 in
theorem lawread_any (s : Bytes) (lim : Lim) (w : World) (hm : lim.may = true) (hs : s.length ≤ 140737488355327) :
    Calls Tryd.prog 18 #[S s, limV lim] w fun r w' => ∃ v, r = .returned (readV v (R7.read s lim)) ∧ Owns w' 72 3 cAtom v (R7.list (R7.read s lim)) ∧ Same w w' := by
  have HM := Px.hid (And.intro hm hs)
  clear hm hs
  unfold limV
  go_enter Tryd.func18, Tryd.ntmps18
  go_wp2_with fail
  refine (read17_any s lim _ HM.out.1 HM.out.2).mono ?_
  rintro e w1 ⟨v, rfl, hv, hs, hvf⟩
  have HV := Px.hid (And.intro hv (And.intro (Same.trans ((Fr.refl (fun _ => False) w).alloc _) hs) hvf))
  clear hv hs hvf
  obtain ⟨x, hx⟩ : ∃ x, x = R7.read s lim := ⟨_, rfl⟩
  rw [← hx] at HV ⊢
  have HX := Px.hid hx
  clear hx
  unfold rdV
  cases he : x.ended
  · have HR := Px.hid (show readV v x = .tuple #[v, .int .i64 x.place, .int .i64 x.err, .int .i64 (x.taken : Nat), .int .i64 (x.frames : Nat), .int .i64 x.err] by unfold readV; rw [he]; rfl)
    clear he
    go_wp2_with fail
    go_quiet (fail)
    go_wp2
    refine bodyPost_ret (v := .tuple #[v, .int .i64 x.place, .int .i64 x.err, .int .i64 (x.taken : Nat), .int .i64 (x.frames : Nat), .int .i64 x.err]) (by simp [results, Tryd.results18, go_sem]) rfl ?_
    rw [← HX.out]
    refine ⟨v, congrArg Ending.returned HR.out.symm, ?_⟩
    exact ⟨(HV.out.1.alloc _).drewN nq, (HV.out.2.1.alloc _).drewN nq⟩
  · have HR := Px.hid (show readV v x = .tuple #[v, .int .i64 x.place, .int .i64 x.err, .int .i64 (x.taken : Nat), .int .i64 (x.frames : Nat), .int .i64 0] by unfold readV; rw [he]; rfl)
    clear he
    go_wp2_with fail
    go_quiet (fail)
    go_wp2
    refine bodyPost_ret (v := .tuple #[v, .int .i64 x.place, .int .i64 x.err, .int .i64 (x.taken : Nat), .int .i64 (x.frames : Nat), .int .i64 0]) (by simp [results, Tryd.results18, go_sem]) rfl ?_
    rw [← HX.out]
    refine ⟨v, congrArg Ending.returned HR.out.symm, ?_⟩
    exact ⟨(HV.out.1.alloc _).drewN nq, (HV.out.2.1.alloc _).drewN nq⟩
end Go.Proofs.YtclbbfmpkhfigaaDoor
