/-
  Several texts in one: The walks over cms.behind and over the cursor's any (layer 23).
-/
import Derived.Test.YtpfhollohodcjaaGreatDoorYI
/-! The walks over cms.behind and over the cursor's any (layer 23). -/
namespace Go.Px.E5
theorem cnt_le {L : List Node} : ∀ {f left p q : Nat}, cnt L f left p = some q → left ≠ 0 → left + p ≤ L.length ∧ f ≠ 0
  | 0, _, _, _, h, _ => by cases h
  | f + 1, left, p, q, h, h0 => by
    rw [cnt, if_neg h0] at h
    cases e : L[p]? with
    | none => rw [e] at h; cases h
    | some a =>
      rw [e] at h
      have hp := (List.getElem?_eq_some_iff.1 e).1
      by_cases h1 : left + a.kids.toNat - 1 = 0
      · exact ⟨by omega, by omega⟩
      · have := (cnt_le (f := f) (left := left + a.kids.toNat - 1) (p := p + 1) h h1).1
        exact ⟨by omega, by omega⟩
end Go.Px.E5
namespace Go.Proofs.YtpfhollohodcjaaGreatDoor
open Go.RowKit Go.Px Go.Px.Co Go.Px.Cm
theorem lies_el {w : World} {va : Value} {L : List Px.Node} (h : Lies w 3 cNode va L) {i : Nat} {a : Px.Node} (hi : L[i]? = some a) : ∃ vb off cap, va = .slice (some ⟨vb, off, none⟩) L.length cap ∧ vb < w.heap.size ∧ w.cell? ⟨vb, off + i * 3, none⟩ = some (.int .u8 (a.tag.toNat : Nat)) ∧ w.cell? ⟨vb, off + i * 3 + 1, none⟩ = some (.int .i64 a.kids) := by
  obtain ⟨vb, off, cap, e1, e2, e3⟩ := h.cell i a hi
  refine ⟨vb, off, cap, e1, e2, ?_, ?_⟩
  · have := e3 0 _ rfl
    rwa [Nat.add_zero] at this
  · have := e3 1 _ rfl
    rwa [← Nat.add_assoc] at this
set_option maxRecDepth 100000 in
set_option maxHeartbeats 4000000 in
theorem cbehind_any (va : Value) (L : List Px.Node) (p q f : Nat) (w : World) (h : Lies w 3 cNode va L) (hL : L.length ≤ 4096) (hc : E5.cnt L f 1 p = some q) :
    Calls Tryz.prog 144 #[va, .int .i64 (p : Nat)] w fun e w' => e = .returned (.int .i64 (q : Nat)) ∧ w = w' := by
  have HC := Px.hid hc
  have H := Px.hid (And.intro h hL)
  obtain ⟨hp1, _⟩ := E5.cnt_le hc (by omega)
  have HP := Px.hid hp1
  clear hc h hL hp1
  go_enter Tryz.func144, Tryz.ntmps144
  go_wp2_with fail
  go_loopw [1, 5] (fun pp ll wr => ∃ (g left i : Nat), pp = .int .i64 (i : Nat) ∧ ll = .int .i64 (left : Nat) ∧ Hid (E5.cnt L g left i = some q) ∧ left ≤ 5000 ∧ i ≤ 5000 ∧ w = wr) (fun pp _ _ => 5001 - (intOf pp).toNat)
  case atStart =>
    exact ⟨f, 1, p, rfl, rfl, HC, by omega, by have := HP.out; have := H.out.2; omega, rfl⟩
  case round =>
    obtain ⟨g, left, i, rfl, rfl, hg, hl5, hi5, rfl⟩ := hrel
    by_cases h0 : left = 0
    · subst h0
      have hq : i = q := by
        have := hg.out
        cases g with
        | zero => cases this
        | succ g =>
          rw [E5.cnt, if_pos rfl] at this
          exact Option.some.inj this
      subst hq
      clear hg hl5 hi5
      go_wp2
      go_ret
      exact ⟨rfl, rfl⟩
    · obtain ⟨hle, hg0⟩ := E5.cnt_le hg.out h0
      obtain ⟨g, rfl⟩ : ∃ g', g = g' + 1 := ⟨g - 1, by omega⟩
      have hi : i < L.length := by omega
      have hle2 := H.out.2
      obtain ⟨vb, off, cap, rfl, hvb, x0, x1⟩ := lies_el H.out.1 (List.getElem?_eq_getElem hi)
      obtain ⟨a, ha⟩ : ∃ a, a = L[i] := ⟨_, rfl⟩
      rw [← ha] at x0 x1
      have hn : E5.cnt L g (left + a.kids.toNat - 1) (i + 1) = some q := by
        have := hg.out
        rw [E5.cnt, if_neg h0, List.getElem?_eq_getElem hi, ← ha] at this
        exact this
      have hk5 : left + a.kids.toNat - 1 ≤ 5000 := by
        by_cases h1 : left + a.kids.toNat - 1 = 0
        · omega
        · have := (E5.cnt_le hn h1).1
          omega
      have HN := Px.hid hn
      obtain ⟨kk, hkk⟩ : ∃ kk, kk = a.kids := ⟨_, rfl⟩
      rw [← hkk] at x1 hk5
      have HKK := Px.hid hkk
      have hmx : max kk 0 = (kk.toNat : Int) := by omega
      obtain ⟨n, hnn⟩ : ∃ n : Nat, n = kk.toNat := ⟨_, rfl⟩
      rw [← hnn] at hmx hk5
      have HNN := Px.hid hnn
      have hltz : (i : Int) < (L.length : Int) := by omega
      have hlz : (0 : Int) < (left : Int) := by omega
      clear hg hn hkk hnn ha hi hle h0 hg0
      go_wp2
      refine ⟨⟨g, left + n - 1, i + 1, rfl, ?_, Px.hid (by rw [HNN.out, HKK.out]; exact HN.out), hk5, by omega, trivial⟩, ?_⟩
      · rw [show ((left + n - 1 : Nat) : Int) = (left : Int) + (n : Int) - 1 by omega]
      · show 5001 - (((i : Nat) : Int) + 1).toNat < 5001 - ((i : Nat) : Int).toNat
        omega
/-- The next element, and all in it, are taken. -/
theorem CuRep.skip {T : TypeId} {rs : List Value} {w : World} {b : Nat} {va : Value} {L : List Px.Node} {k : Cu} {n : Nat} {r : List Nat} {g cap : Nat} (h : CuRep T rs w b va L k (.slice (some ⟨g, 0, none⟩) (r.length + 1) cap)) (hk : k.left = (n + 1) :: r) (y : Nat) :
    CuRep T rs ((w.setCell ⟨g, r.length, none⟩ (.int .i64 (n : Nat))).setCell ⟨b, 1, none⟩ (.int .i64 ((y : Nat) : Int))) b va L ⟨y, n :: r⟩ (.slice (some ⟨g, 0, none⟩) (r.length + 1) cap) := by
  have hgb : ¬ b = g := fun e => h.lb g rfl (by rw [e])
  have hva : ∀ q, va.ownBlock = some q → ¬ (q = g ∨ q = b) := by
    rintro q hq (e | e)
    · exact h.al q hq (by rw [e]; rfl)
    · exact h.ab q hq (by rw [e])
  refine ⟨?_, ?_, h.lb, ?_, h.ab, h.al, by simp, h.wf, fun q e => by simpa [World.setCell] using h.al2 q e⟩
  · have q := (h.blk.other (p := ⟨g, r.length, none⟩) (.int .i64 (n : Nat)) hgb).set 1 (.int .i64 ((y : Nat) : Int))
    rw [show (cuCells va (.slice (some ⟨g, 0, none⟩) (r.length + 1) cap) k.at_ rs).setIfInBounds 1 (.int .i64 ((y : Nat) : Int)) = cuCells va (.slice (some ⟨g, 0, none⟩) (r.length + 1) cap) y rs by simp [cuCells]] at q
    exact q
  · have h' := h.own
    rw [hk, List.reverse_cons, ← @List.length_reverse _ r] at h'
    have q := h'.setLast (b := n) cNum_len 0 (.int .i64 (n : Nat)) rfl
    rw [List.length_reverse, Nat.mul_one, Nat.add_zero] at q
    rw [show (⟨y, n :: r⟩ : Cu).left.reverse = r.reverse ++ [n] from List.reverse_cons]
    exact q.setCell (p := ⟨b, 1, none⟩) h.lb.ne _
  · exact Lies.keepF (F := fun q => q = g ∨ q = b) h.lies (((Fr.refl _ w).setCell (p := ⟨g, r.length, none⟩) (.inl (.inl rfl)) _).setCell (p := ⟨b, 1, none⟩) (.inl (.inr rfl)) _) hva
set_option maxRecDepth 100000 in
set_option maxHeartbeats 4000000 in
theorem cany_any (b : Nat) (va : Value) (L : List Px.Node) (lim : Lim) (k : Cu) (F : Nat → Prop) (n : Nat) (r : List Nat) (w : World) (h : CuAt w b va L lim k F) (hf : Fits L k) (hk : k.left = (n + 1) :: r) :
    Calls Tryz.prog 114 #[.pointer (some ⟨b, 0, none⟩)] w fun e w' => e = .returned (.tuple #[]) ∧ CuAt w' b va L lim ⟨nx L k.at_, n :: r⟩ F ∧ Fr F w w' := by
  obtain ⟨vl, hrep, rfl⟩ := h
  have hst := hf.2
  rw [hk] at hst
  obtain ⟨x, y, o, q, hx1, hx2, _⟩ := stk_next hst
  have hnx := nx_of hx2 hx1
  have hcnt := hx2.cnt hx1
  rw [← hnx] at hcnt
  obtain ⟨n1, r1, g, cap, hk1, rfl, hc1, hc2, t0, tf, hg⟩ := hrep.top
  rw [hk] at hk1
  simp only [List.cons.injEq] at hk1
  obtain ⟨rfl, rfl⟩ := hk1
  obtain ⟨c0, c1, c2⟩ := hrep.cells
  have fb := hrep.free 1
  have hgb : ¬ b = g := fun e => hrep.lb g rfl (by rw [e])
  have hgb2 : ¬ g = b := fun e => hgb e.symm
  have hbl := hrep.lt
  unfold maxLen at hc2
  have hnl := fits_le hf hk
  have hL := hrep.wf.1
  have hn5 : (n : Int) + 1 ≤ 5000 := by omega
  have hgF : cuFoot b (.slice (some ⟨g, 0, none⟩) (r.length + 1) cap) g := .inr rfl
  have hva : ∀ q, va.ownBlock = some q → ¬ cuFoot b (.slice (some ⟨g, 0, none⟩) (r.length + 1) cap) q := fun q hq e => e.elim (fun e => hrep.ab q hq (by rw [e])) (fun e => hrep.al q hq e)
  have HB := Px.hid (fun W (hW : Fr (cuFoot b (.slice (some ⟨g, 0, none⟩) (r.length + 1) cap)) w W) => cbehind_any va L k.at_ (nx L k.at_) _ W (Lies.keepF hrep.lies hW hva) hL hcnt)
  have HF := Px.hid (show Fr (cuFoot b (.slice (some ⟨g, 0, none⟩) (r.length + 1) cap)) w (w.drew.setCell ⟨g, r.length, none⟩ (.int .i64 (n : Nat))).drew from ((Fr.drew (Fr.refl _ w)).setCell (p := ⟨g, r.length, none⟩) (.inl hgF) _).drew)
  obtain ⟨a, ha⟩ : ∃ a, a = k.at_ := ⟨_, rfl⟩
  obtain ⟨z, hz⟩ : ∃ z, z = nx L k.at_ := ⟨_, rfl⟩
  have HSK := Px.hid (And.intro (hrep.skip hk z) hva)
  have HA := Px.hid (And.intro ha hz)
  rw [← ha] at c1
  rw [← hz, ← ha] at HB
  rw [← hz]
  clear hrep hst hx1 hx2 hnx hcnt hf hk hnl hL hgF hva ha hz
  go_enter Tryz.func114, Tryz.ntmps114
  go_wp2_with fail
  go_region
  go_wp2_with fail
  go_region_with (go_at_call 144; refine (HB.out _ HF.out).mono ?_; rintro e wa ⟨rfl, rfl⟩)
  all_goals
    go_wp2
    go_end0
    exact ⟨rfl, ⟨_, HSK.out.1.fr (F := fun _ => False) (Fr.drew (Fr.drew (Fr.refl _ _))) (fun _ _ => id) (fun _ _ => id), rfl⟩, Fr.drew (Fr.drew (Fr.setCell (Fr.setCell (Fr.refl _ w) (p := ⟨g, r.length, none⟩) (.inl (.inr rfl)) _) (p := ⟨b, 1, none⟩) (.inl (.inl rfl)) _))⟩
end Go.Proofs.YtpfhollohodcjaaGreatDoor
