/-
  Several texts in one: A recipient in memory while it is read; the walk over the first closure of wrapped (layer 23). The walks over the second closure of wrapped, and wrapped (layer 23).
-/
import Derived.Test.YtpfhollohodcjaaGreatDoorXZ
import Derived.Test.YtpfhollohodcjaaGreatDoorXZ
import Derived.Laws.EntriesVeiled
import Derived.IntWalk
import Derived.BigRegion
/-! A recipient in memory while it is read; the walk over the first closure of wrapped (layer 23). -/
namespace Go.Proofs.YtpfhollohodcjaaGreatDoor
open Go.RowKit Go.Px Go.Px.Co Go.Px.Cm
/-! A recipient in memory -/
/-- The boxes that a closure holds, and the recipient. -/
structure RecW (w : World) (F : Nat → Prop) (pc pr b br : Nat) (r : Co.Rec) : Prop where
  cc : w.cell? ⟨pc, 0, none⟩ = some (.pointer (some ⟨b, 0, none⟩))
  cr : w.cell? ⟨pr, 0, none⟩ = some (.pointer (some ⟨br, 0, none⟩))
  rb : Blk w br (cRec r).toArray 78
  nc : ¬ F pc
  nr : ¬ F pr
  nb : ¬ F br
  ec : pc ≠ br
  er : pr ≠ br
section
variable {w w' : World} {F G : Nat → Prop} {pc pr b br : Nat} {r : Co.Rec}
theorem RecW.keep (h : RecW w F pc pr b br r) (hf : Fr F w w') (hs : Fresh w F G) : RecW w' G pc pr b br r := by
  have l1 := World.block_lt_of_cell? _ _ h.cc
  have l2 := World.block_lt_of_cell? _ _ h.cr
  have l3 := h.rb.lt
  refine ⟨(hf.cell (p := ⟨pc, 0, none⟩) l1 h.nc).trans h.cc, (hf.cell (p := ⟨pr, 0, none⟩) l2 h.nr).trans h.cr, h.rb.fr hf h.nb, fun x => ?_, fun x => ?_, fun x => ?_, h.ec, h.er⟩
  · rcases hs _ x with y | y
    · exact h.nc y
    · exact absurd l1 (by simp only at l1 ⊢; omega)
  · rcases hs _ x with y | y
    · exact h.nr y
    · exact absurd l2 (by simp only at l2 ⊢; omega)
  · rcases hs _ x with y | y
    · exact h.nb y
    · omega
theorem fresh_refl (w : World) (F : Nat → Prop) : Fresh w F F := fun _ x => .inl x
theorem RecW.set {r' : Co.Rec} (h : RecW w F pc pr b br r) (i : Nat) (v : Value) (he : (cRec r).toArray.setIfInBounds i v = (cRec r').toArray) : RecW (w.setCell ⟨br, i, none⟩ v) F pc pr b br r' := by
  have hf : Fr (fun q => q = br) w (w.setCell ⟨br, i, none⟩ v) := Fr.setCell (F := fun q => q = br) (Fr.refl _ w) (p := ⟨br, i, none⟩) (.inl rfl) v
  have l1 := World.block_lt_of_cell? _ _ h.cc
  have l2 := World.block_lt_of_cell? _ _ h.cr
  have q := h.rb.set i v
  rw [he] at q
  exact ⟨(hf.cell (p := ⟨pc, 0, none⟩) l1 h.ec).trans h.cc, (hf.cell (p := ⟨pr, 0, none⟩) l2 h.er).trans h.cr, q, h.nc, h.nr, h.nb, h.ec, h.er⟩
theorem CuAt.fr {va : Value} {L : List Px.Node} {lim : Lim} {k : Cu} (h : CuAt w b va L lim k F) (hf : Fr G w w') (h1 : ∀ q, F q → ¬ G q) (h2 : ∀ q, va.ownBlock = some q → ¬ G q) : CuAt w' b va L lim k F := by
  obtain ⟨vl, h, rfl⟩ := h
  exact ⟨vl, h.fr hf h1 h2, rfl⟩
theorem ErrV.set {v u : Value} {n : Int} {i : Nat} (h : ErrV w v n) (hb : Blk w br (cRec r).toArray 78) : ErrV (w.setCell ⟨br, i, none⟩ u) v n := by
  obtain ⟨fb, e, h1⟩ := h
  refine ⟨fb, e, h1.other (p := ⟨br, i, none⟩) u ?_⟩
  rintro rfl
  have h2 := h1.symm.trans hb
  simp [cRec] at h2
end
/-- Bytes that go into a cell of the recipient. -/
def MidB (set : Bytes → Co.Rec) (w : World) (b pc pr br : Nat) (va : Value) (L : List Px.Node) (lim : Lim) (F : Nat → Prop) (R : Except Int (Bytes × Cu)) (t : Value) (wx : World) : Prop := match R with
  | .ok (s, k1) => t = .nilIface ∧ CuAt wx b va L lim k1 F ∧ RecW wx F pc pr b br (set s) ∧ Fr (fun q => F q ∨ q = br) w wx
  | .error n => ErrV wx t n ∧ Fr (fun q => F q ∨ q = br) w wx
theorem mid_of {set : Bytes → Co.Rec} {w w2 : World} {b pc pr br i : Nat} {va : Value} {L : List Px.Node} {lim : Lim} {F : Nat → Prop} {r : Co.Rec} {R : Except Int (Bytes × Cu)} {e : Ending}
    (hset : ∀ s, (cRec r).toArray.setIfInBounds i (S s) = (cRec (set s)).toArray) (h : TkP S (S []) w b va L lim F R e w2) (hr : RecW w F pc pr b br r) (hv : ∀ q, va.ownBlock = some q → q ≠ br) :
    ∃ s t, e = .returned (.tuple #[S s, t]) ∧ Fr F w w2 ∧ MidB set w b pc pr br va L lim F R t (w2.setCell ⟨br, i, none⟩ (S s)) := by
  cases R with
  | ok q =>
    obtain ⟨s, k1⟩ := q
    obtain ⟨e1, h1, h2⟩ := h
    refine ⟨s, .nilIface, e1, h2, rfl, ?_, ?_, ?_⟩
    · exact h1.fr (G := fun q => q = br) (Fr.setCell (F := fun q => q = br) (Fr.refl _ w2) (p := ⟨br, i, none⟩) (.inl rfl) _) (fun q hq e => hr.nb (by rw [← e]; exact hq)) hv
    · exact (hr.keep h2 (fresh_refl w F)).set i (S s) (hset s)
    · exact Fr.setCell (Fr.mono h2 fun _ x => .inl x) (p := ⟨br, i, none⟩) (.inl (.inr rfl)) _
  | error n =>
    obtain ⟨⟨v, e1, h1⟩, h2⟩ := h
    refine ⟨[], v, e1, h2, ?_, ?_⟩
    · exact h1.set (hr.rb.fr h2 hr.nb)
    · exact Fr.setCell (Fr.mono h2 fun _ x => .inl x) (p := ⟨br, i, none⟩) (.inl (.inr rfl)) _
theorem MidB.base {set : Bytes → Co.Rec} {w w0 wx : World} {b pc pr br : Nat} {va : Value} {L : List Px.Node} {lim : Lim} {F : Nat → Prop} {R : Except Int (Bytes × Cu)} {t : Value} (h : MidB set w0 b pc pr br va L lim F R t wx) (hs : Same w w0) : MidB set w b pc pr br va L lim F R t wx := by
  cases R with
  | ok q =>
    obtain ⟨h1, h2, h3, h4⟩ := h
    exact ⟨h1, h2, h3, (hs.fr _).trans h4 fun _ _ x => x⟩
  | error n =>
    obtain ⟨h1, h2⟩ := h
    exact ⟨h1, (hs.fr _).trans h2 fun _ _ x => x⟩
theorem may_of {w1 w' : World} {F : Nat → Prop} {a c m : Nat} (hF : ∀ q, F q → q < w1.heap.size) (ha : Blk w' w1.heap.size #[.int .i64 (a : Nat)] 3) (hc : Blk w' (w1.heap.size + 1) #[.int .i64 (c : Nat)] 3) (hm : Blk w' (w1.heap.size + 1 + 1) #[.int .i64 (m : Nat)] 3) :
    MayIn w' F (.func (.func 116) #[] #[.pointer (some ⟨w1.heap.size, 0, none⟩), .pointer (some ⟨w1.heap.size + 1, 0, none⟩), .pointer (some ⟨w1.heap.size + 1 + 1, 0, none⟩)]) a c m :=
  ⟨_, _, _, rfl, ha, hc, hm, fun x => absurd (hF _ x) (by omega), fun x => absurd (hF _ x) (by omega), fun x => absurd (hF _ x) (by omega)⟩
theorem CuAt.lt {w : World} {b : Nat} {va : Value} {L : List Px.Node} {lim : Lim} {k : Cu} {F : Nat → Prop} (h : CuAt w b va L lim k F) : ∀ q, F q → q < w.heap.size := by
  obtain ⟨vl, h, rfl⟩ := h
  exact h.footLt
theorem CuAt.va {w : World} {b : Nat} {va : Value} {L : List Px.Node} {lim : Lim} {k : Cu} {F : Nat → Prop} (h : CuAt w b va L lim k F) : ∀ q, va.ownBlock = some q → q < w.heap.size := by
  obtain ⟨vl, h, rfl⟩ := h
  exact h.al2
set_option maxRecDepth 100000 in
set_option maxHeartbeats 8000000 in
theorem wrap1_any (pc pr b br : Nat) (va : Value) (L : List Px.Node) (lim : Lim) (k : Cu) (F : Nat → Prop) (r : Co.Rec) (w : World) (h : CuAt w b va L lim k F) (hf : Fits L k) (hw : RecW w F pc pr b br r) (hv : ∀ q, va.ownBlock = some q → q ≠ br) (hE : Eats L (octs L 1 128 1) (fun _ _ => True)) :
    Calls Tryz.prog 138 #[.pointer (some ⟨pc, 0, none⟩), .pointer (some ⟨pr, 0, none⟩)] w (RunsE w b va L lim F (fun q => q = br) (fun nm F' w' => RecW w' F' pc pr b br { r with name := nm }) (nameP L k)) := by
  obtain ⟨R, hR⟩ : ∃ R, R = nameP L k := ⟨_, rfl⟩
  obtain ⟨R1, hR1⟩ : ∃ R1, R1 = octs L 1 128 1 k := ⟨_, rfl⟩
  rw [← hR]
  have HR := Px.hid (And.intro hR hR1)
  have H := Px.hid (And.intro h (And.intro hf (And.intro hv hE)))
  have HRW := Px.hid hw
  have c1 := hw.cc
  have c2 := hw.cr
  have HG := Px.hid (fresh_refl w F)
  clear hR hR1 h hf hw hv hE
  go_enter Tryz.func138, Tryz.ntmps138
  go_upto_region 1 with fail
  go_cut [2] (fun t2 wx => MidB (fun s => { r with name := s }) w b pc pr br va L lim F R1 t2 wx)
  case first =>
    obtain ⟨SS, hSS⟩ : ∃ SS : World → Prop, SS = (fun W : World => W.cell? ⟨pc, 0, none⟩ = some (.pointer (some ⟨b, 0, none⟩)) ∧ W.cell? ⟨pr, 0, none⟩ = some (.pointer (some ⟨br, 0, none⟩))) := ⟨_, rfl⟩
    have hS0 : SS w.drew := by rw [hSS]; exact ⟨c1, c2⟩
    refine wp_region_held_drew (S := SS) (by kernel_rfl) hS0 (fun hHeld => ?_)
    refine wpAnyH_take (i := 0) (v := ?_) rfl (by kernel_rfl) (by kernel_rfl) (by kernel_rfl) (fun _ _ _ h => h) (Or.inl ⟨by rfl, ?_⟩) (by assumption) ?_
    rotate_left
    · intro w hw
      rw [hSS] at hw
      obtain ⟨q1, q2⟩ := hw
      go_simp
      try (with_reducible rfl)
    change wpAnyH _ _ _ _ _ _ _ (Act.put _ (some 4) _) _
    simp only [Act.put, List.setIfInBounds_toArray, List.set_cons_zero, List.set_cons_succ]
    refine wpAnyH_take (i := 1) (v := ?_) rfl (by kernel_rfl) (by kernel_rfl) (by kernel_rfl) (fun _ _ _ h => h) (Or.inl ⟨by rfl, ?_⟩) (by assumption) ?_
    rotate_left
    · intro w hw
      rw [hSS] at hw
      obtain ⟨q1, q2⟩ := hw
      go_simp
      try (with_reducible rfl)
    change wpAnyH _ _ _ _ _ _ _ (Act.put _ (some 5) _) _
    simp only [Act.put, List.setIfInBounds_toArray, List.set_cons_zero, List.set_cons_succ]
    refine wpAnyH_ready (rs := [2]) (by kernel_rfl) (by simp) ?_
    refine AllReadyH.cons rfl (fun K hK => ?_) AllReadyH.nil
    go_simp
    refine (between_any 1 128 1 _).mono ?_
    rintro e wa ⟨rfl, hba, hbc, hbm, hsa⟩
    refine Shut.out hK _ _ ?_ (fun hHeld => ?_)
    · rw [hSS]
      have hrw := (HRW.out.keep (Fr.drew (Fr.refl _ w)) (fresh_refl _ F)).keep (hsa.fr F) (fresh_refl _ F)
      exact ⟨hrw.cc, hrw.cr⟩
    clear hK K
    refine wpAnyH_ready (rs := [3]) (by kernel_rfl) (by simp) ?_
    refine AllReadyH.cons rfl (fun K hK => ?_) AllReadyH.nil
    go_simp
    have hro := HRW.out.keep (Fr.drew (Fr.refl _ w)) (fresh_refl _ F)
    have hrw := hro.keep (hsa.fr F) (fresh_refl _ F)
    have hcu := (H.out.1.same (Fr.drew (Same.refl w))).same hsa
    refine (octs_any b va L lim k F _ 1 128 1 (by omega) (by omega) wa hcu H.out.2.1 (may_of H.out.1.lt hba hbc hbm)).mono ?_
    intro e wb hT
    rw [← HR.out.2] at hT
    obtain ⟨s, t, rfl, hfb, hmid⟩ := mid_of (i := 3) (set := (fun s => { r with name := s })) (fun s => by simp [cRec]) hT hrw H.out.2.2.1
    refine Shut.out hK _ _ ?_ (fun hHeld => ?_)
    · rw [hSS]
      have hrx := hrw.keep hfb (fresh_refl _ F)
      exact ⟨hrx.cc, hrx.cr⟩
    clear hK K
    refine wpAnyH_take (i := 4) (v := ?_) rfl (by kernel_rfl) (by kernel_rfl) (by kernel_rfl) (fun _ _ _ h => h) (Or.inl ⟨by rfl, ?_⟩) (by assumption) ?_
    rotate_left
    · intro w hw
      rw [hSS] at hw
      obtain ⟨q1, q2⟩ := hw
      go_simp
      try (with_reducible rfl)
    change wpAnyH _ _ _ _ _ _ _ (Act.put _ (some 3) _) _
    simp only [Act.put, List.setIfInBounds_toArray, List.set_cons_zero, List.set_cons_succ]
    refine wpAnyH_take (i := 5) (v := ?_) rfl (by kernel_rfl) (by kernel_rfl) (by kernel_rfl) (fun _ _ _ h => h) (Or.inl ⟨by rfl, ?_⟩) (by assumption) ?_
    rotate_left
    · intro w hw
      rw [hSS] at hw
      obtain ⟨q1, q2⟩ := hw
      go_simp
      try (with_reducible rfl)
    change wpAnyH _ _ _ _ _ _ _ (Act.put _ (some 8) _) _
    simp only [Act.put, List.setIfInBounds_toArray, List.set_cons_zero, List.set_cons_succ]
    refine wpAnyH_take (i := 6) (v := ?_) rfl (by kernel_rfl) (by kernel_rfl) (by kernel_rfl) (fun _ _ _ h => h) (Or.inl ⟨by rfl, ?_⟩) (by assumption) ?_
    rotate_left
    · intro w hw
      rw [hSS] at hw
      obtain ⟨q1, q2⟩ := hw
      go_simp
      try (with_reducible rfl)
    change wpAnyH _ _ _ _ _ _ _ (Act.put _ (some 9) _) _
    simp only [Act.put, List.setIfInBounds_toArray, List.set_cons_zero, List.set_cons_succ]
    refine wpAnyH_take (i := 7) (v := ?_) rfl (by kernel_rfl) (by kernel_rfl) (by kernel_rfl) (fun _ _ _ h => h) (Or.inl ⟨by rfl, ?_⟩) (by assumption) ?_
    rotate_left
    · intro w hw
      rw [hSS] at hw
      obtain ⟨q1, q2⟩ := hw
      go_simp
      try (with_reducible rfl)
    change wpAnyH _ _ _ _ _ _ _ (Act.put _ (some 10) _) _
    simp only [Act.put, List.setIfInBounds_toArray, List.set_cons_zero, List.set_cons_succ]
    refine wpAnyH_take (i := 8) (v := ?_) rfl (by kernel_rfl) (by kernel_rfl) (by kernel_rfl) (fun _ _ _ h => h) (Or.inl ⟨by rfl, ?_⟩) (by assumption) ?_
    rotate_left
    · intro w hw
      rw [hSS] at hw
      obtain ⟨q1, q2⟩ := hw
      go_simp
      try (with_reducible rfl)
    change wpAnyH _ _ _ _ _ _ _ (Act.put _ (some 11) _) _
    simp only [Act.put, List.setIfInBounds_toArray, List.set_cons_zero, List.set_cons_succ]
    have fb := (hrw.keep hfb (fresh_refl _ F)).rb.free 3
    have k0 := (hrw.keep hfb (fresh_refl _ F)).rb.cell 3 rfl
    refine wpAnyH_ready (rs := [9]) (by kernel_rfl) (by simp) ?_
    refine AllReadyH.cons rfl (fun K hK => ?_) AllReadyH.nil
    go_simp
    refine Shut.out hK _ _ ?_ (fun hHeld => ?_)
    · rw [hSS]
      have hrx := (hrw.keep hfb (fresh_refl _ F)).set (r' := (fun s => { r with name := s }) s) 3 (S s) (by simp [cRec])
      exact ⟨hrx.cc, hrx.cr⟩
    clear hK K
    refine wpAnyH_take (i := 10) (v := ?_) rfl (by kernel_rfl) (by kernel_rfl) (by kernel_rfl) (fun _ _ _ h => h) (Or.inl ⟨by rfl, ?_⟩) (by assumption) ?_
    rotate_left
    · intro w hw
      rw [hSS] at hw
      obtain ⟨q1, q2⟩ := hw
      go_simp
      try (with_reducible rfl)
    change wpAnyH _ _ _ _ _ _ _ (Act.put _ (some 2) _) _
    simp only [Act.put, List.setIfInBounds_toArray, List.set_cons_zero, List.set_cons_succ]
    refine wpAnyH_done (by kernel_rfl) ?_ _
    go_wp2_with fail
    go_meet
    exact hmid.base (Same.trans (Fr.drew (Fr.refl _ w)) hsa)
  case rest =>
    cases R1 with
    | error n =>
      have HI := Px.hid (HR.out.1.trans (show nameP L k = .error n by unfold nameP bnd; rw [← HR.out.2]))
      obtain ⟨⟨fb, rfl, hb⟩, hs⟩ := hcut
      have HE := Px.hid (And.intro hb hs)
      clear hb hs HR
      go_wp2
      go_ret
      rw [HI.out]
      exact ⟨⟨_, rfl, fb, rfl, HE.out.1⟩, HE.out.2⟩
    | ok q =>
      obtain ⟨s, k1⟩ := q
      obtain ⟨rfl, hc, hw, hs⟩ := hcut
      have hf1 := (H.out.2.2.2 k s k1 HR.out.2.symm H.out.2.1).1
      have HT := Px.hid (ctag_any b va L lim k1 F _ hc hf1)
      have HI := Px.hid (HR.out.1.trans (show nameP L k = if (peek L k1 != 0) = true then .error 11 else .ok (s, k1) by
        unfold nameP bnd
        rw [← HR.out.2]
        rfl))
      have HC := Px.hid (And.intro hc (And.intro hw hs))
      have c1 := hw.cc
      clear hc hw hs hf1 HR
      go_wp2_with fail
      refine HT.out.mono ?_
      rintro e w3 ⟨rfl, hs3⟩
      have HS3 := Px.hid hs3
      clear hs3
      by_cases hp : peek L k1 = 0
      · have HI2 := Px.hid (HI.out.trans (if_neg (by rw [hp]; decide)))
        rw [hp]
        clear hp HI HT
        go_wp2
        go_ret
        rw [HI2.out]
        exact ⟨rfl, ⟨F, HC.out.1.same HS3.out, HG.out, HC.out.2.1.keep (HS3.out.fr F) (fresh_refl _ F)⟩, HC.out.2.2.trans (HS3.out.fr _) fun _ _ x => x⟩
      · have HI2 := Px.hid (HI.out.trans (if_pos (by rw [bne_iff_ne]; exact hp)))
        have hpz : (((peek L k1 : Nat) : Int) == 0) = false := beq_eq_false_iff_ne.2 (by omega)
        obtain ⟨pk, hpk⟩ : ∃ pk, pk = peek L k1 := ⟨_, rfl⟩
        rw [← hpk] at hpz ⊢
        clear hp HI HT hpk
        go_wp2_with fail
        refine (wrong_any 11 _).mono ?_
        rintro e w4 ⟨v, rfl, he, hs4⟩
        have HE := Px.hid (And.intro he (HC.out.2.2.trans ((HS3.out.trans hs4).fr _) fun _ _ x => x))
        clear he hs4
        go_wp2
        go_ret
        rw [HI2.out]
        exact ⟨⟨v, rfl, HE.out.1⟩, HE.out.2⟩
end Go.Proofs.YtpfhollohodcjaaGreatDoor

/-! The walks over the second closure of wrapped, and wrapped (layer 23). -/
namespace Go.Proofs.YtpfhollohodcjaaGreatDoor
open Go.RowKit Go.Px Go.Px.Co Go.Px.Cm
/-- A slice of strings just built. -/
theorem lies_new {w : World} {g : Nat} {l : List Bytes} {T : TypeId} (h : Blk w g (l.map S).toArray T) (hl : l.length ≤ 1000) : Lies w 1 cStr (.slice (some ⟨g, 0, none⟩) l.length l.length) l := by
  refine ⟨⟨_, _, rfl, Nat.le_refl _, by unfold maxLen; omega⟩, fun j x hj => ⟨g, 0, _, rfl, h.lt, fun i u hu => ?_⟩⟩
  cases i with
  | zero =>
    simp only [cStr, List.getElem?_cons_zero, Option.some.injEq] at hu
    subst hu
    rw [Nat.zero_add, Nat.mul_one, Nat.add_zero]
    exact h.cell j (by simp [hj])
  | succ i => simp [cStr] at hu
theorem kind_lt {L : List Px.Node} {tbl : List Bytes} {k k1 : Cu} {i : Nat} (h : kind L tbl k = .ok (i, k1)) : i < tbl.length := by
  unfold kind bnd at h
  cases hk : Cm.take L 6 k with
  | error n =>
    rw [hk] at h
    cases h
  | ok q =>
    rw [hk] at h
    obtain ⟨t, k2⟩ := q
    simp only at h
    cases hi : tbl.findIdx? (fun y => y == t) with
    | none =>
      rw [hi] at h
      cases h
    | some j =>
      rw [hi] at h
      simp only [ret, Except.ok.injEq, Prod.mk.injEq] at h
      rw [← h.1]
      exact (List.findIdx?_eq_some_iff_getElem.1 hi).1
set_option maxRecDepth 100000 in
set_option maxHeartbeats 8000000 in
theorem wrap2_any (pc pr b br : Nat) (va : Value) (L : List Px.Node) (lim : Lim) (k : Cu) (F : Nat → Prop) (r : Co.Rec) (w : World) (h : CuAt w b va L lim k F) (hf : Fits L k) (hw : RecW w F pc pr b br r) (hv : ∀ q, va.ownBlock = some q → q ≠ br) :
    Calls Tryz.prog 139 #[.pointer (some ⟨pc, 0, none⟩), .pointer (some ⟨pr, 0, none⟩)] w (RunsE w b va L lim F (fun q => q = br) (fun i F' w' => RecW w' F' pc pr b br { r with size := 16 + 8 * (i : Nat) }) (kind L wrapT k)) := by
  obtain ⟨R, hR⟩ : ∃ R, R = kind L wrapT k := ⟨_, rfl⟩
  rw [← hR]
  have HR := Px.hid hR
  have H := Px.hid (And.intro h (And.intro hf hv))
  have HRW := Px.hid hw
  have c1 := hw.cc
  have c2 := hw.cr
  have HG := Px.hid (fresh_refl w F)
  clear hR h hf hw hv
  go_enter Tryz.func139, Tryz.ntmps139
  go_wp2_with fail
  have hal : Same w (w.alloc (.cells (wrapT.map S).toArray 9)) := Fr.alloc (Fr.refl _ w) _
  refine (kind_any b va L lim k F (.slice (some ⟨w.heap.size, 0, none⟩) 3 3) wrapT (by decide) (w.alloc (.cells (wrapT.map S).toArray 9)) (H.out.1.same hal) H.out.2.1 (lies_new (blk_new w _ _) (by decide)) (fun q hq hF => by simp only [Value.ownBlock, Option.some.injEq] at hq; have := H.out.1.lt q hF; omega)).mono ?_
  intro e w1 hT
  rw [← HR.out] at hT
  have hrw := HRW.out.keep (hal.fr F) (fresh_refl _ F)
  cases R with
  | error n =>
    obtain ⟨⟨v, rfl, hv⟩, hs⟩ := hT
    have hr1 := hrw.keep hs (fresh_refl _ F)
    have c3 := hr1.cr
    have fb := hr1.rb.free 1
    have k0 := hr1.rb.cell 1 rfl
    obtain ⟨fb2, rfl, hfb⟩ := hv
    have HE := Px.hid (And.intro (ErrV.set (i := 1) (u := .int .i64 16) ⟨fb2, rfl, hfb⟩ hr1.rb) ((hal.fr F).trans hs fun _ _ x => x))
    clear hal hrw hs hr1 hfb c1 c2
    go_wp2
    go_ret
    exact ⟨⟨_, rfl, HE.out.1⟩, Fr.setCell (Fr.mono HE.out.2 fun _ x => .inl x) (p := ⟨br, 1, none⟩) (.inl (.inr rfl)) _⟩
  | ok q =>
    obtain ⟨i, k1⟩ := q
    obtain ⟨rfl, hc, hs⟩ := hT
    have hi : i < 3 := kind_lt HR.out.symm
    have hr1 := hrw.keep hs (fresh_refl _ F)
    have c3 := hr1.cr
    have fb := hr1.rb.free 1
    have k0 := hr1.rb.cell 1 rfl
    have HE := Px.hid (And.intro hc (And.intro (hr1.set (r' := { r with size := 16 + 8 * (i : Int) }) 1 (.int .i64 (16 + 8 * (i : Int))) (by simp [cRec])) ((hal.fr F).trans hs fun _ _ x => x)))
    have hiz : (i : Int) < 3 := by omega
    have hnb := Px.hid hr1.nb
    clear hal hrw hs hr1 hc c1 c2 hi
    go_wp2
    go_ret
    exact ⟨rfl, ⟨F, HE.out.1.fr (G := fun q => q = br) (Fr.setCell (F := fun q => q = br) (Fr.refl _ _) (p := ⟨br, 1, none⟩) (.inl rfl) _) (fun q hq e => hnb.out (by rw [← e]; exact hq)) H.out.2.2, HG.out, HE.out.2.1⟩, Fr.setCell (Fr.mono HE.out.2.2 fun _ x => .inl x) (p := ⟨br, 1, none⟩) (.inl (.inr rfl)) _⟩
end Go.Proofs.YtpfhollohodcjaaGreatDoor
