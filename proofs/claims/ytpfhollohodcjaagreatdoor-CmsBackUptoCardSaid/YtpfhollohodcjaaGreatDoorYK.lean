/-
  Several texts in one: The walks over the closures of attributes (layer 23).
-/
import Derived.Test.YtpfhollohodcjaaGreatDoorYJ
import Derived.Test.YtpfhollohodcjaaGreatDoorYW
/-! The walks over the closures of attributes (layer 23). -/
namespace Go.Px.Cm
open E5 Co
theorem fits_skip {L : List Node} {k : Cu} {n : Nat} {r : List Nat} (hf : Fits L k) (hk : k.left = (n + 1) :: r) : Fits L ⟨nx L k.at_, n :: r⟩ := by
  have e : anyN L 1 k = .ok ((), ⟨nx L k.at_, dec k.left⟩) := rfl
  have h := (any_takes 1 k () _ e hf ⟨n, r, hk⟩).1
  rw [hk] at h
  exact h
theorem peek_zero {L : List Node} {k : Cu} (hf : Fits L k) : peek L k = 0 ↔ k.left.headD 0 = 0 := by
  cases hk : k.left with
  | nil => exact absurd hk hf.1
  | cons n r =>
    cases n with
    | zero =>
      unfold peek
      rw [hk]
      simp
    | succ n =>
      have := peek_pos hf hk
      simp [this]
theorem eats_attrQ {L : List Node} (hr : ∀ a ∈ L, right a = true) : Eats L (attrQ L) (fun _ _ => True) :=
  ((eats_take hr (t := 6) (by decide) (by decide)).bnd fun _ => eats_vals.inn hr (t := 0x31) (by decide) (by decide)).mono fun _ _ _ => trivial
end Go.Px.Cm
namespace Go.Proofs.YtpfhollohodcjaaGreatDoor
open Go.RowKit Go.Px Go.Px.Co Go.Px.Cm
set_option maxRecDepth 100000 in
set_option maxHeartbeats 8000000 in
theorem att3_any (pc b : Nat) (va : Value) (L : List Px.Node) (lim : Lim) (k : Cu) (F : Nat → Prop) (w : World) (h : CuAt w b va L lim k F) (hf : Fits L k) (c1 : w.cell? ⟨pc, 0, none⟩ = some (.pointer (some ⟨b, 0, none⟩))) (np : ¬ F pc) :
    Calls Tryz.prog 113 #[.pointer (some ⟨pc, 0, none⟩)] w (RunsE w b va L lim F (fun _ => False) (fun _ _ _ => True) (valsP L k)) := by
  obtain ⟨R, hR⟩ : ∃ R, R = valsP L k := ⟨_, rfl⟩
  rw [← hR]
  have HR := Px.hid hR
  have HT := Px.hid (ctag_any b va L lim k F w h hf)
  have lp := World.block_lt_of_cell? _ _ c1
  simp only at lp
  have H := Px.hid (And.intro h (And.intro hf (And.intro c1 (And.intro np lp))))
  clear hR h hf np
  go_enter Tryz.func113, Tryz.ntmps113
  go_wp2_with fail
  refine HT.out.mono ?_
  rintro e w1 ⟨rfl, hs1⟩
  have HS1 := Px.hid hs1
  have c2 := (hs1.cell (p := ⟨pc, 0, none⟩) lp (fun y => y)).trans c1
  clear hs1 HT c1 lp
  by_cases hp : peek L k = 0
  · have HI := Px.hid (HR.out.trans (show valsP L k = .error 9 from if_pos (show (peek L k == 0) = true by rw [hp]; rfl)))
    rw [hp]
    clear hp
    go_wp2_with fail
    refine (wrong_any 9 _).mono ?_
    rintro e w4 ⟨v, rfl, he, hs4⟩
    have HE := Px.hid (And.intro he (HS1.out.trans hs4))
    clear he hs4
    go_wp2
    go_ret
    rw [HI.out]
    exact ⟨⟨v, rfl, HE.out.1⟩, HE.out.2.fr _⟩
  · have HI := Px.hid (HR.out.trans (show valsP L k = .ok ((), anyC L (k.left.headD 0) k) from (if_neg (show ¬ (peek L k == 0) = true by rw [beq_iff_eq]; exact hp)).trans (any_eq _ k)))
    have hpz : (((peek L k : Nat) : Int) == 0) = false := beq_eq_false_iff_ne.2 (by omega)
    obtain ⟨pk, hpk⟩ : ∃ pk, pk = peek L k := ⟨_, rfl⟩
    rw [← hpk] at hpz ⊢
    clear hp hpk
    go_wp2_with fail
    go_loopg [6] (k.left.headD 0 + 1) (fun gk _ wr => ∃ (m : Nat) (k' : Cu), m < gk ∧ CuAt wr b va L lim k' F ∧ Fits L k' ∧ k'.left.headD 0 = m ∧ R = .ok ((), anyC L m k') ∧ Fr F w wr)
    case atStart => exact ⟨_, k, Nat.lt_succ_self _, H.out.1.same HS1.out, H.out.2.1, rfl, HI.out, HS1.out.fr F⟩
    case round =>
      obtain ⟨m, k', hgk, hcu, hfi, hm, hRm, hfr⟩ := hrel
      have c1 := (hfr.cell (p := ⟨pc, 0, none⟩) H.out.2.2.2.2 H.out.2.2.2.1).trans H.out.2.2.1
      have HT := Px.hid (ctag_any b va L lim k' F wr hcu hfi)
      have HC := Px.hid (And.intro hgk (And.intro hcu (And.intro hfi (And.intro hm (And.intro hRm hfr)))))
      have l1 := World.block_lt_of_cell? _ _ c1
      simp only at l1
      clear hgk hcu hfi hm hRm hfr c2
      go_wp2_with fail
      refine HT.out.mono ?_
      rintro e w2 ⟨rfl, hs2⟩
      have HS2 := Px.hid hs2
      have c2 := (hs2.cell (p := ⟨pc, 0, none⟩) l1 (fun y => y)).trans c1
      clear hs2 HT c1 l1
      by_cases hp : peek L k' = 0
      · have hm0 : m = 0 := by rw [← HC.out.2.2.2.1]; exact (peek_zero HC.out.2.2.1).1 hp
        have HI2 := Px.hid (show R = .ok ((), k') by rw [HC.out.2.2.2.2.1, hm0]; rfl)
        rw [hp]
        clear hp hm0
        go_wp2
        go_ret
        rw [HI2.out]
        exact ⟨rfl, ⟨F, HC.out.2.1.same HS2.out, fresh_refl _ _, trivial⟩, Fr.mono (HC.out.2.2.2.2.2.trans (HS2.out.fr F) fun _ _ y => y) fun _ y => .inl y⟩
      · obtain ⟨n, r, hk⟩ : ∃ n r, k'.left = (n + 1) :: r := by
          have h0 := fun e => hp ((peek_zero HC.out.2.2.1).2 e)
          cases hk : k'.left with
          | nil => exact absurd hk HC.out.2.2.1.1
          | cons a r =>
            rw [hk] at h0
            cases a with
            | zero => exact absurd rfl h0
            | succ n => exact ⟨n, r, rfl⟩
        have hpz : (((peek L k' : Nat) : Int) == 0) = false := beq_eq_false_iff_ne.2 (by omega)
        obtain ⟨pk', hpk'⟩ : ∃ pk', pk' = peek L k' := ⟨_, rfl⟩
        rw [← hpk'] at hpz ⊢
        have HA := Px.hid (cany_any b va L lim k' F n r w2 (HC.out.2.1.same HS2.out) HC.out.2.2.1 hk)
        have HK := Px.hid hk
        clear hp hpk' hk
        go_wp2_with fail
        refine HA.out.mono ?_
        rintro e w3 ⟨rfl, hcu3, hfr3⟩
        have hm1 : m = n + 1 := by rw [← HC.out.2.2.2.1, HK.out]; rfl
        have HE := Px.hid (And.intro hcu3 (And.intro (HC.out.2.2.2.2.2.trans ((HS2.out.fr F).trans hfr3 fun _ _ y => y) fun _ _ y => y) hm1))
        obtain ⟨g', hg'⟩ : ∃ g', gk = g' + 1 := ⟨gk - 1, by have := HC.out.1; omega⟩
        subst hg'
        clear hcu3 hfr3 hm1 HA
        go_wp2
        go_roundg g'
        case measure => omega
        case rel =>
          refine ⟨n, _, by have := HC.out.1; have := HE.out.2.2; omega, HE.out.1, fits_skip HC.out.2.2.1 HK.out, rfl, ?_, HE.out.2.1⟩
          rw [HC.out.2.2.2.2.1, HE.out.2.2]
          show Except.ok ((), anyC L n ⟨nx L k'.at_, E5.dec k'.left⟩) = _
          rw [HK.out]
          rfl
set_option maxRecDepth 100000 in
set_option maxHeartbeats 8000000 in
theorem att2_any (pc b : Nat) (va : Value) (L : List Px.Node) (lim : Lim) (k : Cu) (F : Nat → Prop) (w : World) (h : CuAt w b va L lim k F) (hf : Fits L k) (hd : k.left.length ≤ 99) (hr : ∀ a ∈ L, E5.right a = true) (c1 : w.cell? ⟨pc, 0, none⟩ = some (.pointer (some ⟨b, 0, none⟩))) (np : ¬ F pc) :
    Calls Tryz.prog 112 #[.pointer (some ⟨pc, 0, none⟩)] w (RunsE w b va L lim F (fun _ => False) (fun _ _ _ => True) (attrQ L k)) := by
  obtain ⟨R, hR⟩ : ∃ R, R = attrQ L k := ⟨_, rfl⟩
  rw [← hR]
  have HR := Px.hid hR
  have HT := Px.hid (ctake_any b va L lim k F 6 (by decide) w h hf)
  have lp := World.block_lt_of_cell? _ _ c1
  simp only at lp
  have H := Px.hid (And.intro h (And.intro hf (And.intro c1 (And.intro np (And.intro lp (And.intro hd hr))))))
  clear hR h hf np hd hr
  go_enter Tryz.func112, Tryz.ntmps112
  go_wp2_with fail
  refine HT.out.mono ?_
  intro e w1 hT
  clear c1 lp
  cases hk : Cm.take L 6 k with
  | error n =>
    rw [hk] at hT
    have HI := Px.hid (HR.out.trans (bnd_err hk))
    obtain ⟨⟨v, rfl, fb2, rfl, hfb⟩, hs⟩ := hT
    have HE := Px.hid (And.intro hfb hs)
    clear hs hfb hk HT
    go_wp2
    go_ret
    rw [HI.out]
    exact ⟨⟨_, rfl, fb2, rfl, HE.out.1⟩, HE.out.2.fr _⟩
  | ok q =>
    obtain ⟨u, k1⟩ := q
    rw [hk] at hT
    obtain ⟨rfl, hc, hs⟩ := hT
    have HI := Px.hid (HR.out.trans (bnd_ok hk))
    obtain ⟨hf1, hl1⟩ := eats_len (eats_take H.out.2.2.2.2.2.2 (t := 6) (by decide) (by decide)) hk H.out.2.1
    have c2 := (hs.cell (p := ⟨pc, 0, none⟩) H.out.2.2.2.2.1 H.out.2.2.2.1).trans H.out.2.2.1
    have l2 := World.block_lt_of_cell? _ _ c2
    simp only at l2
    have hin := in_any b va L lim k1 F (fun _ => False) 0x31 (by decide) (by decide) 113 #[.pointer (some ⟨pc, 0, none⟩)] (valsP L) (fun _ _ _ => True) w1 hc hf1 (by have := H.out.2.2.2.2.2.1; omega) H.out.2.2.2.2.2.2 (fun _ => rfl) (eats_vals.mono fun _ _ _ => trivial) (fun _ _ _ _ _ _ => trivial)
      (fun w2 F1 k2 h1 h2 h3 h4 h5 => att3_any pc b va L lim k2 F1 w2 h1 h2 ((h4.cell (p := ⟨pc, 0, none⟩) l2 H.out.2.2.2.1).trans c2) (fun e => (h5 _ e).elim H.out.2.2.2.1 (fun y => by omega)))
    rw [show ((0x31 : UInt8).toNat) = 49 from rfl] at hin
    have HIN := Px.hid hin
    have HS := Px.hid hs
    clear hc hs hk hf1 hl1 HT hin l2
    go_wp2_with fail
    refine HIN.out.mono ?_
    intro e w2 hT
    clear c2
    cases hk : inn L 49 (valsP L) k1 with
    | error n =>
      rw [hk] at hT
      have HI2 := Px.hid (HI.out.trans hk)
      obtain ⟨⟨v, rfl, fb2, rfl, hfb⟩, hs⟩ := hT
      have HE := Px.hid (And.intro hfb ((Fr.mono HS.out (fun _ y => Or.inl y)).trans hs fun _ _ y => y))
      clear hs hfb hk HIN
      go_wp2
      go_ret
      rw [HI2.out]
      exact ⟨⟨_, rfl, fb2, rfl, HE.out.1⟩, HE.out.2⟩
    | ok q =>
      obtain ⟨v, k2⟩ := q
      rw [hk] at hT
      have HI2 := Px.hid (HI.out.trans hk)
      obtain ⟨rfl, ⟨F1, hc, hs1, _⟩, hs⟩ := hT
      have HE := Px.hid (And.intro hc (And.intro (show Fresh w F F1 from fun q hq => (hs1 q hq).imp id (fun y => Nat.le_trans HS.out.size y)) ((Fr.mono HS.out (fun _ y => Or.inl y)).trans hs fun _ _ y => y)))
      clear hc hs hs1 hk HIN
      go_wp2
      go_ret
      rw [HI2.out]
      exact ⟨rfl, ⟨F1, HE.out.1, HE.out.2.1, trivial⟩, HE.out.2.2⟩
set_option maxRecDepth 100000 in
set_option maxHeartbeats 8000000 in
theorem att1_any (pc b : Nat) (va : Value) (L : List Px.Node) (lim : Lim) (k : Cu) (F : Nat → Prop) (w : World) (h : CuAt w b va L lim k F) (hf : Fits L k) (hd : k.left.length ≤ 98) (hr : ∀ a ∈ L, E5.right a = true) (c1 : w.cell? ⟨pc, 0, none⟩ = some (.pointer (some ⟨b, 0, none⟩))) (np : ¬ F pc) :
    Calls Tryz.prog 111 #[.pointer (some ⟨pc, 0, none⟩)] w (RunsE w b va L lim F (fun _ => False) (fun _ _ _ => True) (attrP L k)) := by
  obtain ⟨R, hR⟩ : ∃ R, R = attrP L k := ⟨_, rfl⟩
  rw [← hR]
  have HR := Px.hid hR
  have lp := World.block_lt_of_cell? _ _ c1
  simp only at lp
  have H := Px.hid (And.intro h (And.intro hf (And.intro c1 (And.intro np (And.intro lp (And.intro hd hr))))))
  clear hR h hf np hd hr lp c1
  go_enter Tryz.func111, Tryz.ntmps111
  go_wp2_with fail
  go_loopg [3] (k.left.headD 0 + 1) (fun gk _ wr => ∃ (m : Nat) (k' : Cu) (F' : Nat → Prop), m < gk ∧ CuAt wr b va L lim k' F' ∧ Fits L k' ∧ k'.left.headD 0 = m ∧ k'.left.length = k.left.length ∧ R = attrN L m k' ∧ Fresh w F F' ∧ Fr F w wr)
  case atStart => exact ⟨_, k, F, Nat.lt_succ_self _, H.out.1, H.out.2.1, rfl, rfl, HR.out, fresh_refl _ _, Fr.refl _ _⟩
  case round =>
    obtain ⟨m, k', F', hgk, hcu, hfi, hm, hlen, hRm, hfs, hfr⟩ := hrel
    have c1 := (hfr.cell (p := ⟨pc, 0, none⟩) H.out.2.2.2.2.1 H.out.2.2.2.1).trans H.out.2.2.1
    have nf : ¬ F' pc := fun e => (hfs _ e).elim H.out.2.2.2.1 (fun y => by have := H.out.2.2.2.2.1; omega)
    have HT := Px.hid (ctag_any b va L lim k' F' wr hcu hfi)
    have HC := Px.hid (And.intro hgk (And.intro hcu (And.intro hfi (And.intro hm (And.intro hlen (And.intro hRm (And.intro hfs (And.intro hfr nf))))))))
    have l1 := World.block_lt_of_cell? _ _ c1
    simp only at l1
    clear hgk hcu hfi hm hRm hfr hlen hfs nf
    go_wp2_with fail
    refine HT.out.mono ?_
    rintro e w2 ⟨rfl, hs2⟩
    have c2 := (hs2.cell (p := ⟨pc, 0, none⟩) l1 (fun y => y)).trans c1
    have HS2 := Px.hid (And.intro hs2 c2)
    have l2 := World.block_lt_of_cell? _ _ c2
    simp only at l2
    clear hs2 HT c1 l1
    by_cases hp : peek L k' = 0
    · have hm0 : m = 0 := by rw [← HC.out.2.2.2.1]; exact (peek_zero HC.out.2.2.1).1 hp
      have HI2 := Px.hid (show R = .ok ((), k') by rw [HC.out.2.2.2.2.2.1, hm0]; rfl)
      rw [hp]
      clear hp hm0
      go_wp2
      go_ret
      rw [HI2.out]
      exact ⟨rfl, ⟨F', HC.out.2.1.same HS2.out.1, HC.out.2.2.2.2.2.2.1, trivial⟩, Fr.mono (HC.out.2.2.2.2.2.2.2.1.trans (HS2.out.1.fr F) fun _ _ y => y) fun _ y => .inl y⟩
    · obtain ⟨n, r, hk⟩ : ∃ n r, k'.left = (n + 1) :: r := by
        have h0 := fun e => hp ((peek_zero HC.out.2.2.1).2 e)
        cases hk : k'.left with
        | nil => exact absurd hk HC.out.2.2.1.1
        | cons a r =>
          rw [hk] at h0
          cases a with
          | zero => exact absurd rfl h0
          | succ n => exact ⟨n, r, rfl⟩
      have hpz : (((peek L k' : Nat) : Int) == 0) = false := beq_eq_false_iff_ne.2 (by omega)
      obtain ⟨pk', hpk'⟩ : ∃ pk', pk' = peek L k' := ⟨_, rfl⟩
      rw [← hpk'] at hpz ⊢
      have hin := in_any b va L lim k' F' (fun _ => False) 0x30 (by decide) (by decide) 112 #[.pointer (some ⟨pc, 0, none⟩)] (attrQ L) (fun _ _ _ => True) w2 (HC.out.2.1.same HS2.out.1) HC.out.2.2.1 (by have := H.out.2.2.2.2.2.1; have := HC.out.2.2.2.2.1; omega) H.out.2.2.2.2.2.2 (fun _ => rfl) (eats_attrQ H.out.2.2.2.2.2.2) (fun _ _ _ _ _ _ => trivial)
        (fun w3 F1 k2 h1 h2 h3 h4 h5 => att2_any pc b va L lim k2 F1 w3 h1 h2 (by have := H.out.2.2.2.2.2.1; have := HC.out.2.2.2.2.1; omega) H.out.2.2.2.2.2.2 ((h4.cell (p := ⟨pc, 0, none⟩) l2 HC.out.2.2.2.2.2.2.2.2).trans HS2.out.2) (fun e => (h5 _ e).elim HC.out.2.2.2.2.2.2.2.2 (fun y => by omega)))
      rw [show ((0x30 : UInt8).toNat) = 48 from rfl] at hin
      have HIN := Px.hid hin
      have hm1 : m = n + 1 := by rw [← HC.out.2.2.2.1, hk]; rfl
      have HK := Px.hid (And.intro hk (show R = bnd (inn L 48 (attrQ L)) (fun _ => attrN L n) k' by rw [HC.out.2.2.2.2.2.1, hm1]; rfl))
      have HM := Px.hid hm1
      clear hp hpk' hk hin l2 hm1
      go_wp2_with fail
      refine HIN.out.mono ?_
      intro e w3 hT
      clear c2
      have hfr2 : Fr (fun q => F' q ∨ False) w2 w3 → Fr F w w3 := fun y => Fr.trans (HC.out.2.2.2.2.2.2.2.1.trans (HS2.out.1.fr F) fun _ _ y => y) y fun q hq y => (y.elim (fun y => HC.out.2.2.2.2.2.2.1 q y) (fun y => y.elim)).elim id (fun z => by omega)
      cases hk : inn L 48 (attrQ L) k' with
      | error n =>
        rw [hk] at hT
        have HI2 := Px.hid (HK.out.2.trans (bnd_err hk))
        obtain ⟨⟨v, rfl, fb2, rfl, hfb⟩, hs⟩ := hT
        have HE := Px.hid (And.intro hfb (hfr2 hs))
        clear hs hfb hk HIN hfr2
        go_wp2
        go_ret
        rw [HI2.out]
        exact ⟨⟨_, rfl, fb2, rfl, HE.out.1⟩, Fr.mono HE.out.2 fun _ y => .inl y⟩
      | ok q =>
        obtain ⟨v, k2⟩ := q
        rw [hk] at hT
        have HI2 := Px.hid (HK.out.2.trans (bnd_ok hk))
        obtain ⟨rfl, ⟨F1, hc, hs1, _⟩, hs⟩ := hT
        obtain ⟨hf2, ts, n3, r3, ⟨t, vs, _, rfl⟩, e1, e2, _⟩ := eats_attr H.out.2.2.2.2.2.2 _ _ _ hk HC.out.2.2.1
        rw [HK.out.1] at e1
        simp only [List.length_cons, List.length_nil, Nat.zero_add, List.cons.injEq, Nat.add_right_cancel_iff] at e1
        have HE := Px.hid (And.intro hc (And.intro (show Fresh w F F1 from fun q hq => (hs1 q hq).elim (HC.out.2.2.2.2.2.2.1 q) (fun y => .inr (Nat.le_trans (Nat.le_trans HC.out.2.2.2.2.2.2.2.1.size HS2.out.1.size) y))) (And.intro (hfr2 hs) (And.intro hf2 (show k2.left = n :: r by rw [e2, e1.1, e1.2])))))
        obtain ⟨g', hg'⟩ : ∃ g', gk = g' + 1 := ⟨gk - 1, by have := HC.out.1; omega⟩
        subst hg'
        clear hc hs hs1 hk HIN hfr2 hf2 e1 e2
        go_wp2
        go_roundg g'
        case measure => omega
        case rel =>
          refine ⟨n, k2, F1, by have := HC.out.1; have := HM.out; omega, HE.out.1, HE.out.2.2.2.1, by rw [HE.out.2.2.2.2]; rfl, ?_, HI2.out, HE.out.2.1, HE.out.2.2.1⟩
          rw [← HC.out.2.2.2.2.1, HE.out.2.2.2.2, HK.out.1]
          rfl
end Go.Proofs.YtpfhollohodcjaaGreatDoor
