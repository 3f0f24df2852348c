/-
  Several texts in one: The walks over body and its closure (layer 23).
-/
import Derived.Test.YtpfhollohodcjaaGreatDoorYL
import Derived.Test.YtpfhollohodcjaaGreatDoorYM
/-! The walks over body and its closure (layer 23). -/
namespace Go.Proofs.YtpfhollohodcjaaGreatDoor
open Go.RowKit Go.Px Go.Px.Co Go.Px.Cm
/-- The boxes that body's closure holds, and the envelope. -/
structure BodW (w : World) (F : Nat → Prop) (pc px b be : Nat) (x : Co.Env) (vto : Value) : Prop where
  cc : w.cell? ⟨pc, 0, none⟩ = some (.pointer (some ⟨b, 0, none⟩))
  cx : w.cell? ⟨px, 0, none⟩ = some (.pointer (some ⟨be, 0, none⟩))
  ew : EnvW w F be x vto
  nf : ∀ q, q = pc ∨ q = px → ¬ (F q ∨ envFoot be vto q)
section
variable {w w' : World} {F F' : Nat → Prop} {pc px b be : Nat} {x x' : Co.Env} {vto vto' : Value}
theorem BodW.lt (h : BodW w F pc px b be x vto) : pc < w.heap.size ∧ px < w.heap.size :=
  ⟨World.block_lt_of_cell? _ _ h.cc, World.block_lt_of_cell? _ _ h.cx⟩
theorem BodW.next (h : BodW w F pc px b be x vto) (hf : Fr (fun q => F q ∨ envFoot be vto q) w w') (hs : Fresh w F F') (he : EnvW w' F' be x' vto') (hv : Fresh w (envFoot be vto) (envFoot be vto')) : BodW w' F' pc px b be x' vto' := by
  obtain ⟨l1, l2⟩ := h.lt
  refine ⟨(hf.cell (p := ⟨pc, 0, none⟩) l1 (h.nf pc (.inl rfl))).trans h.cc, (hf.cell (p := ⟨px, 0, none⟩) l2 (h.nf px (.inr rfl))).trans h.cx, he, fun q hq e => ?_⟩
  rcases e with e | e
  · rcases hs q e with y | y
    · exact h.nf q hq (.inl y)
    · rcases hq with rfl | rfl <;> omega
  · rcases hv q e with y | y
    · exact h.nf q hq (.inr y)
    · rcases hq with rfl | rfl <;> omega
theorem BodW.stable (h : BodW w F pc px b be x vto) (hf : Fr F w w') : BodW w' F pc px b be x vto := h.next (Fr.mono hf fun _ y => .inl y) (fresh_refl _ _) (h.ew.keep hf (fresh_refl _ _)) (fresh_refl _ _)
theorem BodW.setE (h : BodW w F pc px b be x vto) (i : Nat) (v : Value) (he : (envC x vto).setIfInBounds i v = envC x' vto) (ht : x'.to = x.to) : BodW (w.setCell ⟨be, i, none⟩ v) F pc px b be x' vto :=
  h.next (Fr.setCell (F := fun q => F q ∨ envFoot be vto q) (Fr.refl _ w) (p := ⟨be, i, none⟩) (.inl (.inr (.inl rfl))) v) (fresh_refl _ _) (h.ew.set i v he ht) (fresh_refl _ _)
end
def MidE (set : Bytes → Co.Env) (w : World) (pc px b be : Nat) (va : Value) (L : List Px.Node) (lim : Lim) (F : Nat → Prop) (vto : Value) (R : Except Int (Bytes × Cu)) (t : Value) (wx : World) : Prop := match R with
  | .ok (s, k1) => t = .nilIface ∧ CuAt wx b va L lim k1 F ∧ BodW wx F pc px b be (set s) vto ∧ Fr (fun q => F q ∨ envFoot be vto q) w wx
  | .error n => ErrV wx t n ∧ Fr (fun q => F q ∨ envFoot be vto q) w wx
theorem mid_ofE {set : Bytes → Co.Env} {w w2 : World} {pc px b be i : Nat} {va vto : Value} {L : List Px.Node} {lim : Lim} {F : Nat → Prop} {x : Co.Env} {R : Except Int (Bytes × Cu)} {e : Ending}
    (hset : ∀ s, (envC x vto).setIfInBounds i (S s) = envC (set s) vto ∧ (set s).to = x.to) (h : TkP S (S []) w b va L lim F R e w2) (hr : BodW w F pc px b be x vto) (hv : ∀ q, va.ownBlock = some q → q ≠ be) :
    ∃ s t, e = .returned (.tuple #[S s, t]) ∧ Fr F w w2 ∧ MidE set w pc px b be va L lim F vto R t (w2.setCell ⟨be, i, none⟩ (S s)) := by
  have hnb : ¬ F be := hr.ew.nf be (.inl rfl)
  cases R with
  | ok q =>
    obtain ⟨s, k1⟩ := q
    obtain ⟨e1, h1, h2⟩ := h
    refine ⟨s, .nilIface, e1, h2, rfl, ?_, ?_, ?_⟩
    · exact h1.setOut be i _ hnb hv
    · exact (hr.stable h2).setE i (S s) (hset s).1 (hset s).2
    · exact Fr.setCell (Fr.mono h2 fun _ x => .inl x) (p := ⟨be, i, none⟩) (.inl (.inr (.inl rfl))) _
  | error n =>
    obtain ⟨⟨v, e1, h1⟩, h2⟩ := h
    refine ⟨[], v, e1, h2, ?_, ?_⟩
    · exact h1.setB (Blk.fr hr.ew.eb h2 hnb) (by simp [envC])
    · exact Fr.setCell (Fr.mono h2 fun _ x => .inl x) (p := ⟨be, i, none⟩) (.inl (.inr (.inl rfl))) _
theorem MidE.base {set : Bytes → Co.Env} {w w0 wx : World} {pc px b be : Nat} {va vto : Value} {L : List Px.Node} {lim : Lim} {F : Nat → Prop} {R : Except Int (Bytes × Cu)} {t : Value} (h : MidE set w0 pc px b be va L lim F vto R t wx) (hs : Same w w0) : MidE set w pc px b be va L lim F vto R t wx := by
  cases R with
  | ok q =>
    obtain ⟨h1, h2, h3, h4⟩ := h
    exact ⟨h1, h2, h3, (hs.fr _).trans h4 fun _ _ x => x⟩
  | error n =>
    obtain ⟨h1, h2⟩ := h
    exact ⟨h1, (hs.fr _).trans h2 fun _ _ x => x⟩
/-- What recipients leaves. -/
def RecsP (w : World) (be : Nat) (x : Co.Env) (vto : Value) (rs : List Co.Rec) (F' : Nat → Prop) (w' : World) : Prop := ∃ vto', EnvW w' F' be { x with «to» := rs } vto' ∧ Fresh w (envFoot be vto) (envFoot be vto')
set_option maxRecDepth 100000 in
set_option maxHeartbeats 8000000 in
theorem cbody1_any (pc px b be : Nat) (va vto : Value) (L : List Px.Node) (lim : Lim) (k : Cu) (F : Nat → Prop) (x : Co.Env) (w : World) (h : CuAt w b va L lim k F) (hf : Fits L k) (hd : k.left.length ≤ 90) (hr : ∀ a ∈ L, E5.right a = true) (hl : 0 ≤ lim.r ∧ lim.r ≤ 4096) (hx : BodW w F pc px b be x vto) (hx0 : x.to = []) (hv : ∀ q, va.ownBlock = some q → ¬ envFoot be vto q) :
    Calls Tryz.prog 66 #[.pointer (some ⟨pc, 0, none⟩), .pointer (some ⟨px, 0, none⟩)] w (RunsE w b va L lim F (envFoot be vto) (RecsP w be x vto) (recips L lim k)) := by
  have HD := Px.hid (recips_any b be va vto L lim k F x w h hf hd hr hl hx.ew hx0 hv)
  obtain ⟨R, hR⟩ : ∃ R, R = recips L lim k := ⟨_, rfl⟩
  rw [← hR] at HD ⊢
  have c1 := hx.cc
  have c2 := hx.cx
  clear hR h hf hd hr hl hx hx0 hv
  go_enter Tryz.func66, Tryz.ntmps66
  go_wp2_with fail
  refine HD.out.mono ?_
  intro e w1 hT
  cases R with
  | error n =>
    obtain ⟨⟨v, rfl, fb, rfl, hb⟩, hs⟩ := hT
    have HE := Px.hid (And.intro hb hs)
    clear hb hs HD
    go_wp2
    go_ret
    exact ⟨⟨_, rfl, fb, rfl, HE.out.1⟩, HE.out.2⟩
  | ok q =>
    obtain ⟨d, k1⟩ := q
    obtain ⟨rfl, hq, hfr⟩ := hT
    have HE := Px.hid (And.intro hq hfr)
    clear hq hfr HD
    go_wp2
    go_ret
    exact ⟨rfl, HE.out.1, HE.out.2⟩
theorem RecsP.stable {w w1 w2 : World} {be : Nat} {x : Co.Env} {vto : Value} {rs : List Co.Rec} {F : Nat → Prop} (h : RecsP w be x vto rs F w1) (hf : Fr F w1 w2) : RecsP w be x vto rs F w2 := by
  obtain ⟨v, h1, h2⟩ := h
  exact ⟨v, h1.keep hf (fresh_refl _ _), h2⟩
theorem fr_both {F F1 E E1 : Nat → Prop} {w w6 w7 : World} (h : Fr (fun q => F q ∨ E q) w w6) (hs : Fresh w F F1) (he : Fresh w E E1) (k : Fr (fun q => F1 q ∨ E1 q) w6 w7) : Fr (fun q => F q ∨ E q) w w7 := Fr.trans h k fun q hq y => by
  rcases y with y | y
  · exact (hs q y).elim .inl (fun z => by omega)
  · exact (he q y).elim .inr (fun z => by omega)
/-- Body behind its recipients. -/
noncomputable def bodyD3 (L : List Px.Node) (rs : List Co.Rec) (a : (Nat × Bytes × Nat) × Bytes) (h : Bytes) : P Co.Env := bnd (octs L a.1.2.2 a.1.2.2 1) fun t => bar (fun c => peek L c == 0xa2) 11 (ret (envOf rs a h t))
noncomputable def bodyC3 (L : List Px.Node) (rs : List Co.Rec) (a : (Nat × Bytes × Nat) × Bytes) : P Co.Env := bnd (beside L) fun h => bodyD3 L rs a h
noncomputable def bodyB3 (L : List Px.Node) (lim : Lim) : P Co.Env := bnd (inn L 0x31 (recips L lim)) fun rs => bnd (content L) fun a => bodyC3 L rs a
def env0 : Co.Env := ⟨1, 0, [], [], [], [], [], [], []⟩
def BodP (N be : Nat) (e : Co.Env) (F' : Nat → Prop) (w' : World) : Prop := ∃ vto', EnvW w' F' be e vto' ∧ ∀ q, vto'.ownBlock = some q → N ≤ q
set_option maxRecDepth 100000 in
set_option maxHeartbeats 8000000 in
theorem cbody_any (N b be : Nat) (va vto : Value) (L : List Px.Node) (lim : Lim) (k : Cu) (F : Nat → Prop) (w : World) (h : CuAt w b va L lim k F) (hf : Fits L k) (hd : k.left.length ≤ 50) (hr : ∀ a ∈ L, E5.right a = true) (hl : 0 ≤ lim.r ∧ lim.r ≤ 4096) (hx : EnvW w F be env0 vto) (hv : ∀ q, va.ownBlock = some q → ¬ envFoot be vto q) (hT : Tabs w) (hF : ∀ q, q = 1 ∨ q = 2 → ¬ (F q ∨ envFoot be vto q)) (hN : N ≤ w.heap.size ∧ ∀ q, vto.ownBlock = some q → N ≤ q) :
    Calls Tryz.prog 28 #[.pointer (some ⟨b, 0, none⟩), .pointer (some ⟨be, 0, none⟩)] w (RunsE w b va L lim F (envFoot be vto) (BodP N be) (body L lim k)) := by
  obtain ⟨R, hR⟩ : ∃ R, R = body L lim k := ⟨_, rfl⟩
  rw [← hR]
  have HR := Px.hid hR
  obtain ⟨w3, hw3⟩ : ∃ w3, w3 = (w.alloc (.cells #[.pointer (some ⟨b, 0, none⟩)] 50)).alloc (.cells #[.pointer (some ⟨be, 0, none⟩)] 60) := ⟨_, rfl⟩
  have hs3 : Same w w3 := by rw [hw3]; exact ((Fr.refl _ _).alloc _).alloc _
  obtain ⟨pc, hpc⟩ : ∃ pc, pc = w.heap.size := ⟨_, rfl⟩
  obtain ⟨px, hpx⟩ : ∃ px, px = w.heap.size + 1 := ⟨_, rfl⟩
  have hbw : BodW w3 F pc px b be env0 vto := by
    have b0 := (blk_new w #[.pointer (some ⟨b, 0, none⟩)] 50).alloc (.cells #[.pointer (some ⟨be, 0, none⟩)] 60)
    have b1 := blk_new (w.alloc (.cells #[.pointer (some ⟨b, 0, none⟩)] 50)) #[.pointer (some ⟨be, 0, none⟩)] 60
    rw [show (w.alloc (.cells #[.pointer (some ⟨b, 0, none⟩)] 50)).heap.size = w.heap.size + 1 by simp] at b1
    rw [← hw3] at b0 b1
    rw [← hpc] at b0
    rw [← hpx] at b1
    refine ⟨b0.cell 0 rfl, b1.cell 0 rfl, hx.keep (hs3.fr F) (fresh_refl _ _), fun q hq e => ?_⟩
    rcases e with e | e
    · have := h.lt q e
      omega
    · have := hx.lt q e
      omega
  have HT := Px.hid (version_any b va L lim k F [0] w3 (h.same hs3) hf)
  have H := Px.hid (And.intro h (And.intro hf (And.intro hd (And.intro hr (And.intro hl (And.intro hx (And.intro hv (And.intro hT (And.intro hF (And.intro hs3 (And.intro (And.intro hpc hpx) hw3)))))))))))
  have HB3 := Px.hid hbw
  have HN := Px.hid hN
  have c1 := hbw.cc
  rw [hw3] at c1
  rw [hpc] at c1
  clear hN hR h hf hd hr hl hx hv hT hF hs3 hpc hpx hw3 hbw
  go_enter Tryz.func28, Tryz.ntmps28
  go_wp2_with fail
  rw [← H.out.2.2.2.2.2.2.2.2.2.2.2, ← H.out.2.2.2.2.2.2.2.2.2.2.1.2, ← H.out.2.2.2.2.2.2.2.2.2.2.1.1]
  refine HT.out.mono ?_
  intro e w4 hT
  clear c1 HT
  cases hk : version L [0] k with
  | error n =>
    rw [hk] at hT
    have HI := Px.hid (HR.out.trans (bnd_err hk))
    obtain ⟨⟨v, rfl, fb2, rfl, hfb⟩, hs⟩ := hT
    have HE := Px.hid (And.intro hfb ((H.out.2.2.2.2.2.2.2.2.2.1.fr F).trans hs fun _ _ y => y))
    clear hs hfb hk
    go_wp2
    go_ret
    rw [HI.out]
    exact ⟨⟨_, rfl, fb2, rfl, HE.out.1⟩, Fr.mono HE.out.2 fun _ y => .inl y⟩
  | ok q =>
    obtain ⟨u, k1⟩ := q
    rw [hk] at hT
    obtain ⟨rfl, hc, hs⟩ := hT
    have HI := Px.hid (HR.out.trans (bnd_ok hk))
    obtain ⟨hf1, hl1⟩ := eats_len (eats_version H.out.2.2.2.1 [0]) hk H.out.2.1
    have hb4 := HB3.out.stable hs
    have HTG := Px.hid (ctag_any b va L lim k1 F w4 hc hf1)
    have HW4 := Px.hid (And.intro hb4 (And.intro hc (And.intro ((H.out.2.2.2.2.2.2.2.2.2.1.fr F).trans hs fun _ _ y => y) (And.intro hf1 hl1))))
    have c1 := hb4.cc
    clear hb4 hc hs hf1 hl1 hk
    go_wp2_with fail
    refine HTG.out.mono ?_
    rintro e w5 ⟨rfl, hs5⟩
    have hb5 := HW4.out.1.stable (hs5.fr F)
    have HW5 := Px.hid (And.intro hb5 (And.intro (HW4.out.2.1.same hs5) (HW4.out.2.2.1.trans (hs5.fr F) fun _ _ y => y)))
    clear hs5 c1 HTG
    by_cases hp : peek L k1 = 160
    · have HI2 := Px.hid (HI.out.trans (if_pos (show (peek L k1 == 0xa0) = true by rw [hp]; rfl)))
      have hpz : (((peek L k1 : Nat) : Int) == 160) = true := by rw [hp]; rfl
      clear hp hb5
      go_wp2_with fail
      refine (wrong_any 11 _).mono ?_
      rintro e w6 ⟨v, rfl, he, hs6⟩
      have HE := Px.hid (And.intro he (HW5.out.2.2.trans (hs6.fr F) fun _ _ y => y))
      clear he hs6
      go_wp2
      go_ret
      rw [HI2.out]
      exact ⟨⟨v, rfl, HE.out.1⟩, Fr.mono HE.out.2 fun _ y => .inl y⟩
    · have HI2 : Hid (R = bodyB3 L lim k1) := Px.hid (HI.out.trans (if_neg (show ¬ (peek L k1 == 0xa0) = true by rw [beq_iff_eq]; exact hp)))
      have hpz : (((peek L k1 : Nat) : Int) == 160) = false := beq_eq_false_iff_ne.2 (by omega)
      obtain ⟨pk, hpk⟩ : ∃ pk, pk = peek L k1 := ⟨_, rfl⟩
      rw [← hpk] at hpz ⊢
      have hin := in_any b va L lim k1 F (envFoot be vto) 0x31 (by decide) (by decide) 66 #[.pointer (some ⟨pc, 0, none⟩), .pointer (some ⟨px, 0, none⟩)] (recips L lim) (RecsP w5 be env0 vto) w5 HW5.out.2.1 HW4.out.2.2.2.1 (by have := HW4.out.2.2.2.2; have := H.out.2.2.1; omega) H.out.2.2.2.1 (fun _ => rfl) (eats_true (eats_recips H.out.2.2.2.1 H.out.2.2.2.2.1.2)) (fun v F w w' h hf => h.stable hf)
        (fun w6 F1 k2 h1 h2 h3 h4 h5 => (cbody1_any pc px b be va vto L lim k2 F1 env0 w6 h1 h2 (by have := HW4.out.2.2.2.2; have := H.out.2.2.1; omega) H.out.2.2.2.1 H.out.2.2.2.2.1 (HW5.out.1.next (Fr.mono h4 fun _ y => .inl y) h5 (HW5.out.1.ew.keep h4 h5) (fresh_refl _ _)) rfl H.out.2.2.2.2.2.2.1).mono (fun e w' hq => by
          cases hrr : recips L lim k2 with
          | error n => rw [hrr] at hq; exact hq
          | ok z =>
            rw [hrr] at hq
            obtain ⟨q1, ⟨F2, q2, q3, v2, q4, q5⟩, q6⟩ := hq
            exact ⟨q1, ⟨F2, q2, q3, v2, q4, fun q hq => (q5 q hq).imp id (fun y => Nat.le_trans h4.size y)⟩, q6⟩))
      rw [show ((0x31 : UInt8).toNat) = 49 from rfl] at hin
      have HIN := Px.hid hin
      have c1 := hb5.cc
      clear hp hpk hin hb5
      go_wp2_with fail
      refine HIN.out.mono ?_
      intro e w6 hT
      clear c1 HIN
      cases hk : inn L 49 (recips L lim) k1 with
      | error n =>
        rw [hk] at hT
        have HI3 := Px.hid (HI2.out.trans (bnd_err hk))
        obtain ⟨⟨v, rfl, fb2, rfl, hfb⟩, hs⟩ := hT
        have HE := Px.hid (And.intro hfb ((Fr.mono HW5.out.2.2 (fun _ y => Or.inl y)).trans hs fun _ _ y => y))
        clear hs hfb hk
        go_wp2
        go_ret
        rw [HI3.out]
        exact ⟨⟨_, rfl, fb2, rfl, HE.out.1⟩, HE.out.2⟩
      | ok q =>
        obtain ⟨rs, k2⟩ := q
        rw [hk] at hT
        obtain ⟨rfl, ⟨F1, hc, hs1, v1, hev, hvf⟩, hs⟩ := hT
        have HI3 := Px.hid (HI2.out.trans (bnd_ok hk))
        obtain ⟨hf2, hl2⟩ := eats_len ((eats_recips H.out.2.2.2.1 H.out.2.2.2.2.1.2).inn H.out.2.2.2.1 (t := 0x31) (by decide) (by decide)) hk HW4.out.2.2.2.1
        obtain ⟨x1, hx1⟩ : ∃ x1 : Co.Env, x1 = { env0 with «to» := rs } := ⟨_, rfl⟩
        replace hev : EnvW w6 F1 be x1 v1 := by rw [hx1]; exact hev
        have hb6 := HW5.out.1.next hs hs1 hev hvf
        have hsz5 : w.heap.size ≤ w5.heap.size := HW5.out.2.2.size
        have hfs6 : Fresh w F F1 := fun q hq => (hs1 q hq).imp id (fun y => Nat.le_trans hsz5 y)
        have hvf6 : Fresh w (envFoot be vto) (envFoot be v1) := fun q hq => (hvf q hq).imp id (fun y => Nat.le_trans hsz5 y)
        have hva6 : ∀ q, va.ownBlock = some q → ¬ envFoot be v1 q := fun q hq e => (hvf6 q e).elim (H.out.2.2.2.2.2.2.1 q hq) (fun y => by have := H.out.1.va q hq; omega)
        have hfr6 : Fr (fun q => F q ∨ envFoot be vto q) w w6 := (Fr.mono HW5.out.2.2 (fun _ y => Or.inl y)).trans hs fun _ _ y => y
        have HCT := Px.hid (content_any b be va v1 L lim k2 F1 x1 w6 hc hf2 (by have := HW4.out.2.2.2.2; have := H.out.2.2.1; omega) H.out.2.2.2.1 hev hva6)
        have HW6 := Px.hid (And.intro hb6 (And.intro hc (And.intro hfr6 (And.intro hf2 (And.intro (show k2.left.length ≤ 50 by have := HW4.out.2.2.2.2; have := H.out.2.2.1; omega) (And.intro hfs6 (And.intro hvf6 (And.intro hva6 hx1))))))))
        have c1 := hb6.cc
        have c2 := hb6.cx
        clear hc hs1 hev hvf hs hf2 hl2 hx1 hb6 hsz5 hfs6 hvf6 hva6 hfr6 hk
        go_wp2_with fail
        refine HCT.out.mono ?_
        intro e w7 hT
        clear c1 c2 HCT
        cases hk : content L k2 with
        | error n =>
          rw [hk] at hT
          have HI4 := Px.hid (HI3.out.trans (bnd_err hk))
          obtain ⟨⟨m, v, rfl, fb2, rfl, hfb⟩, hs⟩ := hT
          have HE := Px.hid (And.intro hfb (fr_both HW6.out.2.2.1 HW6.out.2.2.2.2.2.1 HW6.out.2.2.2.2.2.2.1 hs))
          clear hs hfb hk
          go_wp2
          go_ret
          rw [HI4.out]
          exact ⟨⟨_, rfl, fb2, rfl, HE.out.1⟩, HE.out.2⟩
        | ok q =>
          obtain ⟨a, k3⟩ := q
          rw [hk] at hT
          obtain ⟨rfl, ⟨F2, hc, hs1, hev⟩, hs⟩ := hT
          have HI4 : Hid (R = bodyC3 L rs a k3) := Px.hid (HI3.out.trans (bnd_ok hk))
          obtain ⟨hf3, hl3⟩ := eats_len (eats_content H.out.2.2.2.1) hk HW6.out.2.2.2.1
          obtain ⟨_, _, _, _, ⟨hcok, _⟩, _⟩ := eats_content H.out.2.2.2.1 k2 a k3 hk HW6.out.2.2.2.1
          obtain ⟨x2, hx2⟩ : ∃ x2 : Co.Env, x2 = { x1 with alg := algsL.getD a.1.1 0, iv := a.1.2.1, cipher := a.2 } := ⟨_, rfl⟩
          replace hev : EnvW w7 F2 be x2 v1 := by rw [hx2]; exact hev
          obtain ⟨sz, hsz⟩ : ∃ sz, sz = a.1.2.2 := ⟨_, rfl⟩
          have hsz16 : sz ≤ 5000 := by
            rw [hsz]
            rcases hcok.2.2.1 with e | e
            · omega
            · unfold Cm.tagged at e
              split at e
              · simp only [Bool.and_eq_true, decide_eq_true_eq] at e
                omega
              · simp only [Bool.and_eq_true, decide_eq_true_eq] at e
                omega
          have hb7 := HW6.out.1.next hs hs1 hev (fresh_refl _ _)
          have hfs7 : Fresh w F F2 := fun q hq => (hs1 q hq).elim (HW6.out.2.2.2.2.2.1 q) (fun y => .inr (Nat.le_trans HW6.out.2.2.1.size y))
          have hfr7 := fr_both HW6.out.2.2.1 HW6.out.2.2.2.2.2.1 HW6.out.2.2.2.2.2.2.1 hs
          have HTG := Px.hid (ctag_any b va L lim k3 F2 w7 hc hf3)
          have HW7 := Px.hid (And.intro hb7 (And.intro hc (And.intro hfr7 (And.intro hf3 (And.intro hfs7 (And.intro hx2 (And.intro hsz (show k3.left.length ≤ 50 by have := HW6.out.2.2.2.2.1; omega))))))))
          have HSZ := Px.hid hsz16
          rw [← hsz]
          have c1 := hb7.cc
          clear hk hc hs1 hev hs hf3 hl3 hcok hx2 hsz hsz16 hb7 hfs7 hfr7
          go_wp2_with fail
          refine HTG.out.mono ?_
          rintro e w8 ⟨rfl, hs8⟩
          have HW8 := Px.hid (And.intro (HW7.out.1.stable (hs8.fr F2)) (And.intro (HW7.out.2.1.same hs8) (HW7.out.2.2.1.trans (hs8.fr _) fun _ _ y => y)))
          clear hs8 c1 HTG
          have HVE := Px.hid (show ∀ q, va.ownBlock = some q → q ≠ be from fun q hq e => HW6.out.2.2.2.2.2.2.2.1 q hq (.inl e))
          obtain ⟨vx, hvx⟩ : ∃ vx, vx = v1 := ⟨_, rfl⟩
          have HNV := Px.hid (show ∀ q, vx.ownBlock = some q → N ≤ q from fun q hq => by
            rw [hvx] at hq
            rcases HW6.out.2.2.2.2.2.2.1 q (.inr hq) with (y | y) | y
            · exact absurd hq (HW6.out.1.ew.ap.ne ∘ fun e => by rw [e, y])
            · exact HN.out.2 q y
            · exact Nat.le_trans HN.out.1 y)
          by_cases hp : peek L k3 = 161
          · have HI5 : Hid (R = bnd (attrs L) (fun h => bodyD3 L rs a h) k3) := Px.hid (HI4.out.trans (by
              show bnd (beside L) _ k3 = bnd (attrs L) _ k3
              unfold bnd beside
              rw [if_pos (show peek L k3 = 0xa1 from hp)]))
            have hpz : (((peek L k3 : Nat) : Int) == 161) = true := by rw [hp]; rfl
            have hT8 : Tabs w8 := Tabs.frg H.out.2.2.2.2.2.2.2.1 HW8.out.2.2 (H.out.2.2.2.2.2.2.2.2.1 _ (.inl rfl)) (H.out.2.2.2.2.2.2.2.2.1 _ (.inr rfl))
            have hlo : ∀ q, q < w.heap.size → ¬ F q → ¬ F2 q := fun q h1 h2 e => (HW7.out.2.2.2.2.1 q e).elim h2 (fun y => by omega)
            have l1 := World.block_lt_of_cell? _ _ (H.out.2.2.2.2.2.2.2.1.1 0 (by decide))
            have l2 := World.block_lt_of_cell? _ _ (H.out.2.2.2.2.2.2.2.1.2 0 (by decide)).1
            have HAT := Px.hid (attrs_any b be va v1 L lim k3 F2 x2 w8 HW8.out.2.1 HW7.out.2.2.2.1 (by have := HW7.out.2.2.2.2.2.2.2; omega) H.out.2.2.2.1 HW8.out.1.ew HW6.out.2.2.2.2.2.2.2.1 hp hT8 ⟨hlo _ l1 (fun e => H.out.2.2.2.2.2.2.2.2.1 _ (.inl rfl) (.inl e)), hlo _ l2 (fun e => H.out.2.2.2.2.2.2.2.2.1 _ (.inr rfl) (.inl e))⟩)
            have c1 := HW8.out.1.cc
            have c2 := HW8.out.1.cx
            clear hp hT8 hlo l1 l2
            go_wp2_with fail
            refine HAT.out.mono ?_
            intro e w9 hT
            clear c1 c2 HAT
            cases hk : attrs L k3 with
            | error n =>
              rw [hk] at hT
              have HI6 := Px.hid (HI5.out.trans (bnd_err hk))
              obtain ⟨⟨v, rfl, fb2, rfl, hfb⟩, hs⟩ := hT
              have HE := Px.hid (And.intro hfb (fr_both HW8.out.2.2 HW7.out.2.2.2.2.1 HW6.out.2.2.2.2.2.2.1 hs))
              clear hs hfb hk
              go_wp2
              go_ret
              rw [HI6.out]
              exact ⟨⟨_, rfl, fb2, rfl, HE.out.1⟩, HE.out.2⟩
            | ok q =>
              obtain ⟨hh, kx⟩ := q
              rw [hk] at hT
              obtain ⟨rfl, ⟨Fx, hc, hs1, hev⟩, hs⟩ := hT
              obtain ⟨xx, hxx⟩ : ∃ xx : Co.Env, xx = { x2 with header := hh } := ⟨_, rfl⟩
              replace hev : EnvW w9 Fx be xx v1 := by rw [hxx]; exact hev
              have HFX := Px.hid (eats_len (eats_attrs H.out.2.2.2.1) hk HW7.out.2.2.2.1).1
              have HIX : Hid (R = bnd (octs L sz sz 1) (fun t => bar (fun c => peek L c == 0xa2) 11 (ret (envOf rs a hh t))) kx) := Px.hid (by rw [HW7.out.2.2.2.2.2.2.1]; exact HI5.out.trans (bnd_ok hk))
              have HXX := Px.hid (show ∀ t, ({ xx with tag := t } : Co.Env) = envOf rs a hh t from fun t => by rw [hxx, HW7.out.2.2.2.2.2.1, HW6.out.2.2.2.2.2.2.2.2]; rfl)
              have HBW := Px.hid (HW8.out.1.next hs hs1 hev (fresh_refl _ _))
              have hfs9 : Fresh w F Fx := fun q hq => (hs1 q hq).elim (HW7.out.2.2.2.2.1 q) (fun y => .inr (Nat.le_trans HW8.out.2.2.size y))
              have HFS := Px.hid hfs9
              have HCU := Px.hid hc
              have HFW := Px.hid (show ∀ W, Fr (fun q => Fx q ∨ envFoot be vx q) w9 W → Fr (fun q => F q ∨ envFoot be vto q) w W from fun W hq => fr_both (fr_both HW8.out.2.2 HW7.out.2.2.2.2.1 HW6.out.2.2.2.2.2.2.1 hs) hfs9 HW6.out.2.2.2.2.2.2.1 (by rw [← hvx]; exact hq))
              subst hvx
              clear hk hc hs1 hev hs hxx hfs9
              go_wp2_with fail
              obtain ⟨R1, hR1⟩ : ∃ R1, R1 = octs L sz sz 1 kx := ⟨_, rfl⟩
              have HR1 := Px.hid hR1
              have f1 := HBW.out.cx
              have f2 := HBW.out.cc
              clear hR1
              go_upto_region 16 with fail
              go_cut [8] (fun t2 wx => MidE (fun s => { xx with tag := s }) w9 pc px b be va L lim Fx vx R1 t2 wx)
              case first =>
                obtain ⟨SS, hSS⟩ : ∃ SS : World → Prop, SS = (fun W : World => W.cell? ⟨px, 0, none⟩ = some (.pointer (some ⟨be, 0, none⟩)) ∧ W.cell? ⟨pc, 0, none⟩ = some (.pointer (some ⟨b, 0, none⟩))) := ⟨_, rfl⟩
                have hS0 : SS w9.drew := by rw [hSS]; exact ⟨f1, f2⟩
                refine wp_region_held_drew (S := SS) (by kernel_rfl) hS0 (fun hHeld => ?_)
                refine wpAnyH_take (i := 0) (v := ?_) rfl (by kernel_rfl) (by kernel_rfl) (by kernel_rfl) (fun _ _ _ h => h) (Or.inl ⟨by rfl, ?_⟩) (by assumption) ?_
                rotate_left
                · intro w hw
                  rw [hSS] at hw
                  obtain ⟨q1, q2⟩ := hw
                  go_simp
                  try (with_reducible rfl)
                change wpAnyH _ _ _ _ _ _ _ (Act.put _ (some 44) _) _
                simp only [Act.put, List.setIfInBounds_toArray, List.set_cons_zero, List.set_cons_succ]
                refine wpAnyH_take (i := 1) (v := ?_) rfl (by kernel_rfl) (by kernel_rfl) (by kernel_rfl) (fun _ _ _ h => h) (Or.inl ⟨by rfl, ?_⟩) (by assumption) ?_
                rotate_left
                · intro w hw
                  rw [hSS] at hw
                  obtain ⟨q1, q2⟩ := hw
                  go_simp
                  try (with_reducible rfl)
                change wpAnyH _ _ _ _ _ _ _ (Act.put _ (some 45) _) _
                simp only [Act.put, List.setIfInBounds_toArray, List.set_cons_zero, List.set_cons_succ]
                refine wpAnyH_take (i := 2) (v := ?_) rfl (by kernel_rfl) (by kernel_rfl) (by kernel_rfl) (fun _ _ _ h => h) (Or.inl ⟨by rfl, ?_⟩) (by assumption) ?_
                rotate_left
                · intro w hw
                  rw [hSS] at hw
                  obtain ⟨q1, q2⟩ := hw
                  go_simp
                  try (with_reducible rfl)
                change wpAnyH _ _ _ _ _ _ _ (Act.put _ (some 46) _) _
                simp only [Act.put, List.setIfInBounds_toArray, List.set_cons_zero, List.set_cons_succ]
                refine wpAnyH_take (i := 3) (v := ?_) rfl (by kernel_rfl) (by kernel_rfl) (by kernel_rfl) (fun _ _ _ h => h) (Or.inl ⟨by rfl, ?_⟩) (by assumption) ?_
                rotate_left
                · intro w hw
                  rw [hSS] at hw
                  obtain ⟨q1, q2⟩ := hw
                  go_simp
                  try (with_reducible rfl)
                change wpAnyH _ _ _ _ _ _ _ (Act.put _ (some 47) _) _
                simp only [Act.put, List.setIfInBounds_toArray, List.set_cons_zero, List.set_cons_succ]
                refine wpAnyH_ready (rs := [4]) (by kernel_rfl) (by simp) ?_
                refine AllReadyH.cons rfl (fun K hK => ?_) AllReadyH.nil
                go_simp
                refine (between_any sz sz 1 _).mono ?_
                rintro e wa ⟨rfl, hba, hbc, hbm, hsa⟩
                have hro := HBW.out.stable (Fr.drew (Fr.refl _ w9))
                have hrw := hro.stable (hsa.fr Fx)
                refine Shut.out hK _ _ ?_ (fun hHeld => ?_)
                · rw [hSS]
                  exact ⟨hrw.cx, hrw.cc⟩
                clear hK K
                refine wpAnyH_ready (rs := [5]) (by kernel_rfl) (by simp) ?_
                refine AllReadyH.cons rfl (fun K hK => ?_) AllReadyH.nil
                go_simp
                have hcu := (HCU.out.same (Fr.drew (Same.refl w9))).same hsa
                refine (octs_any b va L lim kx Fx _ sz sz 1 (by omega) ⟨HSZ.out, HSZ.out, by omega⟩ wa hcu HFX.out (may_of HCU.out.lt hba hbc hbm)).mono ?_
                intro e wb hT
                rw [← HR1.out] at hT
                obtain ⟨s, t, rfl, hfb, hmid⟩ := mid_ofE (i := 8) (set := fun s => { xx with tag := s }) (fun s => ⟨by simp [envC], rfl⟩) hT hrw HVE.out
                have hrx := hrw.stable hfb
                refine Shut.out hK _ _ ?_ (fun hHeld => ?_)
                · rw [hSS]
                  exact ⟨hrx.cx, hrx.cc⟩
                clear hK K
                refine wpAnyH_take (i := 6) (v := ?_) rfl (by kernel_rfl) (by kernel_rfl) (by kernel_rfl) (fun _ _ _ h => h) (Or.inl ⟨by rfl, ?_⟩) (by assumption) ?_
                rotate_left
                · intro w hw
                  rw [hSS] at hw
                  obtain ⟨q1, q2⟩ := hw
                  go_simp
                  try (with_reducible rfl)
                change wpAnyH _ _ _ _ _ _ _ (Act.put _ (some 43) _) _
                simp only [Act.put, List.setIfInBounds_toArray, List.set_cons_zero, List.set_cons_succ]
                refine wpAnyH_take (i := 7) (v := ?_) rfl (by kernel_rfl) (by kernel_rfl) (by kernel_rfl) (fun _ _ _ h => h) (Or.inl ⟨by rfl, ?_⟩) (by assumption) ?_
                rotate_left
                · intro w hw
                  rw [hSS] at hw
                  obtain ⟨q1, q2⟩ := hw
                  go_simp
                  try (with_reducible rfl)
                change wpAnyH _ _ _ _ _ _ _ (Act.put _ (some 50) _) _
                simp only [Act.put, List.setIfInBounds_toArray, List.set_cons_zero, List.set_cons_succ]
                refine wpAnyH_take (i := 8) (v := ?_) rfl (by kernel_rfl) (by kernel_rfl) (by kernel_rfl) (fun _ _ _ h => h) (Or.inl ⟨by rfl, ?_⟩) (by assumption) ?_
                rotate_left
                · intro w hw
                  rw [hSS] at hw
                  obtain ⟨q1, q2⟩ := hw
                  go_simp
                  try (with_reducible rfl)
                change wpAnyH _ _ _ _ _ _ _ (Act.put _ (some 51) _) _
                simp only [Act.put, List.setIfInBounds_toArray, List.set_cons_zero, List.set_cons_succ]
                refine wpAnyH_take (i := 9) (v := ?_) rfl (by kernel_rfl) (by kernel_rfl) (by kernel_rfl) (fun _ _ _ h => h) (Or.inl ⟨by rfl, ?_⟩) (by assumption) ?_
                rotate_left
                · intro w hw
                  rw [hSS] at hw
                  obtain ⟨q1, q2⟩ := hw
                  go_simp
                  try (with_reducible rfl)
                change wpAnyH _ _ _ _ _ _ _ (Act.put _ (some 52) _) _
                simp only [Act.put, List.setIfInBounds_toArray, List.set_cons_zero, List.set_cons_succ]
                refine wpAnyH_take (i := 10) (v := ?_) rfl (by kernel_rfl) (by kernel_rfl) (by kernel_rfl) (fun _ _ _ h => h) (Or.inl ⟨by rfl, ?_⟩) (by assumption) ?_
                rotate_left
                · intro w hw
                  rw [hSS] at hw
                  obtain ⟨q1, q2⟩ := hw
                  go_simp
                  try (with_reducible rfl)
                change wpAnyH _ _ _ _ _ _ _ (Act.put _ (some 53) _) _
                simp only [Act.put, List.setIfInBounds_toArray, List.set_cons_zero, List.set_cons_succ]
                have fb := Blk.free hrx.ew.eb 8
                have k0 := Blk.cell hrx.ew.eb 8 rfl
                refine wpAnyH_ready (rs := [11]) (by kernel_rfl) (by simp) ?_
                refine AllReadyH.cons rfl (fun K hK => ?_) AllReadyH.nil
                go_simp
                refine Shut.out hK _ _ ?_ (fun hHeld => ?_)
                · rw [hSS]
                  have hrx2 := hrx.setE (x' := { xx with tag := s }) 8 (S s) (by simp [envC]) rfl
                  exact ⟨hrx2.cx, hrx2.cc⟩
                clear hK K
                refine wpAnyH_take (i := 12) (v := ?_) rfl (by kernel_rfl) (by kernel_rfl) (by kernel_rfl) (fun _ _ _ h => h) (Or.inl ⟨by rfl, ?_⟩) (by assumption) ?_
                rotate_left
                · intro w hw
                  rw [hSS] at hw
                  obtain ⟨q1, q2⟩ := hw
                  go_simp
                  try (with_reducible rfl)
                change wpAnyH _ _ _ _ _ _ _ (Act.put _ (some 8) _) _
                simp only [Act.put, List.setIfInBounds_toArray, List.set_cons_zero, List.set_cons_succ]
                refine wpAnyH_done (by kernel_rfl) ?_ _
                go_wp2_with fail
                go_meet
                exact hmid.base (Same.trans (Fr.drew (Fr.refl _ w9)) hsa)
              case rest =>
                clear f1 f2
                have hR1 := HR1.out
                clear HR1
                cases R1 with
                | error n =>
                  have HI9 := Px.hid (HIX.out.trans (bnd_err hR1.symm))
                  obtain ⟨⟨fb, rfl, hb⟩, hs⟩ := hcut
                  have HE := Px.hid (And.intro hb (HFW.out _ hs))
                  clear hb hs hR1
                  go_wp2
                  go_ret
                  rw [HI9.out]
                  exact ⟨⟨_, rfl, fb, rfl, HE.out.1⟩, HE.out.2⟩
                | ok q =>
                  obtain ⟨s, k9⟩ := q
                  obtain ⟨rfl, hc, hbw, hs⟩ := hcut
                  have HI9 := Px.hid (HIX.out.trans (bnd_ok hR1.symm))
                  obtain ⟨hf9, _⟩ := eats_len (eats_octs H.out.2.2.2.1 _ _ _) hR1.symm HFX.out
                  have HTG := Px.hid (ctag_any b va L lim k9 Fx _ hc hf9)
                  have c9 := hbw.cc
                  have HE := Px.hid (And.intro hc (And.intro hbw (HFW.out _ hs)))
                  clear hc hbw hs hR1 hf9
                  go_wp2_with fail
                  refine HTG.out.mono ?_
                  rintro e wz ⟨rfl, hsz⟩
                  have HSZ2 := Px.hid hsz
                  clear hsz c9 HTG
                  by_cases hp9 : peek L k9 = 162
                  · have HI10 := Px.hid (HI9.out.trans (if_pos (show (peek L k9 == 0xa2) = true by rw [hp9]; rfl)))
                    have hpz : (((peek L k9 : Nat) : Int) == 162) = true := by rw [hp9]; rfl
                    clear hp9
                    go_wp2_with fail
                    refine (wrong_any 11 _).mono ?_
                    rintro e wy ⟨v, rfl, he, hsy⟩
                    have HE2 := Px.hid (And.intro he (HSZ2.out.trans hsy))
                    clear he hsy
                    go_wp2
                    go_ret
                    rw [HI10.out]
                    exact ⟨⟨v, rfl, HE2.out.1⟩, HE.out.2.2.trans (HE2.out.2.fr _) fun _ _ y => y⟩
                  · have HI10 := Px.hid (HI9.out.trans (if_neg (show ¬ (peek L k9 == 0xa2) = true by rw [beq_iff_eq]; exact hp9)))
                    have hpz : (((peek L k9 : Nat) : Int) == 162) = false := beq_eq_false_iff_ne.2 (by omega)
                    obtain ⟨pk9, hpk9⟩ : ∃ pk9, pk9 = peek L k9 := ⟨_, rfl⟩
                    rw [← hpk9] at hpz ⊢
                    clear hp9 hpk9
                    go_wp2
                    go_ret
                    rw [HI10.out]
                    refine ⟨rfl, ⟨Fx, HE.out.1.same HSZ2.out, HFS.out, vx, ?_, HNV.out⟩, HE.out.2.2.trans (HSZ2.out.fr _) fun _ _ y => y⟩
                    have := (HE.out.2.1.stable (HSZ2.out.fr Fx)).ew
                    rw [HXX.out] at this
                    exact this
          · have HIX : Hid (R = bnd (octs L sz sz 1) (fun t => bar (fun c => peek L c == 0xa2) 11 (ret (envOf rs a [] t))) k3) := Px.hid (HI4.out.trans (by
              rw [HW7.out.2.2.2.2.2.2.1]
              show bnd (beside L) _ k3 = _
              refine bnd_ok ?_
              unfold beside
              rw [if_neg (show ¬ peek L k3 = 0xa1 from hp)]))
            have hpz : (((peek L k3 : Nat) : Int) == 161) = false := beq_eq_false_iff_ne.2 (by omega)
            obtain ⟨pk3, hpk3⟩ : ∃ pk3, pk3 = peek L k3 := ⟨_, rfl⟩
            rw [← hpk3] at hpz ⊢
            have HFX := Px.hid HW7.out.2.2.2.1
            obtain ⟨xx, hxx⟩ : ∃ xx : Co.Env, xx = x2 := ⟨_, rfl⟩
            have HXX := Px.hid (show ∀ t, ({ xx with tag := t } : Co.Env) = envOf rs a [] t from fun t => by rw [hxx, HW7.out.2.2.2.2.2.1, HW6.out.2.2.2.2.2.2.2.2]; rfl)
            have HBW := Px.hid HW8.out.1
            have HFS := Px.hid HW7.out.2.2.2.2.1
            have HCU := Px.hid HW8.out.2.1
            have HFW := Px.hid (show ∀ W, Fr (fun q => F2 q ∨ envFoot be vx q) w8 W → Fr (fun q => F q ∨ envFoot be vto q) w W from fun W hq => fr_both HW8.out.2.2 HW7.out.2.2.2.2.1 HW6.out.2.2.2.2.2.2.1 (by rw [← hvx]; exact hq))
            subst hvx hxx
            clear hp hpk3
            go_wp2_with fail
            obtain ⟨R1, hR1⟩ : ∃ R1, R1 = octs L sz sz 1 k3 := ⟨_, rfl⟩
            have HR1 := Px.hid hR1
            have f1 := HBW.out.cx
            have f2 := HBW.out.cc
            clear hR1
            go_upto_region 16 with fail
            go_cut [8] (fun t2 wx => MidE (fun s => { xx with tag := s }) w8 pc px b be va L lim F2 vx R1 t2 wx)
            case first =>
              obtain ⟨SS, hSS⟩ : ∃ SS : World → Prop, SS = (fun W : World => W.cell? ⟨px, 0, none⟩ = some (.pointer (some ⟨be, 0, none⟩)) ∧ W.cell? ⟨pc, 0, none⟩ = some (.pointer (some ⟨b, 0, none⟩))) := ⟨_, rfl⟩
              have hS0 : SS w8.drew := by rw [hSS]; exact ⟨f1, f2⟩
              refine wp_region_held_drew (S := SS) (by kernel_rfl) hS0 (fun hHeld => ?_)
              refine wpAnyH_take (i := 0) (v := ?_) rfl (by kernel_rfl) (by kernel_rfl) (by kernel_rfl) (fun _ _ _ h => h) (Or.inl ⟨by rfl, ?_⟩) (by assumption) ?_
              rotate_left
              · intro w hw
                rw [hSS] at hw
                obtain ⟨q1, q2⟩ := hw
                go_simp
                try (with_reducible rfl)
              change wpAnyH _ _ _ _ _ _ _ (Act.put _ (some 44) _) _
              simp only [Act.put, List.setIfInBounds_toArray, List.set_cons_zero, List.set_cons_succ]
              refine wpAnyH_take (i := 1) (v := ?_) rfl (by kernel_rfl) (by kernel_rfl) (by kernel_rfl) (fun _ _ _ h => h) (Or.inl ⟨by rfl, ?_⟩) (by assumption) ?_
              rotate_left
              · intro w hw
                rw [hSS] at hw
                obtain ⟨q1, q2⟩ := hw
                go_simp
                try (with_reducible rfl)
              change wpAnyH _ _ _ _ _ _ _ (Act.put _ (some 45) _) _
              simp only [Act.put, List.setIfInBounds_toArray, List.set_cons_zero, List.set_cons_succ]
              refine wpAnyH_take (i := 2) (v := ?_) rfl (by kernel_rfl) (by kernel_rfl) (by kernel_rfl) (fun _ _ _ h => h) (Or.inl ⟨by rfl, ?_⟩) (by assumption) ?_
              rotate_left
              · intro w hw
                rw [hSS] at hw
                obtain ⟨q1, q2⟩ := hw
                go_simp
                try (with_reducible rfl)
              change wpAnyH _ _ _ _ _ _ _ (Act.put _ (some 46) _) _
              simp only [Act.put, List.setIfInBounds_toArray, List.set_cons_zero, List.set_cons_succ]
              refine wpAnyH_take (i := 3) (v := ?_) rfl (by kernel_rfl) (by kernel_rfl) (by kernel_rfl) (fun _ _ _ h => h) (Or.inl ⟨by rfl, ?_⟩) (by assumption) ?_
              rotate_left
              · intro w hw
                rw [hSS] at hw
                obtain ⟨q1, q2⟩ := hw
                go_simp
                try (with_reducible rfl)
              change wpAnyH _ _ _ _ _ _ _ (Act.put _ (some 47) _) _
              simp only [Act.put, List.setIfInBounds_toArray, List.set_cons_zero, List.set_cons_succ]
              refine wpAnyH_ready (rs := [4]) (by kernel_rfl) (by simp) ?_
              refine AllReadyH.cons rfl (fun K hK => ?_) AllReadyH.nil
              go_simp
              refine (between_any sz sz 1 _).mono ?_
              rintro e wa ⟨rfl, hba, hbc, hbm, hsa⟩
              have hro := HBW.out.stable (Fr.drew (Fr.refl _ w8))
              have hrw := hro.stable (hsa.fr F2)
              refine Shut.out hK _ _ ?_ (fun hHeld => ?_)
              · rw [hSS]
                exact ⟨hrw.cx, hrw.cc⟩
              clear hK K
              refine wpAnyH_ready (rs := [5]) (by kernel_rfl) (by simp) ?_
              refine AllReadyH.cons rfl (fun K hK => ?_) AllReadyH.nil
              go_simp
              have hcu := (HCU.out.same (Fr.drew (Same.refl w8))).same hsa
              refine (octs_any b va L lim k3 F2 _ sz sz 1 (by omega) ⟨HSZ.out, HSZ.out, by omega⟩ wa hcu HFX.out (may_of HCU.out.lt hba hbc hbm)).mono ?_
              intro e wb hT
              rw [← HR1.out] at hT
              obtain ⟨s, t, rfl, hfb, hmid⟩ := mid_ofE (i := 8) (set := fun s => { xx with tag := s }) (fun s => ⟨by simp [envC], rfl⟩) hT hrw HVE.out
              have hrx := hrw.stable hfb
              refine Shut.out hK _ _ ?_ (fun hHeld => ?_)
              · rw [hSS]
                exact ⟨hrx.cx, hrx.cc⟩
              clear hK K
              refine wpAnyH_take (i := 6) (v := ?_) rfl (by kernel_rfl) (by kernel_rfl) (by kernel_rfl) (fun _ _ _ h => h) (Or.inl ⟨by rfl, ?_⟩) (by assumption) ?_
              rotate_left
              · intro w hw
                rw [hSS] at hw
                obtain ⟨q1, q2⟩ := hw
                go_simp
                try (with_reducible rfl)
              change wpAnyH _ _ _ _ _ _ _ (Act.put _ (some 43) _) _
              simp only [Act.put, List.setIfInBounds_toArray, List.set_cons_zero, List.set_cons_succ]
              refine wpAnyH_take (i := 7) (v := ?_) rfl (by kernel_rfl) (by kernel_rfl) (by kernel_rfl) (fun _ _ _ h => h) (Or.inl ⟨by rfl, ?_⟩) (by assumption) ?_
              rotate_left
              · intro w hw
                rw [hSS] at hw
                obtain ⟨q1, q2⟩ := hw
                go_simp
                try (with_reducible rfl)
              change wpAnyH _ _ _ _ _ _ _ (Act.put _ (some 50) _) _
              simp only [Act.put, List.setIfInBounds_toArray, List.set_cons_zero, List.set_cons_succ]
              refine wpAnyH_take (i := 8) (v := ?_) rfl (by kernel_rfl) (by kernel_rfl) (by kernel_rfl) (fun _ _ _ h => h) (Or.inl ⟨by rfl, ?_⟩) (by assumption) ?_
              rotate_left
              · intro w hw
                rw [hSS] at hw
                obtain ⟨q1, q2⟩ := hw
                go_simp
                try (with_reducible rfl)
              change wpAnyH _ _ _ _ _ _ _ (Act.put _ (some 51) _) _
              simp only [Act.put, List.setIfInBounds_toArray, List.set_cons_zero, List.set_cons_succ]
              refine wpAnyH_take (i := 9) (v := ?_) rfl (by kernel_rfl) (by kernel_rfl) (by kernel_rfl) (fun _ _ _ h => h) (Or.inl ⟨by rfl, ?_⟩) (by assumption) ?_
              rotate_left
              · intro w hw
                rw [hSS] at hw
                obtain ⟨q1, q2⟩ := hw
                go_simp
                try (with_reducible rfl)
              change wpAnyH _ _ _ _ _ _ _ (Act.put _ (some 52) _) _
              simp only [Act.put, List.setIfInBounds_toArray, List.set_cons_zero, List.set_cons_succ]
              refine wpAnyH_take (i := 10) (v := ?_) rfl (by kernel_rfl) (by kernel_rfl) (by kernel_rfl) (fun _ _ _ h => h) (Or.inl ⟨by rfl, ?_⟩) (by assumption) ?_
              rotate_left
              · intro w hw
                rw [hSS] at hw
                obtain ⟨q1, q2⟩ := hw
                go_simp
                try (with_reducible rfl)
              change wpAnyH _ _ _ _ _ _ _ (Act.put _ (some 53) _) _
              simp only [Act.put, List.setIfInBounds_toArray, List.set_cons_zero, List.set_cons_succ]
              have fb := Blk.free hrx.ew.eb 8
              have k0 := Blk.cell hrx.ew.eb 8 rfl
              refine wpAnyH_ready (rs := [11]) (by kernel_rfl) (by simp) ?_
              refine AllReadyH.cons rfl (fun K hK => ?_) AllReadyH.nil
              go_simp
              refine Shut.out hK _ _ ?_ (fun hHeld => ?_)
              · rw [hSS]
                have hrx2 := hrx.setE (x' := { xx with tag := s }) 8 (S s) (by simp [envC]) rfl
                exact ⟨hrx2.cx, hrx2.cc⟩
              clear hK K
              refine wpAnyH_take (i := 12) (v := ?_) rfl (by kernel_rfl) (by kernel_rfl) (by kernel_rfl) (fun _ _ _ h => h) (Or.inl ⟨by rfl, ?_⟩) (by assumption) ?_
              rotate_left
              · intro w hw
                rw [hSS] at hw
                obtain ⟨q1, q2⟩ := hw
                go_simp
                try (with_reducible rfl)
              change wpAnyH _ _ _ _ _ _ _ (Act.put _ (some 8) _) _
              simp only [Act.put, List.setIfInBounds_toArray, List.set_cons_zero, List.set_cons_succ]
              refine wpAnyH_done (by kernel_rfl) ?_ _
              go_wp2_with fail
              go_meet
              exact hmid.base (Same.trans (Fr.drew (Fr.refl _ w8)) hsa)
            case rest =>
              clear f1 f2
              have hR1 := HR1.out
              clear HR1
              cases R1 with
              | error n =>
                have HI9 := Px.hid (HIX.out.trans (bnd_err hR1.symm))
                obtain ⟨⟨fb, rfl, hb⟩, hs⟩ := hcut
                have HE := Px.hid (And.intro hb (HFW.out _ hs))
                clear hb hs hR1
                go_wp2
                go_ret
                rw [HI9.out]
                exact ⟨⟨_, rfl, fb, rfl, HE.out.1⟩, HE.out.2⟩
              | ok q =>
                obtain ⟨s, k9⟩ := q
                obtain ⟨rfl, hc, hbw, hs⟩ := hcut
                have HI9 := Px.hid (HIX.out.trans (bnd_ok hR1.symm))
                obtain ⟨hf9, _⟩ := eats_len (eats_octs H.out.2.2.2.1 _ _ _) hR1.symm HFX.out
                have HTG := Px.hid (ctag_any b va L lim k9 F2 _ hc hf9)
                have c9 := hbw.cc
                have HE := Px.hid (And.intro hc (And.intro hbw (HFW.out _ hs)))
                clear hc hbw hs hR1 hf9
                go_wp2_with fail
                refine HTG.out.mono ?_
                rintro e wz ⟨rfl, hsz⟩
                have HSZ2 := Px.hid hsz
                clear hsz c9 HTG
                by_cases hp9 : peek L k9 = 162
                · have HI10 := Px.hid (HI9.out.trans (if_pos (show (peek L k9 == 0xa2) = true by rw [hp9]; rfl)))
                  have hpz : (((peek L k9 : Nat) : Int) == 162) = true := by rw [hp9]; rfl
                  clear hp9
                  go_wp2_with fail
                  refine (wrong_any 11 _).mono ?_
                  rintro e wy ⟨v, rfl, he, hsy⟩
                  have HE2 := Px.hid (And.intro he (HSZ2.out.trans hsy))
                  clear he hsy
                  go_wp2
                  go_ret
                  rw [HI10.out]
                  exact ⟨⟨v, rfl, HE2.out.1⟩, HE.out.2.2.trans (HE2.out.2.fr _) fun _ _ y => y⟩
                · have HI10 := Px.hid (HI9.out.trans (if_neg (show ¬ (peek L k9 == 0xa2) = true by rw [beq_iff_eq]; exact hp9)))
                  have hpz : (((peek L k9 : Nat) : Int) == 162) = false := beq_eq_false_iff_ne.2 (by omega)
                  obtain ⟨pk9, hpk9⟩ : ∃ pk9, pk9 = peek L k9 := ⟨_, rfl⟩
                  rw [← hpk9] at hpz ⊢
                  clear hp9 hpk9
                  go_wp2
                  go_ret
                  rw [HI10.out]
                  refine ⟨rfl, ⟨F2, HE.out.1.same HSZ2.out, HFS.out, vx, ?_, HNV.out⟩, HE.out.2.2.trans (HSZ2.out.fr _) fun _ _ y => y⟩
                  have := (HE.out.2.1.stable (HSZ2.out.fr F2)).ew
                  rw [HXX.out] at this
                  exact this
end Go.Proofs.YtpfhollohodcjaaGreatDoor
