/-
  Several texts in one: Elements that stand in a list, and what lies behind one; what else layer 23 reads (plain law). No program is named here.
-/
import Derived.Test.YtpfhollohodcjaaGreatDoorXW
/-! Elements that stand in a list, and what lies behind one; what else layer 23 reads (plain law). No program is named here. -/
namespace Go.Px.E5
/-- What comes behind one that has ended. -/
def aft (left : List Nat) (r : List Node) (most i : Nat) : Option Nat × Nat := if (pops left).isEmpty then (some i, most) else behind r (pops left) most i
theorem aft_zero (left : List Nat) (r : List Node) (most i : Nat) : aft (0 :: left) r most i = aft left r most i := by
  unfold aft
  rw [pops, if_pos rfl]
theorem aft_live (n : Nat) (left : List Nat) (r : List Node) (most i : Nat) : aft ((n + 1) :: left) r most i = behind r ((n + 1) :: left) most i := by
  unfold aft
  rw [pops, if_neg (Nat.succ_ne_zero n)]
  rfl
theorem behind_cons {a : Node} {r : List Node} {left : List Nat} {most i : Nat} (h : right a = true) : behind (a :: r) left most i = aft (if leaf a then dec left else count a :: dec left) r (max most (if leaf a then dec left else count a :: dec left).length) (i + 1) := by
  have hk : ¬ a.kids < -1 := by
    unfold right at h
    simp only [Bool.and_eq_true, decide_eq_true_eq] at h
    have := h.1.1.2
    omega
  rw [behind, if_neg hk]
  rfl
def BehIt (d : Nat) : Prop := ∀ x b o, El d x b o → ∀ (left : List Nat) (r : List Node) (most i : Nat), ∃ m1, behind (x ++ r) left most i = aft (dec left) r m1 (i + x.length)
theorem beh_kids {d : Nat} (ih : BehIt d) {set : Bool} : ∀ (m : Nat) (last : Bytes) (x : List Node) (b : Bytes) (o : Bool), Kids (El d) set m last x b o → ∀ (left : List Nat) (r : List Node) (most i : Nat), ∃ m1, aft (m :: left) (x ++ r) most i = aft left r m1 (i + x.length)
  | 0, last, x, b, o, h, left, r, most, i => by
    obtain ⟨rfl, _⟩ := h
    exact ⟨most, by rw [aft_zero]; rfl⟩
  | m + 1, last, x, b, o, h, left, r, most, i => by
    obtain ⟨x1, y, bx, br, o1, o2, rfl, _, h1, h2, _⟩ := h
    obtain ⟨m1, e1⟩ := ih x1 bx o1 h1 ((m + 1) :: left) (y ++ r) most i
    obtain ⟨m2, e2⟩ := beh_kids ih m bx y br o2 h2 left r m1 (i + x1.length)
    refine ⟨m2, ?_⟩
    rw [aft_live, List.append_assoc, e1]
    show aft (m :: left) (y ++ r) m1 (i + x1.length) = _
    rw [e2, List.length_append, Nat.add_assoc]
theorem beh_it : ∀ d, BehIt d
  | 0 => by
    intro x b o h left r most i
    obtain ⟨a, rfl, h1, h2, _⟩ := h
    refine ⟨max most (dec left).length, ?_⟩
    rw [List.singleton_append, behind_cons h1, if_pos h2]
    rfl
  | d + 1 => by
    intro x b o h left r most i
    rcases h with ⟨a, rfl, h1, h2, _⟩ | ⟨a, r', br, rfl, h1, h2, hk, _⟩
    · refine ⟨max most (dec left).length, ?_⟩
      rw [List.singleton_append, behind_cons h1, if_pos h2]
      rfl
    · rw [List.cons_append, behind_cons h1, if_neg (by rw [h2]; decide)]
      obtain ⟨m1, e⟩ := beh_kids (beh_it d) _ _ _ _ _ hk (dec left) r (max most (count a :: dec left).length) (i + 1)
      rw [e]
      exact ⟨m1, by rw [List.length_cons, Nat.add_assoc, Nat.add_comm 1]⟩
theorem El.beh {d : Nat} {x : List Node} {b : Bytes} {o : Bool} (h : El d x b o) (r : List Node) (i : Nat) : ∃ m, behind (x ++ r) [] 0 i = (some (i + x.length), m) := by
  obtain ⟨m1, e⟩ := beh_it d x b o h [] r 0 i
  exact ⟨m1, e⟩
/-! The program counts how many elements are left -/
/-- From a count and a place: the place at which the count is none. -/
def cnt (L : List Node) : Nat → Nat → Nat → Option Nat
  | 0, _, _ => none
  | f + 1, left, p => if left = 0 then some p else match L[p]? with
    | none => none
    | some a => cnt L f (left + a.kids.toNat - 1) (p + 1)
def CntIt (d : Nat) : Prop := ∀ x b o, El d x b o → ∀ (L r : List Node) (p f left : Nat), L.drop p = x ++ r → cnt L (f + x.length) (left + 1) p = cnt L f left (p + x.length)
theorem cnt_step {L r : List Node} {a : Node} {p f left : Nat} (h : L.drop p = a :: r) : cnt L (f + 1) (left + 1) p = cnt L f (left + a.kids.toNat) (p + 1) := by
  have e : L[p]? = some a := by
    have := congrArg (fun l => l[0]?) h
    simpa using this
  rw [cnt, if_neg (by omega), e]
  show cnt L f (left + 1 + a.kids.toNat - 1) (p + 1) = _
  rw [show left + 1 + a.kids.toNat - 1 = left + a.kids.toNat by omega]
theorem drop_next {L r : List Node} {a : Node} {p : Nat} (h : L.drop p = a :: r) : L.drop (p + 1) = r := by
  rw [← List.drop_drop, h]
  rfl
theorem cnt_kids {d : Nat} (ih : CntIt d) {set : Bool} : ∀ (m : Nat) (last : Bytes) (x : List Node) (b : Bytes) (o : Bool), Kids (El d) set m last x b o → ∀ (L r : List Node) (p f left : Nat), L.drop p = x ++ r → cnt L (f + x.length) (left + m) p = cnt L f left (p + x.length)
  | 0, last, x, b, o, h, L, r, p, f, left, hL => by
    obtain ⟨rfl, _⟩ := h
    rfl
  | m + 1, last, x, b, o, h, L, r, p, f, left, hL => by
    obtain ⟨x1, y, bx, br, o1, o2, rfl, _, h1, h2, _⟩ := h
    rw [List.append_assoc] at hL
    have hL2 : L.drop (p + x1.length) = y ++ r := by rw [← List.drop_drop, hL, List.drop_left]
    have e1 := ih x1 bx o1 h1 L (y ++ r) p (f + y.length) (left + m) hL
    have e2 := cnt_kids ih m bx y br o2 h2 L r (p + x1.length) f left hL2
    rw [List.length_append, show f + (x1.length + y.length) = f + y.length + x1.length by omega, show left + (m + 1) = left + m + 1 by omega, e1, e2, Nat.add_assoc]
theorem leaf_kids {a : Node} (h : leaf a = true) : a.kids.toNat = 0 := by
  have : decide (a.kids < 0) = true := h
  simp only [decide_eq_true_eq] at this
  omega
theorem cnt_it : ∀ d, CntIt d
  | 0 => by
    intro x b o h L r p f left hL
    obtain ⟨a, rfl, _, h2, _⟩ := h
    rw [List.length_singleton, cnt_step hL, leaf_kids h2]
    rfl
  | d + 1 => by
    intro x b o h L r p f left hL
    rcases h with ⟨a, rfl, _, h2, _⟩ | ⟨a, r', br, rfl, _, h2, hk, _⟩
    · rw [List.length_singleton, cnt_step hL, leaf_kids h2]
      rfl
    · have hL2 : L.drop (p + 1) = r' ++ r := drop_next hL
      rw [List.length_cons, ← Nat.add_assoc, cnt_step hL]
      rw [show a.kids.toNat = count a from rfl, cnt_kids (cnt_it d) _ _ _ _ _ hk L r (p + 1) f left hL2, Nat.add_assoc, Nat.add_comm 1]
theorem El.cnt {d : Nat} {x : List Node} {b : Bytes} {o : Bool} (h : El d x b o) {L r : List Node} {p : Nat} (hL : L.drop p = x ++ r) : E5.cnt L (x.length + 1) 1 p = some (p + x.length) := by
  rw [show x.length + 1 = 1 + x.length by omega, cnt_it d x b o h L r p 1 0 hL]
  rfl
end Go.Px.E5
namespace Go.Px.Cm
open E5 Co
theorem nx_of {l x r : List Node} {p d : Nat} {b : Bytes} {o : Bool} (h : El d x b o) (hl : l.drop p = x ++ r) : nx l p = p + x.length := by
  obtain ⟨m, e⟩ := h.beh r 0
  unfold nx
  rw [hl, e]
  show p + (0 + x.length) = _
  omega
/-! What is sealed -/
def sizeUs (iv : Bytes) (n : Nat) : List (List Node) := if n = 12 then [lf 4 iv] else [lf 4 iv, lf 2 (numB n)]
def algT (alg : Int) : List Node := lf 6 (match algsL.findIdx? (fun a => a == alg) with
  | some i => sixT.getD i []
  | none => [])
def contT (alg : Int) (iv s : Bytes) (n : Nat) : List Node := ofT 0x30 [lf 6 dataT, ofT 0x30 [algT alg, ofT 0x30 (sizeUs iv n)], lf 0x80 s]
def ivOk (i : Nat) (iv : Bytes) : Prop := (if 2 < i then 7 else 1) ≤ iv.length ∧ iv.length ≤ (if 2 < i then 13 else 1024)
def ContOk (a : (Nat × Bytes × Nat) × Bytes) : Prop := a.1.1 < 6 ∧ ivOk a.1.1 a.1.2.1 ∧ (a.1.2.2 = 12 ∨ tagged a.1.2.2 (decide (2 < a.1.1)) = true) ∧ a.2.length ≤ 70000 ∧ ¬ (65536 ≤ a.2.length ∧ 2 < a.1.1 ∧ a.1.2.1.length = 13)
theorem six_alg {i : Nat} {t : Bytes} (h : sixT[i]? = some t) : i < 6 ∧ lf 6 t = algT (algsL.getD i 0) := by
  match i, h with
  | 0, h => simp [sixT] at h; subst h; exact ⟨by decide, rfl⟩
  | 1, h => simp [sixT] at h; subst h; exact ⟨by decide, rfl⟩
  | 2, h => simp [sixT] at h; subst h; exact ⟨by decide, rfl⟩
  | 3, h => simp [sixT] at h; subst h; exact ⟨by decide, rfl⟩
  | 4, h => simp [sixT] at h; subst h; exact ⟨by decide, rfl⟩
  | 5, h => simp [sixT] at h; subst h; exact ⟨by decide, rfl⟩
  | n + 6, h => simp [sixT] at h
theorem tagged_le {n : Nat} {c : Bool} (h : tagged n c = true) : n ≤ 16 ∧ n ≠ 12 := by
  unfold tagged at h
  cases c
  · simp at h; omega
  · simp at h; omega
section
variable {l : List Node} (hr : ∀ a ∈ l, right a = true)
include hr
theorem eats_size (iv : Bytes) (ccm : Bool) : Eats l (sizeP l iv ccm) (fun p ts => p.1 = iv ∧ tagged p.2 ccm = true ∧ ts = [lf 2 (numB p.2)]) :=
  ((eats_take hr (t := 2) (by decide) (by decide)).bnd fun s => eats_if (c := s.length = 1 ∧ tagged (s.getD 0 0).toNat ccm = true) (iv, (s.getD 0 0).toNat) 9).mono (by
    rintro _ ts ⟨s, t1, t2, ⟨rfl, _⟩, ⟨⟨h1, h2⟩, rfl, rfl⟩, rfl⟩
    refine ⟨rfl, h2, ?_⟩
    match s, h1 with
    | [c], _ =>
      have h3 := (tagged_le h2).1
      simp only [List.getD_cons_zero] at h3 ⊢
      rw [strip_small _ (by omega), if_pos (by omega)]
      simp)
theorem eats_params (i : Nat) : Eats l (params l (decide (2 < i))) (fun p ts => ivOk i p.1 ∧ (p.2 = 12 ∨ tagged p.2 (decide (2 < i)) = true) ∧ ts = sizeUs p.1 p.2) :=
  ((eats_octs hr _ _ 1).bnd (S := fun iv p ts => p.1 = iv ∧ ((p.2 = 12 ∧ ts = []) ∨ (tagged p.2 (decide (2 < i)) = true ∧ ts = [lf 2 (numB p.2)]))) fun iv c v c' e hf => (by
    split at e
    · obtain ⟨h1, ts, n, r, ⟨h2, h3, h4⟩, h5⟩ := eats_size hr iv _ c v c' e hf
      exact ⟨h1, ts, n, r, ⟨h2, .inr ⟨h3, h4⟩⟩, h5⟩
    · obtain ⟨h1, ts, n, r, ⟨h2, h3⟩, h5⟩ := eats_ret (l := l) (iv, 12) c v c' e hf
      exact ⟨h1, ts, n, r, ⟨by rw [h2], .inl ⟨by rw [h2], h3⟩⟩, h5⟩)).mono (by
    rintro p ts ⟨iv, _, _, ⟨rfl, h1, h2, _⟩, ⟨rfl, h3⟩, rfl⟩
    have hiv : ivOk i p.1 := by
      unfold ivOk
      by_cases c : 2 < i
      · simp only [c, decide_true, if_true] at h1 h2 ⊢
        exact ⟨h1, h2⟩
      · simp only [c, decide_false, if_false] at h1 h2 ⊢
        exact ⟨h1, h2⟩
    rcases h3 with ⟨h3, rfl⟩ | ⟨h3, rfl⟩
    · refine ⟨hiv, .inl h3, ?_⟩
      unfold sizeUs
      rw [if_pos h3]
      rfl
    · refine ⟨hiv, .inr h3, ?_⟩
      unfold sizeUs
      rw [if_neg (tagged_le h3).2]
      rfl)
theorem eats_cipher : Eats l (cipherP l) (fun a ts => a.1 < 6 ∧ ivOk a.1 a.2.1 ∧ (a.2.2 = 12 ∨ tagged a.2.2 (decide (2 < a.1)) = true) ∧ ts = [algT (algsL.getD a.1 0), ofT 0x30 (sizeUs a.2.1 a.2.2)]) :=
  ((eats_kind hr sixT).bnd fun i => ((eats_params hr i).inn hr (t := 0x30) (by decide) (by decide)).bnd fun p => eats_ret (i, p)).mono (by
    rintro _ ts ⟨i, _, _, ⟨t, ht, rfl⟩, ⟨p, _, _, ⟨_, ⟨h1, h2, rfl⟩, rfl⟩, ⟨rfl, rfl⟩, rfl⟩, rfl⟩
    obtain ⟨hi, e⟩ := six_alg ht
    refine ⟨hi, h1, h2, ?_⟩
    rw [← e]
    rfl)
theorem eats_text (i : Nat) (iv : Bytes) : Eats l (textP l i iv) (fun s ts => ts = [lf 0x80 s] ∧ s.length ≤ 70000 ∧ ¬ (65536 ≤ s.length ∧ 2 < i ∧ iv.length = 13)) :=
  ((eats_take hr (t := 0x80) (by decide) (by decide)).bnd (S := fun s v ts => v = s ∧ ts = [] ∧ ¬ (70000 < s.length ∨ (65536 ≤ s.length ∧ 2 < i ∧ iv.length = 13))) fun s => eats_ite (fun _ => eats_fail 10) (fun h => (eats_ret s).mono (by
    rintro _ _ ⟨rfl, rfl⟩
    exact ⟨rfl, rfl, h⟩))).mono (by
    rintro _ ts ⟨s, t1, t2, ⟨rfl, _⟩, ⟨rfl, rfl, h⟩, rfl⟩
    exact ⟨rfl, by omega, fun k => h (.inr k)⟩)
theorem eats_content : Eats l (content l) (fun a ts => ContOk a ∧ ts = [contT (algsL.getD a.1.1 0) a.1.2.1 a.2 a.1.2.2]) :=
  ((((eats_kind hr [dataT]).bnd fun _ => ((eats_cipher hr).inn hr (t := 0x30) (by decide) (by decide)).bnd fun a => ((eats_text hr a.1 a.2.1).bnd fun s => eats_ret (a, s)).bar).inn hr (t := 0x30) (by decide) (by decide))).mono (by
    rintro _ ts ⟨_, ⟨i0, _, _, ⟨t, ht, rfl⟩, ⟨a, _, _, ⟨_, ⟨h1, h2, h3, rfl⟩, rfl⟩, ⟨s, _, _, ⟨rfl, h4, h5⟩, ⟨rfl, rfl⟩, rfl⟩, rfl⟩, rfl⟩, rfl⟩
    have e : t = dataT := by
      match i0, ht with
      | 0, ht => simp at ht; exact ht.symm
      | n + 1, ht => simp at ht
    subst e
    exact ⟨⟨h1, h2, h3, h4, h5⟩, rfl⟩)
/-! What is authenticated beside -/
omit hr in
theorem any_takes : ∀ (m : Nat) (c : Cu) (v : Unit) (c' : Cu), anyN l m c = .ok (v, c') → Fits l c → (∃ k r, c.left = (k + m) :: r) → Fits l c' ∧ ∃ (ts : List (List Node)) (n : Nat) (r : List Nat), ts.length = m ∧ c.left = (n + ts.length) :: r ∧ c'.left = n :: r ∧ l.drop c.at_ = ts.flatten ++ l.drop c'.at_ ∧ c'.at_ = c.at_ + ts.flatten.length
  | 0, c, v, c', e, hf, ⟨k, r, hk⟩ => by
    unfold anyN ret at e
    simp only [Except.ok.injEq, Prod.mk.injEq] at e
    obtain ⟨_, rfl⟩ := e
    exact ⟨hf, [], k, r, rfl, hk, hk, rfl, rfl⟩
  | m + 1, c, v, c', e, hf, ⟨k, r, hk⟩ => by
    unfold anyN at e
    have hst := hf.2
    rw [hk, ← Nat.add_assoc] at hst
    obtain ⟨x, y, b, o, h1, h2, h3⟩ := stk_next hst
    have hn := nx_of h2 h1
    have hd : l.drop (nx l c.at_) = y := by rw [hn, ← List.drop_drop, h1, List.drop_left]
    have hl : dec c.left = (k + m) :: r := by rw [hk]; rfl
    obtain ⟨hf2, ts, n, r2, k1, k2, k3, k4, k5⟩ := any_takes m _ v c' e ⟨by rw [hl]; simp, by rw [hl, hd]; exact h3⟩ ⟨k, r, hl⟩
    simp only at k2 k4 k5
    rw [hl] at k2
    simp only [List.cons.injEq] at k2
    refine ⟨hf2, x :: ts, n, r2, by simp [k1], ?_, k3, ?_, ?_⟩
    · rw [hk, k2.2, List.length_cons]
      congr 1
      omega
    · rw [h1, ← hd, k4, List.flatten_cons, List.append_assoc]
    · rw [k5, hn, List.flatten_cons, List.length_append]
      omega
omit hr in
theorem eats_vals : Eats l (valsP l) (fun _ ts => ts ≠ []) := fun c v c' e hf => by
  unfold valsP bar at e
  split at e
  · cases e
  · rename_i hp
    cases hc : c.left with
    | nil => exact absurd hc hf.1
    | cons m r =>
      replace e : anyN l (c.left.headD 0) c = .ok (v, c') := e
      rw [hc] at e
      obtain ⟨hf2, ts, n, r2, k1, k2, k3⟩ := any_takes _ c v c' e hf ⟨0, r, by rw [Nat.zero_add]; exact hc⟩
      refine ⟨hf2, ts, n, r2, ?_, by rw [← hc]; exact k2, k3⟩
      intro h0
      subst h0
      have hm : m = 0 := by simpa using k1.symm
      apply hp
      show (peek l c == 0) = true
      unfold peek
      rw [hc, hm]
      rfl
theorem eats_attr : Eats l (inn l 0x30 (attrQ l)) (fun _ ts => ∃ t vs, vs ≠ [] ∧ ts = [ofT 0x30 [lf 6 t, ofT 0x31 vs]]) :=
  ((((eats_take hr (t := 6) (by decide) (by decide)).bnd fun _ => eats_vals.inn hr (t := 0x31) (by decide) (by decide)).inn hr (t := 0x30) (by decide) (by decide))).mono (by
    rintro _ ts ⟨_, ⟨t, _, _, ⟨rfl, _⟩, ⟨vs, hv, rfl⟩, rfl⟩, rfl⟩
    exact ⟨t, vs, hv, rfl⟩)
theorem eats_attrN : ∀ m, Eats l (attrN l m) (fun _ ts => ts.length = m)
  | 0 => (eats_ret ()).mono (by
    rintro _ _ ⟨_, rfl⟩
    rfl)
  | m + 1 => ((eats_attr hr).bnd fun _ => eats_attrN m).mono (by
    rintro _ _ ⟨_, _, _, ⟨t, vs, hv, rfl⟩, h, rfl⟩
    simp [h])
theorem eats_attrP : Eats l (attrP l) (fun _ _ => True) := fun c v c' e hf => by
  obtain ⟨h1, ts, n, r, _, h2⟩ := eats_attrN hr _ c v c' e hf
  exact ⟨h1, ts, n, r, trivial, h2⟩
theorem eats_attrs : Eats l (attrs l) (fun h ts => ∃ us, us ≠ [] ∧ ts = [ofT 0xa1 us] ∧ attrT (ofT 0xa1 us) = .ok h) := fun c v c' e hf => by
  unfold attrs at e
  split at e
  · cases e
  · rename_i hk
    split at e
    · cases e
    · rename_i c2 h
      obtain ⟨h1, ts, n, r, ⟨us, _, rfl⟩, h2, h3, h4, h5⟩ := (eats_attrP hr).inn hr (t := 0xa1) (by decide) (by decide) c _ c2 h hf
      have hx : (l.take c2.at_).drop c.at_ = ofT 0xa1 us := by
        rw [List.drop_take, h4, h5]
        simp
      rw [hx] at e
      split at e
      · cases e
      · rename_i s hs
        simp only [Except.ok.injEq, Prod.mk.injEq] at e
        obtain ⟨rfl, rfl⟩ := e
        refine ⟨h1, _, n, r, ⟨us, ?_, rfl, hs⟩, h2, h3, h4, h5⟩
        intro h0
        subst h0
        apply hk
        have hg : l.getD c.at_ nz = ⟨0xa1, 0, []⟩ := by
          have := congrArg (fun x => x[0]?) h4
          simp [ofT] at this
          simp [List.getD, this]
        rw [hg]
theorem eats_beside : Eats l (beside l) (fun h ts => (h = [] ∧ ts = []) ∨ ∃ us, us ≠ [] ∧ ts = [ofT 0xa1 us] ∧ attrT (ofT 0xa1 us) = .ok h) := fun c v c' e hf => by
  unfold beside at e
  split at e
  · obtain ⟨h1, ts, n, r, h2, h3⟩ := eats_attrs hr c v c' e hf
    exact ⟨h1, ts, n, r, .inr h2, h3⟩
  · obtain ⟨h1, ts, n, r, ⟨h2, h3⟩, h4⟩ := eats_ret (l := l) [] c v c' e hf
    exact ⟨h1, ts, n, r, .inl ⟨h2, h3⟩, h4⟩
/-- The whole tree; how the attributes stand. -/
def wholeT (x : Env) (hs : List (List Node)) : List Node :=
  ofT 0x30 [lf 6 sealedT, ofT 0xa0 [ofT 0x30 ([lf 2 [0], ofT 0x31 (x.to.map recT), contT x.alg x.iv x.cipher x.tag.length] ++ hs ++ [lf 4 x.tag])]]
def Heads (h : Bytes) (hs : List (List Node)) : Prop := (h = [] ∧ hs = []) ∨ ∃ us, us ≠ [] ∧ hs = [ofT 0xa1 us] ∧ attrT (ofT 0xa1 us) = .ok h
/-- What is read. -/
structure EnvOk (most : Int) (x : Env) : Prop where
  to : 1 ≤ x.to.length ∧ x.to.length ≤ 8 ∧ ∀ r ∈ x.to, RecOk most r
  cont : ∃ i, ContOk ((i, x.iv, x.tag.length), x.cipher) ∧ x.alg = algsL.getD i 0
  rest : x.fmt = 1 ∧ x.loose = [] ∧ x.aad = []
theorem eats_body {lim : Lim} (hl : lim.r ≤ 4096) : Eats l (body l lim) (fun x ts => EnvOk lim.r x ∧ ∃ hs, Heads x.header hs ∧ ts = [lf 2 [0], ofT 0x31 (x.to.map recT), contT x.alg x.iv x.cipher x.tag.length] ++ hs ++ [lf 4 x.tag]) :=
  ((eats_version hr [0]).bnd fun _ => (((eats_recips hr hl).inn hr (t := 0x31) (by decide) (by decide)).bnd fun rs => (eats_content hr).bnd fun a => (eats_beside hr).bnd fun h => (eats_octs hr a.1.2.2 a.1.2.2 1).bnd fun t => (eats_ret (envOf rs a h t)).bar).bar).mono (by
    rintro _ ts ⟨_, _, _, rfl, ⟨rs, _, _, ⟨_, ⟨h1, h2, h3, rfl⟩, rfl⟩, ⟨a, _, _, ⟨h4, rfl⟩, ⟨h, hs, _, h5, ⟨t, _, _, ⟨rfl, h6, h7, _⟩, ⟨rfl, rfl⟩, rfl⟩, rfl⟩, rfl⟩, rfl⟩, rfl⟩
    have ht : t.length = a.1.2.2 := by omega
    refine ⟨⟨⟨h1, h2, h3⟩, ⟨a.1.1, ?_, rfl⟩, rfl, rfl, rfl⟩, hs, h5, ?_⟩
    · show ContOk ((a.1.1, a.1.2.1, t.length), a.2)
      rw [ht]
      exact h4
    · show _ = [lf 2 [0], ofT 0x31 (rs.map recT), contT (algsL.getD a.1.1 0) a.1.2.1 a.2 t.length] ++ hs ++ [lf 4 t]
      rw [ht]
      simp)
theorem eats_whole {lim : Lim} (hl : lim.r ≤ 4096) : Eats l (whole l lim) (fun x ts => EnvOk lim.r x ∧ ∃ hs, Heads x.header hs ∧ ts = [wholeT x hs]) :=
  ((((eats_kind hr [sealedT]).bnd fun _ => (((eats_body hr hl).inn hr (t := 0x30) (by decide) (by decide)).inn hr (t := 0xa0) (by decide) (by decide))).inn hr (t := 0x30) (by decide) (by decide))).mono (by
    rintro x ts ⟨_, ⟨i0, _, _, ⟨t, ht, rfl⟩, ⟨_, ⟨_, ⟨h1, hs, h2, rfl⟩, rfl⟩, rfl⟩, rfl⟩, rfl⟩
    have e : t = sealedT := by
      match i0, ht with
      | 0, ht => simp at ht; exact ht.symm
      | n + 1, ht => simp at ht
    subst e
    exact ⟨h1, hs, h2, rfl⟩)
end
/-! Errors are told -/
section
variable {α β : Type}
def NZ (p : P α) : Prop := ∀ c e, p c = .error e → e ≠ 0
theorem nz_ret (a : α) : NZ (ret a) := fun c e h => by cases h
theorem nz_fail {e : Int} (h : e ≠ 0) : NZ (fail e : P α) := fun c e' k => by
  unfold fail at k
  simp only [Except.error.injEq] at k
  omega
theorem NZ.bnd {p : P α} {f : α → P β} (h1 : NZ p) (h2 : ∀ a, NZ (f a)) : NZ (bnd p f) := fun c e h => by
  unfold Cm.bnd at h
  split at h
  · rename_i x hx
    simp only [Except.error.injEq] at h
    subst h
    exact h1 _ _ hx
  · exact h2 _ _ _ h
theorem NZ.bar {b : Cu → Bool} {e : Int} {p : P α} (h : NZ p) (he : e ≠ 0) : NZ (bar b e p) := fun c e' k => by
  unfold Cm.bar at k
  split at k
  · simp only [Except.error.injEq] at k
    omega
  · exact h _ _ k
theorem NZ.ite {c : Prop} [Decidable c] {p q : P α} (h1 : NZ p) (h2 : NZ q) : NZ (if c then p else q) := by
  split
  · exact h1
  · exact h2
variable (l : List Node)
theorem nz_take (t : Nat) : NZ (take l t) := fun c e h => by
  unfold take at h
  split at h
  · cases h
  · simp only [Except.error.injEq] at h
    omega
theorem NZ.inn {t : Nat} {f : P α} (h : NZ f) : NZ (inn l t f) := fun c e k => by
  unfold Cm.inn at k
  split at k
  · rename_i x hx
    simp only [Except.error.injEq] at k
    subst k
    exact nz_take l t _ _ hx
  · split at k
    · rename_i x hx
      simp only [Except.error.injEq] at k
      subst k
      exact h _ _ hx
    · unfold out at k
      split at k
      · simp only [Except.error.injEq] at k
        omega
      · cases k
theorem nz_kind (tbl : List Bytes) : NZ (kind l tbl) := (nz_take l 6).bnd fun s => by
  split
  · exact nz_ret _
  · exact nz_fail (by decide)
theorem nz_version (v : Bytes) : NZ (version l v) := (nz_take l 2).bnd fun s => (nz_ret _).ite (nz_fail (by decide))
theorem nz_octs (a b m : Nat) : NZ (octs l a b m) := (nz_take l 4).bnd fun s => (nz_ret _).ite (nz_fail (by decide))
theorem nz_wrapped : NZ (wrapped l) := (nz_version l _).bnd fun _ => (((nz_octs l 1 128 1).bnd fun s => (nz_ret s).bar (by decide)).inn l).bnd fun _ => ((nz_kind l _).inn l).bnd fun _ => (nz_octs l _ _ _).bnd fun _ => nz_ret _
theorem nz_rounds (lim : Lim) : NZ (rounds l lim) := (nz_take l 2).bnd fun s => (nz_fail (by decide)).ite ((nz_fail (by decide)).ite (nz_ret _))
theorem nz_password (lim : Lim) : NZ (password l lim) := (nz_version l _).bnd fun _ => (((nz_kind l _).bnd fun _ => ((nz_octs l 8 1000 1).bnd fun salt => (nz_rounds l lim).bnd fun n => ((((nz_kind l _).bnd fun i => (nz_take l 5).bnd fun _ => nz_ret i).inn l).bnd fun i => nz_ret _).bar (by decide)).inn l).inn l).bnd fun _ =>
  (((nz_kind l _).bnd fun _ => ((nz_kind l _).bnd fun _ => (nz_octs l _ _ _).bnd fun _ => nz_ret _).inn l).inn l).bnd fun _ => (nz_octs l _ _ _).bnd fun _ => nz_ret _
theorem nz_recip (lim : Lim) : NZ (recip l lim) := fun c e h => by
  unfold recip at h
  split at h
  · exact (nz_wrapped l).inn l _ _ h
  · split at h
    · exact (nz_password l lim).inn l _ _ h
    · split at h
      · simp only [Except.error.injEq] at h; omega
      · simp only [Except.error.injEq] at h; omega
theorem nz_recipN (lim : Lim) : ∀ m, NZ (recipN l lim m)
  | 0 => nz_ret _
  | m + 1 => (nz_recip l lim).bnd fun _ => (nz_recipN lim m).bnd fun _ => nz_ret _
theorem nz_recips (lim : Lim) : NZ (recips l lim) := fun c e h => by
  unfold recips at h
  split at h
  · simp only [Except.error.injEq] at h; omega
  · split at h
    · simp only [Except.error.injEq] at h; omega
    · exact nz_recipN l lim _ _ _ h
theorem nz_params (ccm : Bool) : NZ (params l ccm) := (nz_octs l _ _ _).bnd fun iv c e h => by
  split at h
  · exact ((nz_take l 2).bnd fun s => (nz_ret _).ite (nz_fail (by decide))) c e h
  · cases h
theorem nz_content : NZ (content l) := (((nz_kind l _).bnd fun _ => (((nz_kind l _).bnd fun i => ((nz_params l _).inn l).bnd fun p => nz_ret _).inn l).bnd fun a => (((nz_take l _).bnd fun s => (nz_fail (by decide)).ite (nz_ret s)).bnd fun s => nz_ret _).bar (by decide))).inn l
theorem nz_anyN : ∀ m, NZ (anyN l m)
  | 0 => nz_ret _
  | m + 1 => fun _ e h => nz_anyN m _ e h
theorem nz_attrN : ∀ m, NZ (attrN l m)
  | 0 => nz_ret _
  | m + 1 => (((nz_take l 6).bnd fun _ => (NZ.bar (fun c e h => nz_anyN l _ _ _ h) (by decide)).inn l).inn l).bnd fun _ => nz_attrN m
theorem nz_beside : NZ (beside l) := fun c e h => by
  unfold beside at h
  split at h
  · unfold attrs at h
    split at h
    · simp only [Except.error.injEq] at h; omega
    · split at h
      · rename_i x hx
        simp only [Except.error.injEq] at h
        subst h
        exact (NZ.inn l (fun c e h => nz_attrN l _ _ _ h)) _ _ hx
      · split at h
        · rename_i x hx
          simp only [Except.error.injEq] at h
          subst h
          unfold attrT at hx
          split at hx
          · simp only [Except.error.injEq] at hx; omega
          · split at hx
            · simp only [Except.error.injEq] at hx; omega
            · cases hx
        · cases h
  · cases h
theorem nz_whole (lim : Lim) : NZ (whole l lim) := ((nz_kind l _).bnd fun _ => ((((nz_version l _).bnd fun _ => (((nz_recips l lim).inn l).bnd fun rs => (nz_content l).bnd fun a => (nz_beside l).bnd fun h => (nz_octs l _ _ _).bnd fun t => (nz_ret _).bar (by decide)).bar (by decide))).inn l).inn l).inn l
end
/-- What is read is one tree alone. -/
theorem read_tree {l : List Node} {lim : Lim} {d : Nat} {b : Bytes} {o : Bool} (hl : El d l b o) (hd : d ≤ 32) (hr : lim.r ≤ 4096) {x : Env} (h : readL l lim = (x, 0)) : EnvOk lim.r x ∧ ∃ hs, Heads x.header hs ∧ l = wholeT x hs := by
  unfold readL at h
  split at h
  · rename_i e he
    simp only [Prod.mk.injEq] at h
    exact absurd h.2 (nz_whole l lim _ _ he)
  · rename_i y c' he
    simp only [Prod.mk.injEq, and_true] at h
    subst h
    have hst : Stk 33 [1] l := ⟨l, [], by simp, ⟨l, [], b, o, by simp, hl.mono (by simpa using hd), rfl⟩, rfl⟩
    obtain ⟨hf, ts, n, r, ⟨h1, hs, h2, rfl⟩, h3, h4, h5, h6⟩ := eats_whole hl.all hr ⟨0, [1]⟩ y c' he ⟨by simp, by simpa using hst⟩
    refine ⟨h1, hs, h2, ?_⟩
    simp only [List.length_cons, List.length_nil, List.cons.injEq] at h3
    have hn : n = 0 := by omega
    subst hn
    rw [← h3.2] at h4
    have h7 := hf.2
    rw [h4] at h7
    have h8 : l.drop c'.at_ = [] := stk_out h7
    rw [h8] at h5
    simpa using h5
end Go.Px.Cm
