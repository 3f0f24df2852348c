/-
  The program's reader of layer 15 does what the reference's does (plain law). No program is named here.
-/
import Derived.Test.YtceffhkgnifmeaaDoorD5M
namespace Go.Px.D5
open R5 (St inner tagE bump)

/-- What holds of the reference's reader between two elements. -/
structure Ok (s : Bytes) (lim : Lim) (x : St) (p : Nat) : Prop where
  ps : p ≤ s.length
  pb : (p : Int) ≤ lim.b
  taken : x.taken = p
  out : (x.out.length : Int) ≤ lim.i
def flt (y : St) : Flt := (y.place, y.err)

theorem want_ok {s : Bytes} {lim : Lim} {x y : St} {p : Nat} (h : R5.want s lim x p = (true, y)) (ht : x.taken ≤ p) : want s lim p = .ok (s.getD p 0).toNat ∧ p < s.length ∧ (p : Int) < lim.b ∧ y = { x with taken := p + 1 } := by
  unfold R5.want at h
  by_cases h1 : p < s.length ∧ (p : Int) < lim.b
  · rw [if_pos h1] at h
    simp only [Prod.mk.injEq, true_and] at h
    refine ⟨?_, h1.1, h1.2, ?_⟩
    · unfold want; rw [if_pos (by omega)]
    · rw [← h]; unfold R5.take; rw [Nat.max_eq_right (by omega)]
  · rw [if_neg h1] at h
    split at h <;> simp at h
theorem want_bad {s : Bytes} {lim : Lim} {x y : St} {p : Nat} (h : R5.want s lim x p = (false, y)) : want s lim p = .error (flt y) := by
  unfold R5.want at h
  by_cases h1 : p < s.length ∧ (p : Int) < lim.b
  · rw [if_pos h1] at h; simp at h
  · rw [if_neg h1] at h
    unfold want
    rw [if_neg (by omega)]
    by_cases h2 : lim.b < s.length
    · rw [if_pos h2] at h
      simp only [Prod.mk.injEq, true_and] at h
      subst h
      rw [if_pos (by omega)]
      rfl
    · rw [if_neg h2] at h
      simp only [Prod.mk.injEq, true_and] at h
      subst h
      rw [if_neg (by omega)]
      rfl
theorem lenN_eq (s : Bytes) (lim : Lim) : ∀ (m : Nat) (x : St) (p : Nat) (first : Bool) (n : Nat), x.taken = p → p ≤ s.length → (p : Int) ≤ lim.b →
    match R5.lenN s lim m x p first n with
    | (some v, y) => lenN s lim m p first n = .ok v ∧ y = { x with taken := p + m } ∧ p + m ≤ s.length ∧ ((p + m : Nat) : Int) ≤ lim.b
    | (none, y) => lenN s lim m p first n = .error (flt y)
  | 0, x, p, first, n, ht, hp, hb => ⟨rfl, by rw [Nat.add_zero, ← ht], hp, hb⟩
  | m + 1, x, p, first, n, ht, hp, hb => by
    unfold R5.lenN lenN
    cases hw : R5.want s lim x p with
    | mk b y =>
      cases b
      · simp only; rw [want_bad hw]
      · obtain ⟨h1, h2, h3, h4⟩ := want_ok hw (Nat.le_of_eq ht)
        simp only
        rw [h1]
        simp only
        by_cases hz : (first && (s.getD p 0).toNat == 0) = true
        · rw [if_pos hz, if_pos hz]; rfl
        · rw [if_neg hz, if_neg hz]
          have := lenN_eq s lim m y (p + 1) false (256 * n + (s.getD p 0).toNat) (by rw [h4]) h2 (by omega)
          cases hr : R5.lenN s lim m y (p + 1) false (256 * n + (s.getD p 0).toNat) with
          | mk o z =>
            rw [hr] at this
            cases o with
            | none => exact this
            | some v =>
              obtain ⟨a, b, c, d⟩ := this
              exact ⟨a, by rw [b, h4, show p + 1 + m = p + (m + 1) by omega], by omega, by omega⟩
theorem lenN_small (s : Bytes) (lim : Lim) : ∀ (m : Nat) (p : Nat) (first : Bool) (n k : Nat), n < 256 ^ k → ∀ v, lenN s lim m p first n = .ok v → v < 256 ^ (k + m)
  | 0, p, first, n, k, hn, v, h => by
    unfold lenN at h
    simp only [Except.ok.injEq] at h
    rw [← h]; exact hn
  | m + 1, p, first, n, k, hn, v, h => by
    unfold lenN at h
    cases hw : want s lim p with
    | error e => rw [hw] at h; simp at h
    | ok c =>
      rw [hw] at h
      simp only at h
      have hc : c < 256 := by
        unfold want at hw
        split at hw
        · simp only [Except.ok.injEq] at hw
          rw [← hw]; exact (s.getD p 0).toNat_lt
        · split at hw <;> simp at hw
      split at h
      · simp at h
      · have := lenN_small s lim m (p + 1) false (256 * n + c) (k + 1) (by rw [Nat.pow_succ]; omega) v h
        rw [show k + (m + 1) = k + 1 + m by omega]; exact this
theorem length_eq {s : Bytes} {lim : Lim} {x : St} {p : Nat} (ht : x.taken = p) :
    match R5.length s lim x p with
    | (some (n, q), y) => length s lim p = .ok (n, q) ∧ y = { x with taken := q } ∧ q ≤ s.length ∧ (q : Int) ≤ lim.b ∧ p < q ∧ n < 4294967296
    | (none, y) => length s lim p = .error (flt y) := by
  unfold R5.length length
  cases hw : R5.want s lim x p with
  | mk b y =>
    cases b
    · simp only; rw [want_bad hw]
    · obtain ⟨h1, h2, h3, h4⟩ := want_ok hw (Nat.le_of_eq ht)
      simp only
      rw [h1]
      simp only
      by_cases hb : (s.getD p 0).toNat < 128
      · rw [if_pos hb, if_pos hb]
        exact ⟨rfl, h4, h2, by omega, Nat.lt_succ_self p, by omega⟩
      · rw [if_neg hb, if_neg hb]
        by_cases hk : (s.getD p 0).toNat = 128 ∨ 132 < (s.getD p 0).toNat
        · rw [if_pos hk, if_pos hk]; rfl
        · rw [if_neg hk, if_neg hk]
          obtain ⟨w, hwd⟩ : ∃ w, w = (s.getD p 0).toNat % 128 := ⟨_, rfl⟩
          rw [← hwd]
          have := lenN_eq s lim w y (p + 1) true 0 (by rw [h4]) h2 (by omega)
          cases hr : R5.lenN s lim w y (p + 1) true 0 with
          | mk o z =>
            rw [hr] at this
            cases o with
            | none => simp only at this ⊢; rw [this]
            | some v =>
              obtain ⟨a, b, c, d⟩ := this
              simp only
              rw [a]
              simp only
              by_cases hv : v < 128
              · rw [if_pos hv, if_pos hv]; rfl
              · rw [if_neg hv, if_neg hv]
                refine ⟨rfl, by rw [b, h4], c, d, by omega, ?_⟩
                have h5 := lenN_small s lim _ _ _ _ 0 (by decide) v a
                have h6 : 256 ^ (0 + w) ≤ 256 ^ 4 := Nat.pow_le_pow_right (by decide) (by omega)
                omega
theorem head_eq {s : Bytes} {lim : Lim} {x : St} {p k : Nat} {room : Bool} {e : Option Nat} (h : Ok s lim x p) (hr : room = !decide ((k : Int) = lim.d)) :
    match R5.head s lim room x p e with
    | (some (n, q), y) => head s lim x.out.length k p e = .ok (n, q) ∧ y = { x with taken := q } ∧ q ≤ s.length ∧ (q : Int) ≤ lim.b ∧ p + 1 < q ∧ n < 4294967296 ∧ (x.out.length : Int) < lim.i ∧ (∀ v, e = some v → q + n ≤ v) ∧
        tagE (s.getD p 0).toNat = 0 ∧ (inner (s.getD p 0).toNat = true → room = true) ∧ p < s.length
    | (none, y) => head s lim x.out.length k p e = .error (flt y) := by
  unfold R5.head head
  cases hw : R5.want s lim x p with
  | mk b y =>
    cases b
    · simp only; rw [want_bad hw]
    · obtain ⟨h1, h2, h3, h4⟩ := want_ok hw (Nat.le_of_eq h.taken)
      simp only
      rw [h1]
      simp only
      have hyo : y.out = x.out := by rw [h4]
      have hout := h.out
      by_cases hi : lim.i ≤ y.out.length
      · rw [if_pos hi, if_pos (show (x.out.length : Int) = lim.i by rw [hyo] at hi; omega)]; rfl
      · rw [if_neg hi, if_neg (show ¬ (x.out.length : Int) = lim.i by rw [hyo] at hi; omega)]
        by_cases ht : tagE (s.getD p 0).toNat ≠ 0
        · rw [if_pos ht, if_pos ht]; rfl
        · rw [if_neg ht, if_neg ht]
          have hrm : (inner (s.getD p 0).toNat && !room) = (inner (s.getD p 0).toNat && decide ((k : Int) = lim.d)) := by rw [hr, Bool.not_not]
          rw [hrm]
          by_cases hf : (inner (s.getD p 0).toNat && decide ((k : Int) = lim.d)) = true
          · rw [if_pos hf, if_pos hf]; rfl
          · rw [if_neg hf, if_neg hf]
            have := length_eq (s := s) (lim := lim) (x := y) (p := p + 1) (by rw [h4])
            cases hl : R5.length s lim y (p + 1) with
            | mk o z =>
              rw [hl] at this
              cases o with
              | none => simp only at this ⊢; rw [this]
              | some t =>
                obtain ⟨n, q⟩ := t
                obtain ⟨a, b, c, d, g, f⟩ := this
                simp only
                rw [a]
                simp only
                by_cases he : (e.any (fun v => decide (v < q + n))) = true
                · rw [if_pos he, if_pos he]; rfl
                · rw [if_neg he, if_neg he]
                  refine ⟨rfl, by rw [b, h4], c, d, g, f, by rw [hyo] at hi; omega, ?_, Decidable.not_not.1 ht, ?_, h2⟩
                  · intro v hv
                    rw [hv] at he
                    simp only [Option.any_some, decide_eq_true_eq] at he
                    omega
                  · intro hin
                    rw [hr]
                    rw [hin, Bool.true_and] at hf
                    simp only [Bool.not_eq_true] at hf
                    rw [hf]; rfl

/-! Elements -/
theorem bump_len (l : List Node) (i : Nat) : (bump l i).length = l.length := List.length_modify _ _ _
theorem bump_app : ∀ (l r : List Node) (i : Nat), i < l.length → bump (l ++ r) i = bump l i ++ r
  | [], _, _, h => by simp at h
  | a :: l, r, 0, _ => rfl
  | a :: l, r, i + 1, h => by
    have := bump_app l r i (by simpa using h)
    unfold bump at *
    simp only [List.cons_append, List.modify_succ_cons, this]
theorem bump_comm : ∀ (l : List Node) (i j : Nat), bump (bump l i) j = bump (bump l j) i
  | [], _, _ => by unfold bump; simp
  | a :: l, 0, 0 => rfl
  | a :: l, 0, j + 1 => rfl
  | a :: l, i + 1, 0 => rfl
  | a :: l, i + 1, j + 1 => by
    have := bump_comm l i j
    unfold bump at *
    simp only [List.modify_succ_cons, this]
def bumps (l : List Node) : List Nat → List Node
  | [] => l
  | n :: ns => bump (bumps l ns) n
def nos (st : List Fm) : List Nat := st.map (·.no)
theorem bumps_len (l : List Node) : ∀ ns, (bumps l ns).length = l.length
  | [] => rfl
  | n :: ns => by unfold bumps; rw [bump_len, bumps_len l ns]
theorem bumps_app (l r : List Node) : ∀ ns : List Nat, (∀ n ∈ ns, n < l.length) → bumps (l ++ r) ns = bumps l ns ++ r
  | [], _ => rfl
  | n :: ns, h => by
    unfold bumps
    rw [bumps_app l r ns (fun k hk => h k (List.mem_cons_of_mem _ hk)), bump_app _ _ _ (by rw [bumps_len]; exact h n (List.mem_cons_self ..))]
theorem bumps_bump (l : List Node) (i : Nat) : ∀ ns : List Nat, bumps (bump l i) ns = bump (bumps l ns) i
  | [] => rfl
  | n :: ns => by unfold bumps; rw [bumps_bump l i ns, bump_comm]
theorem bumpTop_eq (l : List Node) (st : List Fm) : bumpTop (bumps l (nos st.tail)) st = bumps l (nos st) := by
  cases st with
  | nil => rfl
  | cons f rest => rfl

def Runs (r : Nat → Option (Except Flt Dx)) (e : Nat → Option (Except Flt Dx)) : Prop := ∃ n, ∀ m, r (n + m) = e m
theorem Runs.refl {r : Nat → Option (Except Flt Dx)} : Runs r r := ⟨0, fun m => by rw [Nat.zero_add]⟩
theorem Runs.trans {r e f : Nat → Option (Except Flt Dx)} (h : Runs r e) (k : Runs e f) : Runs r f := by
  obtain ⟨n, h⟩ := h
  obtain ⟨n2, k⟩ := k
  exact ⟨n + n2, fun m => by rw [Nat.add_assoc, h, k]⟩
theorem Runs.step {r e : Nat → Option (Except Flt Dx)} (h : ∀ m, r (m + 1) = e m) : Runs r e := ⟨1, fun m => by rw [Nat.add_comm]; exact h m⟩
theorem Runs.of {r e : Nat → Option (Except Flt Dx)} (h : ∀ m, r m = e m) : Runs r e := ⟨0, fun m => by rw [Nat.zero_add]; exact h m⟩

/-- What the stack names is in the list. -/
def Nos (st : List Fm) (x : St) : Prop := ∀ n ∈ nos st, n < x.out.length
def ElemD (s : Bytes) (lim : Lim) (x : St) (p : Nat) (st : List Fm) (r : Option Nat × St) : Prop :=
  match r with
  | (some q, y) => Ok s lim y q ∧ x.out.length < y.out.length ∧ p < q ∧ (∀ v, st.head?.map (·.end_) = some v → q ≤ v) ∧
      Runs (after s lim (beginD s lim ⟨p, st, bumps x.out (nos st.tail)⟩)) (after s lim (ended s ⟨q, st, bumps y.out (nos st)⟩ p))
  | (none, y) => Runs (after s lim (beginD s lim ⟨p, st, bumps x.out (nos st.tail)⟩)) (fun _ => some (.error (flt y)))
def InsD (s : Bytes) (lim : Lim) (x : St) (d : Dx) (st : List Fm) (at0 e : Nat) (r : Option Nat × St) : Prop :=
  match r with
  | (some q, y) => q = e ∧ Ok s lim y q ∧ x.out.length ≤ y.out.length ∧ Runs (fun m => loopN s lim m d) (after s lim (ended s ⟨q, st, bumps y.out (nos st)⟩ at0))
  | (none, y) => Runs (fun m => loopN s lim m d) (fun _ => some (.error (flt y)))
theorem loop_beg (s : Bytes) (lim : Lim) (x : Dx) (f : Fm) (rest : List Fm) (h : x.stack = f :: rest) (hl : x.at_ < f.end_) : Runs (fun m => loopN s lim m x) (after s lim (beginD s lim x)) := by
  refine Runs.step fun m => ?_
  show loopN s lim (m + 1) x = _
  unfold loopN
  rw [h]
  simp only
  rw [if_pos hl]
  rfl
theorem loop_pop (s : Bytes) (lim : Lim) (x : Dx) (f : Fm) (rest : List Fm) (h : x.stack = f :: rest) (hl : ¬ x.at_ < f.end_) : Runs (fun m => loopN s lim m x) (after s lim (ended s { x with stack := rest } f.at_)) := by
  refine Runs.step fun m => ?_
  show loopN s lim (m + 1) x = _
  unfold loopN
  rw [h]
  simp only
  rw [if_neg hl]
  rfl

theorem inside_eq (s : Bytes) (lim : Lim) (rc : St → Nat → Option Nat × St) (e : Nat) (t : UInt8) (at0 me : Nat) (st : List Fm)
    (hrc : ∀ x p last, Ok s lim x p → Nos (⟨t, at0, e, me, last⟩ :: st) x → ElemD s lim x p (⟨t, at0, e, me, last⟩ :: st) (rc x p)) :
    ∀ (m : Nat) (x : St) (p : Nat) (last last' : Bytes), Ok s lim x p → Nos (⟨t, at0, e, me, last⟩ :: st) x → p ≤ e → e - p ≤ m → (t.toNat = 49 → last' = last) →
      InsD s lim x ⟨p, ⟨t, at0, e, me, last'⟩ :: st, bumps x.out (nos st)⟩ st at0 e (R5.insideN s rc t.toNat me e m x p last) := by
  intro m
  induction m with
  | zero =>
    intro x p last last' h hn hp hm _
    exact ⟨by omega, h, Nat.le_refl _, loop_pop s lim _ ⟨t, at0, e, me, last'⟩ st rfl (by simp only; omega)⟩
  | succ m ih =>
    intro x p last last' h hn hp hm hl
    unfold R5.insideN
    by_cases hpe : p < e
    · rw [if_pos hpe]
      have h1 := loop_beg s lim ⟨p, ⟨t, at0, e, me, last'⟩ :: st, bumps x.out (nos st)⟩ ⟨t, at0, e, me, last'⟩ st rfl hpe
      have h2 := hrc x p last' h hn
      cases hr : rc x p with
      | mk o y =>
        rw [hr] at h2
        cases o with
        | none => exact h1.trans h2
        | some q =>
          simp only
          obtain ⟨i1, i2, i3, i4, i5⟩ := h2
          have hq : q ≤ e := i4 e rfl
          have hb : bumps (bump y.out me) (nos st) = bumps y.out (nos (⟨t, at0, e, me, last'⟩ :: st)) := bumps_bump _ _ _
          by_cases hk : (t.toNat == 49 && Op.bytesLess ((s.take q).drop p) last) = true
          · rw [if_pos hk]
            simp only [Bool.and_eq_true, beq_iff_eq] at hk
            refine h1.trans (i5.trans (Runs.of fun n => ?_))
            unfold ended
            simp only
            rw [if_pos (by rw [hk.1]; rfl), if_pos (by rw [hl hk.1]; exact hk.2)]
            rfl
          · rw [if_neg hk]
            have hOk : Ok s lim { y with out := bump y.out me } q := ⟨i1.ps, i1.pb, i1.taken, by simp only [bump_len]; exact i1.out⟩
            have hN : ∀ l, Nos (⟨t, at0, e, me, l⟩ :: st) { y with out := bump y.out me } := fun l n hm => by
              have : n < x.out.length := hn n hm
              simp only [bump_len]; omega
            have key : ∃ l', (t.toNat = 49 → l' = (s.take q).drop p) ∧ ended s ⟨q, ⟨t, at0, e, me, last'⟩ :: st, bumps y.out (nos (⟨t, at0, e, me, last'⟩ :: st))⟩ p = .ok ⟨q, ⟨t, at0, e, me, l'⟩ :: st, bumps (bump y.out me) (nos st)⟩ := by
              by_cases ht : t.toNat = 49
              · refine ⟨(s.take q).drop p, fun _ => rfl, ?_⟩
                unfold ended
                simp only
                have hk' : ¬ Op.bytesLess ((s.take q).drop p) last' = true := by
                  rw [hl ht]
                  intro hh
                  exact hk (by rw [ht, hh]; rfl)
                rw [if_pos (by rw [ht]; rfl), if_neg hk', hb]
              · refine ⟨last', fun hh => absurd hh ht, ?_⟩
                unfold ended
                simp only
                rw [if_neg (by simpa using ht), hb]
            obtain ⟨l', k1, k2⟩ := key
            rw [k2] at i5
            have h3 := ih { y with out := bump y.out me } q ((s.take q).drop p) l' hOk (hN _) hq (by omega) k1
            cases hr2 : R5.insideN s rc t.toNat me e m { y with out := bump y.out me } q ((s.take q).drop p) with
            | mk o2 z =>
              rw [hr2] at h3
              cases o2 with
              | none => exact h1.trans (i5.trans h3)
              | some r =>
                obtain ⟨j1, j2, j3, j4⟩ := h3
                refine ⟨j1, j2, ?_, h1.trans (i5.trans j4)⟩
                simp only [bump_len] at j3
                omega
    · rw [if_neg hpe]
      have hpe' : p = e := by omega
      subst hpe'
      exact ⟨rfl, h, Nat.le_refl _, loop_pop s lim _ ⟨t, at0, p, me, last'⟩ st rfl hpe⟩
theorem leaf_eq {s : Bytes} {lim : Lim} {x y : St} {p q n : Nat} {st : List Fm} (hn : Nos st x) (hy : y = { x with taken := q }) (hq1 : q ≤ s.length) (hq2 : (q : Int) ≤ lim.b) (hpq : p + 1 < q) (hlt : (x.out.length : Int) < lim.i)
    (hend : ∀ v, st.head?.map (·.end_) = some v → q + n ≤ v) (hh : head s lim x.out.length st.length p (st.head?.map (·.end_)) = .ok (n, q)) (hin : inner (s.getD p 0).toNat = false) :
    ElemD s lim x p st (R5.leaf s lim y (s.getD p 0) p q n) := by
  have hyo : y.out = x.out := by rw [hy]
  have hbl : (bumps x.out (nos st.tail)).length = x.out.length := bumps_len _ _
  have hb : beginD s lim ⟨p, st, bumps x.out (nos st.tail)⟩ = (match (if n = 0 then .ok 0 else want s lim (q + n - 1)) with
      | .error e => .error e
      | .ok _ => if R5.body (s.getD p 0).toNat ((s.take (q + n)).drop q) then ended s { at_ := q + n, stack := st, out := bumpTop (bumps x.out (nos st.tail)) st ++ [⟨s.getD p 0, -1, (s.take (q + n)).drop q⟩] } p else .error (p, 9)) := by
    unfold beginD
    simp only [hbl]
    rw [hh]
    simp only
    rw [hin]
    rfl
  unfold R5.leaf
  by_cases h0 : n = 0
  · subst h0
    rw [if_pos rfl] at hb ⊢
    simp only [Nat.add_zero] at hb ⊢
    by_cases hbd : R5.body (s.getD p 0).toNat ((s.take q).drop q) = true
    · rw [if_pos hbd] at hb ⊢
      refine ⟨⟨hq1, hq2, by rw [hy], by simp [hyo]; omega⟩, by simp [hyo], by omega, fun v hv => by have := hend v hv; omega, Runs.of fun m => ?_⟩
      rw [hb, bumpTop_eq, hyo, bumps_app _ _ _ hn]
    · rw [if_neg hbd] at hb ⊢
      exact Runs.of fun m => by rw [hb]; rfl
  · rw [if_neg h0] at hb ⊢
    cases hw : R5.want s lim y (q + n - 1) with
    | mk b z =>
      cases b
      · rw [want_bad hw] at hb
        exact Runs.of fun m => by rw [hb]; rfl
      · obtain ⟨h1, h2, h3, h4⟩ := want_ok hw (by rw [hy]; show q ≤ _; omega)
        rw [h1] at hb
        simp only at hb ⊢
        have hzo : z.out = x.out := by rw [h4, ← hyo]
        by_cases hbd : R5.body (s.getD p 0).toNat ((s.take (q + n)).drop q) = true
        · rw [if_pos hbd] at hb ⊢
          refine ⟨⟨by omega, by omega, by rw [h4]; show q + n - 1 + 1 = q + n; omega, by simp [hzo]; omega⟩, by simp [hzo], by omega, fun v hv => hend v hv, Runs.of fun m => ?_⟩
          rw [hb, bumpTop_eq, hzo, bumps_app _ _ _ hn]
        · rw [if_neg hbd] at hb ⊢
          exact Runs.of fun m => by rw [hb]; rfl

theorem elem_eq (s : Bytes) (lim : Lim) : ∀ (d : Nat) (x : St) (p : Nat) (st : List Fm), Ok s lim x p → Nos st x → ((st.length + d : Nat) : Int) = lim.d → ElemD s lim x p st (R5.elem s lim d x p (st.head?.map (·.end_))) := by
  intro d
  induction d with
  | zero =>
    intro x p st h hn hd
    have hh := head_eq (k := st.length) (room := false) (e := st.head?.map (·.end_)) h (by rw [decide_eq_true (by omega)]; rfl)
    unfold R5.elem
    cases hr : R5.head s lim false x p (st.head?.map (·.end_)) with
    | mk o y =>
      rw [hr] at hh
      cases o with
      | none =>
        refine Runs.of fun m => ?_
        unfold beginD
        simp only [bumps_len]
        rw [hh]
        rfl
      | some t =>
        obtain ⟨n, q⟩ := t
        obtain ⟨h1, h2, h3, h4, h5, h6, h7, h8, h9, h10, h11⟩ := hh
        refine leaf_eq hn h2 h3 h4 h5 h7 h8 h1 ?_
        cases hi : inner (s.getD p 0).toNat with
        | false => rfl
        | true => exact absurd (h10 hi) (by decide)
  | succ d ih =>
    intro x p st h hn hd
    have hh := head_eq (k := st.length) (room := true) (e := st.head?.map (·.end_)) h (by rw [decide_eq_false (by omega)]; rfl)
    unfold R5.elem
    cases hr : R5.head s lim true x p (st.head?.map (·.end_)) with
    | mk o y =>
      rw [hr] at hh
      cases o with
      | none =>
        refine Runs.of fun m => ?_
        unfold beginD
        simp only [bumps_len]
        rw [hh]
        rfl
      | some t =>
        obtain ⟨n, q⟩ := t
        obtain ⟨h1, h2, h3, h4, h5, h6, h7, h8, h9, h10, h11⟩ := hh
        simp only
        have hyo : y.out = x.out := by rw [h2]
        by_cases hin : inner (s.getD p 0).toNat = true
        · rw [if_pos hin]
          have hb : beginD s lim ⟨p, st, bumps x.out (nos st.tail)⟩ = .ok ⟨q, ⟨s.getD p 0, p, q + n, x.out.length, []⟩ :: st, bumps (x.out ++ [⟨s.getD p 0, 0, []⟩]) (nos st)⟩ := by
            unfold beginD
            simp only [bumps_len]
            rw [h1]
            simp only
            rw [if_pos hin, bumpTop_eq, bumps_app _ _ _ hn]
          have hOk : Ok s lim { y with out := y.out ++ [⟨s.getD p 0, 0, []⟩], frames := y.frames + 1 } q := ⟨h3, h4, by rw [h2], by simp [hyo]; omega⟩
          have hins := inside_eq s lim (fun x p => R5.elem s lim d x p (some (q + n))) (q + n) (s.getD p 0) p x.out.length st
            (fun x' p' last hk hk2 => ih x' p' (⟨s.getD p 0, p, q + n, x.out.length, last⟩ :: st) hk hk2 (by simp only [List.length_cons]; omega))
            (q + n - q) { y with out := y.out ++ [⟨s.getD p 0, 0, []⟩], frames := y.frames + 1 } q [] [] hOk
            (fun k hk => by
              simp only [nos, List.map_cons, List.mem_cons] at hk
              simp only [hyo, List.length_append, List.length_singleton]
              rcases hk with rfl | hk
              · omega
              · have : k < x.out.length := hn k hk
                omega) (Nat.le_add_right _ _) (Nat.le_refl _) (fun _ => rfl)
          unfold R5.inside
          rw [hyo] at hins ⊢
          cases hr2 : R5.insideN s (fun x p => R5.elem s lim d x p (some (q + n))) (s.getD p 0).toNat x.out.length (q + n) (q + n - q) { y with out := x.out ++ [⟨s.getD p 0, 0, []⟩], frames := y.frames + 1 } q [] with
          | mk o2 z =>
            rw [hr2] at hins
            have h0 : Runs (after s lim (beginD s lim ⟨p, st, bumps x.out (nos st.tail)⟩)) (fun m => loopN s lim m ⟨q, ⟨s.getD p 0, p, q + n, x.out.length, []⟩ :: st, bumps (x.out ++ [⟨s.getD p 0, 0, []⟩]) (nos st)⟩) := Runs.of fun m => by rw [hb]; rfl
            cases o2 with
            | none => exact h0.trans hins
            | some r =>
              obtain ⟨j1, j2, j3, j4⟩ := hins
              simp only [List.length_append, List.length_singleton] at j3
              exact ⟨⟨j2.ps, j2.pb, j2.taken, j2.out⟩, by show x.out.length < z.out.length; omega, by omega, fun v hv => by have := h8 v hv; omega, h0.trans j4⟩
        · rw [if_neg hin]
          exact leaf_eq hn h2 h3 h4 h5 h7 h8 h1 (by simpa using hin)
theorem run_ref (s : Bytes) (lim : Lim) (hm : lim.may = true) :
    match R5.elem s lim lim.d.toNat R5.start 0 none with
    | (some q, y) => q ≤ s.length ∧ (q : Int) ≤ lim.b ∧ ∃ m, run s lim m = some (.ok ⟨q, [], y.out⟩)
    | (none, y) => ∃ m, run s lim m = some (.error (flt y)) := by
  have hmay : 1 ≤ lim.d ∧ 1 ≤ lim.i ∧ 1 ≤ lim.b := by
    unfold Lim.may at hm
    simp only [Bool.and_eq_true, decide_eq_true_eq] at hm
    omega
  have h := elem_eq s lim lim.d.toNat R5.start 0 [] ⟨Nat.zero_le _, by omega, rfl, by show ((0 : Nat) : Int) ≤ lim.i; omega⟩ (fun n hn => by simp [nos] at hn) (by show ((0 + lim.d.toNat : Nat) : Int) = lim.d; omega)
  have h' : ElemD s lim R5.start 0 [] (R5.elem s lim lim.d.toNat R5.start 0 none) := h
  cases hr : R5.elem s lim lim.d.toNat R5.start 0 none with
  | mk o y =>
    rw [hr] at h'
    cases o with
    | none =>
      obtain ⟨n, h'⟩ := h'
      exact ⟨n, h' 0⟩
    | some q =>
      obtain ⟨k, _, _, _, n, h'⟩ := h'
      exact ⟨k.ps, k.pb, n + 1, h' 1⟩
end Go.Px.D5
