/-
  Several texts in one: The program's reader of package der as plain functions on plain data. No program is named here. The program's reader of layer 15 does what the reference's does (plain law). No program is named here. The telling of layer 15 as plain functions: what is one right element and its bytes; the stack that counts. No program is named here. What is told is read: the bytes of one right element are read back, or refused when a set is out of order (plain law, layer 15). No program is named here. What is read is told: an element that the reference reads is one right element, and its bytes are those that stand there (plain law, layer 15). No program is named here. The feed of layer 19 against the reference's reader of layer 16 (plain law): one byte, blanks, one byte that must stand there. No program is named here. The feed of layer 19 against the reference's reader of layer 16 (plain law): words, four digits, what stands behind a backslash. No program is named here. The feed of layer 19 against the reference's reader of layer 16 (plain law): signs of several bytes, strings. No program is named here. The feed of layer 19 against the reference's reader of layer 16 (plain law): numbers. No program is named here.
-/
import Derived.Test.YtahojodgmjmpnaaDoorR5M
import Derived.Test.YtahojodgmjmpnaaDoorJfM
/-! The program's reader of package der as plain functions on plain data. No program is named here. -/
namespace Go.Px.D5
open R5 (inner tagE bump)
structure Fm where
  tag : UInt8
  at_ : Nat
  end_ : Nat
  no : Nat
  last : Bytes
structure Dx where
  at_ : Nat
  stack : List Fm
  out : List Node
abbrev Flt := Int × Int
def want (s : Bytes) (lim : Lim) (p : Nat) : Except Flt Nat :=
  if (p : Int) < s.length ∧ (p : Int) < lim.b then .ok (s.getD p 0).toNat else if lim.b < s.length then .error (lim.b, 10) else .error (s.length, 9)
def lenN (s : Bytes) (lim : Lim) : Nat → Nat → Bool → Nat → Except Flt Nat
  | 0, _, _, n => .ok n
  | m + 1, p, first, n => match want s lim p with
    | .error e => .error e
    | .ok c => if first && c == 0 then .error (p, 9) else lenN s lim m (p + 1) false (256 * n + c)
/-- A length and the place behind. -/
def length (s : Bytes) (lim : Lim) (p : Nat) : Except Flt (Nat × Nat) :=
  match want s lim p with
  | .error e => .error e
  | .ok b =>
    if b < 128 then .ok (b, p + 1)
    else if b = 128 ∨ 132 < b then .error (p, 9)
    else match lenN s lim (b % 128) (p + 1) true 0 with
      | .error e => .error e
      | .ok n => if n < 128 then .error ((p + b % 128 : Nat), 9) else .ok (n, p + 1 + b % 128)
/-- An element's tag and length; the place behind. -/
def head (s : Bytes) (lim : Lim) (o k p : Nat) (e : Option Nat) : Except Flt (Nat × Nat) :=
  match want s lim p with
  | .error e => .error e
  | .ok t =>
    if (o : Int) = lim.i then .error (p, 10)
    else if tagE t ≠ 0 then .error (p, tagE t)
    else if inner t && decide ((k : Int) = lim.d) then .error (p, 10)
    else match length s lim (p + 1) with
      | .error e => .error e
      | .ok (n, q) => if e.any (fun v => decide (v < q + n)) then .error (p, 9) else .ok (n, q)
def ended (s : Bytes) (x : Dx) (p : Nat) : Except Flt Dx :=
  match x.stack with
  | [] => .ok x
  | f :: rest =>
    if f.tag.toNat == 49 then
      if Op.bytesLess ((s.take x.at_).drop p) f.last then .error (p, 9)
      else .ok { x with stack := { f with last := (s.take x.at_).drop p } :: rest }
    else .ok x
def bumpTop (l : List Node) : List Fm → List Node
  | [] => l
  | f :: _ => bump l f.no
def beginD (s : Bytes) (lim : Lim) (x : Dx) : Except Flt Dx :=
  match head s lim x.out.length x.stack.length x.at_ (x.stack.head?.map (·.end_)) with
  | .error e => .error e
  | .ok (n, q) =>
    let t := s.getD x.at_ 0
    if inner t.toNat then .ok { at_ := q, stack := ⟨t, x.at_, q + n, x.out.length, []⟩ :: x.stack, out := bumpTop x.out x.stack ++ [⟨t, 0, []⟩] }
    else match (if n = 0 then .ok 0 else want s lim (q + n - 1)) with
      | .error e => .error e
      | .ok _ =>
        let b := (s.take (q + n)).drop q
        if R5.body t.toNat b then ended s { at_ := q + n, stack := x.stack, out := bumpTop x.out x.stack ++ [⟨t, -1, b⟩] } x.at_ else .error (x.at_, 9)
def loopN (s : Bytes) (lim : Lim) : Nat → Dx → Option (Except Flt Dx)
  | 0, _ => none
  | m + 1, x => match x.stack with
    | [] => some (.ok x)
    | f :: rest =>
      if x.at_ < f.end_ then (match beginD s lim x with | .error e => some (.error e) | .ok y => loopN s lim m y)
      else match ended s { x with stack := rest } f.at_ with | .error e => some (.error e) | .ok y => loopN s lim m y
def after (s : Bytes) (lim : Lim) (r : Except Flt Dx) (m : Nat) : Option (Except Flt Dx) :=
  match r with
  | .error e => some (.error e)
  | .ok y => loopN s lim m y
def run (s : Bytes) (lim : Lim) (m : Nat) : Option (Except Flt Dx) := after s lim (beginD s lim ⟨0, [], []⟩) m
end Go.Px.D5

/-! The program's reader of layer 15 does what the reference's does (plain law). No program is named here. -/
namespace Go.Px.D5
open R5 (St inner tagE bump)

/-- What holds of the reference's reader between two elements. -/
structure Ok (s : Bytes) (lim : Lim) (x : St) (p : Nat) : Prop where
  ps : p ≤ s.length
  pb : (p : Int) ≤ lim.b
  taken : x.taken = p
  out : (x.out.length : Int) ≤ lim.i
def flt (y : St) : Flt := (y.place, y.err)

theorem want_ok {s : Bytes} {lim : Lim} {x y : St} {p : Nat} (h : R5.want s lim x p = (true, y)) (ht : x.taken ≤ p) : want s lim p = .ok (s.getD p 0).toNat ∧ p < s.length ∧ (p : Int) < lim.b ∧ y = { x with taken := p + 1 } := by
  unfold R5.want at h
  by_cases h1 : p < s.length ∧ (p : Int) < lim.b
  · rw [if_pos h1] at h
    simp only [Prod.mk.injEq, true_and] at h
    refine ⟨?_, h1.1, h1.2, ?_⟩
    · unfold want; rw [if_pos (by omega)]
    · rw [← h]; unfold R5.take; rw [Nat.max_eq_right (by omega)]
  · rw [if_neg h1] at h
    split at h <;> simp at h
theorem want_bad {s : Bytes} {lim : Lim} {x y : St} {p : Nat} (h : R5.want s lim x p = (false, y)) : want s lim p = .error (flt y) := by
  unfold R5.want at h
  by_cases h1 : p < s.length ∧ (p : Int) < lim.b
  · rw [if_pos h1] at h; simp at h
  · rw [if_neg h1] at h
    unfold want
    rw [if_neg (by omega)]
    by_cases h2 : lim.b < s.length
    · rw [if_pos h2] at h
      simp only [Prod.mk.injEq, true_and] at h
      subst h
      rw [if_pos (by omega)]
      rfl
    · rw [if_neg h2] at h
      simp only [Prod.mk.injEq, true_and] at h
      subst h
      rw [if_neg (by omega)]
      rfl
theorem lenN_eq (s : Bytes) (lim : Lim) : ∀ (m : Nat) (x : St) (p : Nat) (first : Bool) (n : Nat), x.taken = p → p ≤ s.length → (p : Int) ≤ lim.b →
    match R5.lenN s lim m x p first n with
    | (some v, y) => lenN s lim m p first n = .ok v ∧ y = { x with taken := p + m } ∧ p + m ≤ s.length ∧ ((p + m : Nat) : Int) ≤ lim.b
    | (none, y) => lenN s lim m p first n = .error (flt y)
  | 0, x, p, first, n, ht, hp, hb => ⟨rfl, by rw [Nat.add_zero, ← ht], hp, hb⟩
  | m + 1, x, p, first, n, ht, hp, hb => by
    unfold R5.lenN lenN
    cases hw : R5.want s lim x p with
    | mk b y =>
      cases b
      · simp only; rw [want_bad hw]
      · obtain ⟨h1, h2, h3, h4⟩ := want_ok hw (Nat.le_of_eq ht)
        simp only
        rw [h1]
        simp only
        by_cases hz : (first && (s.getD p 0).toNat == 0) = true
        · rw [if_pos hz, if_pos hz]; rfl
        · rw [if_neg hz, if_neg hz]
          have := lenN_eq s lim m y (p + 1) false (256 * n + (s.getD p 0).toNat) (by rw [h4]) h2 (by omega)
          cases hr : R5.lenN s lim m y (p + 1) false (256 * n + (s.getD p 0).toNat) with
          | mk o z =>
            rw [hr] at this
            cases o with
            | none => exact this
            | some v =>
              obtain ⟨a, b, c, d⟩ := this
              exact ⟨a, by rw [b, h4, show p + 1 + m = p + (m + 1) by omega], by omega, by omega⟩
theorem lenN_small (s : Bytes) (lim : Lim) : ∀ (m : Nat) (p : Nat) (first : Bool) (n k : Nat), n < 256 ^ k → ∀ v, lenN s lim m p first n = .ok v → v < 256 ^ (k + m)
  | 0, p, first, n, k, hn, v, h => by
    unfold lenN at h
    simp only [Except.ok.injEq] at h
    rw [← h]; exact hn
  | m + 1, p, first, n, k, hn, v, h => by
    unfold lenN at h
    cases hw : want s lim p with
    | error e => rw [hw] at h; simp at h
    | ok c =>
      rw [hw] at h
      simp only at h
      have hc : c < 256 := by
        unfold want at hw
        split at hw
        · simp only [Except.ok.injEq] at hw
          rw [← hw]; exact (s.getD p 0).toNat_lt
        · split at hw <;> simp at hw
      split at h
      · simp at h
      · have := lenN_small s lim m (p + 1) false (256 * n + c) (k + 1) (by rw [Nat.pow_succ]; omega) v h
        rw [show k + (m + 1) = k + 1 + m by omega]; exact this
theorem length_eq {s : Bytes} {lim : Lim} {x : St} {p : Nat} (ht : x.taken = p) :
    match R5.length s lim x p with
    | (some (n, q), y) => length s lim p = .ok (n, q) ∧ y = { x with taken := q } ∧ q ≤ s.length ∧ (q : Int) ≤ lim.b ∧ p < q ∧ n < 4294967296
    | (none, y) => length s lim p = .error (flt y) := by
  unfold R5.length length
  cases hw : R5.want s lim x p with
  | mk b y =>
    cases b
    · simp only; rw [want_bad hw]
    · obtain ⟨h1, h2, h3, h4⟩ := want_ok hw (Nat.le_of_eq ht)
      simp only
      rw [h1]
      simp only
      by_cases hb : (s.getD p 0).toNat < 128
      · rw [if_pos hb, if_pos hb]
        exact ⟨rfl, h4, h2, by omega, Nat.lt_succ_self p, by omega⟩
      · rw [if_neg hb, if_neg hb]
        by_cases hk : (s.getD p 0).toNat = 128 ∨ 132 < (s.getD p 0).toNat
        · rw [if_pos hk, if_pos hk]; rfl
        · rw [if_neg hk, if_neg hk]
          obtain ⟨w, hwd⟩ : ∃ w, w = (s.getD p 0).toNat % 128 := ⟨_, rfl⟩
          rw [← hwd]
          have := lenN_eq s lim w y (p + 1) true 0 (by rw [h4]) h2 (by omega)
          cases hr : R5.lenN s lim w y (p + 1) true 0 with
          | mk o z =>
            rw [hr] at this
            cases o with
            | none => simp only at this ⊢; rw [this]
            | some v =>
              obtain ⟨a, b, c, d⟩ := this
              simp only
              rw [a]
              simp only
              by_cases hv : v < 128
              · rw [if_pos hv, if_pos hv]; rfl
              · rw [if_neg hv, if_neg hv]
                refine ⟨rfl, by rw [b, h4], c, d, by omega, ?_⟩
                have h5 := lenN_small s lim _ _ _ _ 0 (by decide) v a
                have h6 : 256 ^ (0 + w) ≤ 256 ^ 4 := Nat.pow_le_pow_right (by decide) (by omega)
                omega
theorem head_eq {s : Bytes} {lim : Lim} {x : St} {p k : Nat} {room : Bool} {e : Option Nat} (h : Ok s lim x p) (hr : room = !decide ((k : Int) = lim.d)) :
    match R5.head s lim room x p e with
    | (some (n, q), y) => head s lim x.out.length k p e = .ok (n, q) ∧ y = { x with taken := q } ∧ q ≤ s.length ∧ (q : Int) ≤ lim.b ∧ p + 1 < q ∧ n < 4294967296 ∧ (x.out.length : Int) < lim.i ∧ (∀ v, e = some v → q + n ≤ v) ∧
        tagE (s.getD p 0).toNat = 0 ∧ (inner (s.getD p 0).toNat = true → room = true) ∧ p < s.length
    | (none, y) => head s lim x.out.length k p e = .error (flt y) := by
  unfold R5.head head
  cases hw : R5.want s lim x p with
  | mk b y =>
    cases b
    · simp only; rw [want_bad hw]
    · obtain ⟨h1, h2, h3, h4⟩ := want_ok hw (Nat.le_of_eq h.taken)
      simp only
      rw [h1]
      simp only
      have hyo : y.out = x.out := by rw [h4]
      have hout := h.out
      by_cases hi : lim.i ≤ y.out.length
      · rw [if_pos hi, if_pos (show (x.out.length : Int) = lim.i by rw [hyo] at hi; omega)]; rfl
      · rw [if_neg hi, if_neg (show ¬ (x.out.length : Int) = lim.i by rw [hyo] at hi; omega)]
        by_cases ht : tagE (s.getD p 0).toNat ≠ 0
        · rw [if_pos ht, if_pos ht]; rfl
        · rw [if_neg ht, if_neg ht]
          have hrm : (inner (s.getD p 0).toNat && !room) = (inner (s.getD p 0).toNat && decide ((k : Int) = lim.d)) := by rw [hr, Bool.not_not]
          rw [hrm]
          by_cases hf : (inner (s.getD p 0).toNat && decide ((k : Int) = lim.d)) = true
          · rw [if_pos hf, if_pos hf]; rfl
          · rw [if_neg hf, if_neg hf]
            have := length_eq (s := s) (lim := lim) (x := y) (p := p + 1) (by rw [h4])
            cases hl : R5.length s lim y (p + 1) with
            | mk o z =>
              rw [hl] at this
              cases o with
              | none => simp only at this ⊢; rw [this]
              | some t =>
                obtain ⟨n, q⟩ := t
                obtain ⟨a, b, c, d, g, f⟩ := this
                simp only
                rw [a]
                simp only
                by_cases he : (e.any (fun v => decide (v < q + n))) = true
                · rw [if_pos he, if_pos he]; rfl
                · rw [if_neg he, if_neg he]
                  refine ⟨rfl, by rw [b, h4], c, d, g, f, by rw [hyo] at hi; omega, ?_, Decidable.not_not.1 ht, ?_, h2⟩
                  · intro v hv
                    rw [hv] at he
                    simp only [Option.any_some, decide_eq_true_eq] at he
                    omega
                  · intro hin
                    rw [hr]
                    rw [hin, Bool.true_and] at hf
                    simp only [Bool.not_eq_true] at hf
                    rw [hf]; rfl

/-! Elements -/
theorem bump_len (l : List Node) (i : Nat) : (bump l i).length = l.length := List.length_modify _ _ _
theorem bump_app : ∀ (l r : List Node) (i : Nat), i < l.length → bump (l ++ r) i = bump l i ++ r
  | [], _, _, h => by simp at h
  | a :: l, r, 0, _ => rfl
  | a :: l, r, i + 1, h => by
    have := bump_app l r i (by simpa using h)
    unfold bump at *
    simp only [List.cons_append, List.modify_succ_cons, this]
theorem bump_comm : ∀ (l : List Node) (i j : Nat), bump (bump l i) j = bump (bump l j) i
  | [], _, _ => by unfold bump; simp
  | a :: l, 0, 0 => rfl
  | a :: l, 0, j + 1 => rfl
  | a :: l, i + 1, 0 => rfl
  | a :: l, i + 1, j + 1 => by
    have := bump_comm l i j
    unfold bump at *
    simp only [List.modify_succ_cons, this]
def bumps (l : List Node) : List Nat → List Node
  | [] => l
  | n :: ns => bump (bumps l ns) n
def nos (st : List Fm) : List Nat := st.map (·.no)
theorem bumps_len (l : List Node) : ∀ ns, (bumps l ns).length = l.length
  | [] => rfl
  | n :: ns => by unfold bumps; rw [bump_len, bumps_len l ns]
theorem bumps_app (l r : List Node) : ∀ ns : List Nat, (∀ n ∈ ns, n < l.length) → bumps (l ++ r) ns = bumps l ns ++ r
  | [], _ => rfl
  | n :: ns, h => by
    unfold bumps
    rw [bumps_app l r ns (fun k hk => h k (List.mem_cons_of_mem _ hk)), bump_app _ _ _ (by rw [bumps_len]; exact h n (List.mem_cons_self ..))]
theorem bumps_bump (l : List Node) (i : Nat) : ∀ ns : List Nat, bumps (bump l i) ns = bump (bumps l ns) i
  | [] => rfl
  | n :: ns => by unfold bumps; rw [bumps_bump l i ns, bump_comm]
theorem bumpTop_eq (l : List Node) (st : List Fm) : bumpTop (bumps l (nos st.tail)) st = bumps l (nos st) := by
  cases st with
  | nil => rfl
  | cons f rest => rfl

def Runs (r : Nat → Option (Except Flt Dx)) (e : Nat → Option (Except Flt Dx)) : Prop := ∃ n, ∀ m, r (n + m) = e m
theorem Runs.refl {r : Nat → Option (Except Flt Dx)} : Runs r r := ⟨0, fun m => by rw [Nat.zero_add]⟩
theorem Runs.trans {r e f : Nat → Option (Except Flt Dx)} (h : Runs r e) (k : Runs e f) : Runs r f := by
  obtain ⟨n, h⟩ := h
  obtain ⟨n2, k⟩ := k
  exact ⟨n + n2, fun m => by rw [Nat.add_assoc, h, k]⟩
theorem Runs.step {r e : Nat → Option (Except Flt Dx)} (h : ∀ m, r (m + 1) = e m) : Runs r e := ⟨1, fun m => by rw [Nat.add_comm]; exact h m⟩
theorem Runs.of {r e : Nat → Option (Except Flt Dx)} (h : ∀ m, r m = e m) : Runs r e := ⟨0, fun m => by rw [Nat.zero_add]; exact h m⟩

/-- What the stack names is in the list. -/
def Nos (st : List Fm) (x : St) : Prop := ∀ n ∈ nos st, n < x.out.length
def ElemD (s : Bytes) (lim : Lim) (x : St) (p : Nat) (st : List Fm) (r : Option Nat × St) : Prop :=
  match r with
  | (some q, y) => Ok s lim y q ∧ x.out.length < y.out.length ∧ p < q ∧ (∀ v, st.head?.map (·.end_) = some v → q ≤ v) ∧
      Runs (after s lim (beginD s lim ⟨p, st, bumps x.out (nos st.tail)⟩)) (after s lim (ended s ⟨q, st, bumps y.out (nos st)⟩ p))
  | (none, y) => Runs (after s lim (beginD s lim ⟨p, st, bumps x.out (nos st.tail)⟩)) (fun _ => some (.error (flt y)))
def InsD (s : Bytes) (lim : Lim) (x : St) (d : Dx) (st : List Fm) (at0 e : Nat) (r : Option Nat × St) : Prop :=
  match r with
  | (some q, y) => q = e ∧ Ok s lim y q ∧ x.out.length ≤ y.out.length ∧ Runs (fun m => loopN s lim m d) (after s lim (ended s ⟨q, st, bumps y.out (nos st)⟩ at0))
  | (none, y) => Runs (fun m => loopN s lim m d) (fun _ => some (.error (flt y)))
theorem loop_beg (s : Bytes) (lim : Lim) (x : Dx) (f : Fm) (rest : List Fm) (h : x.stack = f :: rest) (hl : x.at_ < f.end_) : Runs (fun m => loopN s lim m x) (after s lim (beginD s lim x)) := by
  refine Runs.step fun m => ?_
  show loopN s lim (m + 1) x = _
  unfold loopN
  rw [h]
  simp only
  rw [if_pos hl]
  rfl
theorem loop_pop (s : Bytes) (lim : Lim) (x : Dx) (f : Fm) (rest : List Fm) (h : x.stack = f :: rest) (hl : ¬ x.at_ < f.end_) : Runs (fun m => loopN s lim m x) (after s lim (ended s { x with stack := rest } f.at_)) := by
  refine Runs.step fun m => ?_
  show loopN s lim (m + 1) x = _
  unfold loopN
  rw [h]
  simp only
  rw [if_neg hl]
  rfl

theorem inside_eq (s : Bytes) (lim : Lim) (rc : St → Nat → Option Nat × St) (e : Nat) (t : UInt8) (at0 me : Nat) (st : List Fm)
    (hrc : ∀ x p last, Ok s lim x p → Nos (⟨t, at0, e, me, last⟩ :: st) x → ElemD s lim x p (⟨t, at0, e, me, last⟩ :: st) (rc x p)) :
    ∀ (m : Nat) (x : St) (p : Nat) (last last' : Bytes), Ok s lim x p → Nos (⟨t, at0, e, me, last⟩ :: st) x → p ≤ e → e - p ≤ m → (t.toNat = 49 → last' = last) →
      InsD s lim x ⟨p, ⟨t, at0, e, me, last'⟩ :: st, bumps x.out (nos st)⟩ st at0 e (R5.insideN s rc t.toNat me e m x p last) := by
  intro m
  induction m with
  | zero =>
    intro x p last last' h hn hp hm _
    exact ⟨by omega, h, Nat.le_refl _, loop_pop s lim _ ⟨t, at0, e, me, last'⟩ st rfl (by simp only; omega)⟩
  | succ m ih =>
    intro x p last last' h hn hp hm hl
    unfold R5.insideN
    by_cases hpe : p < e
    · rw [if_pos hpe]
      have h1 := loop_beg s lim ⟨p, ⟨t, at0, e, me, last'⟩ :: st, bumps x.out (nos st)⟩ ⟨t, at0, e, me, last'⟩ st rfl hpe
      have h2 := hrc x p last' h hn
      cases hr : rc x p with
      | mk o y =>
        rw [hr] at h2
        cases o with
        | none => exact h1.trans h2
        | some q =>
          simp only
          obtain ⟨i1, i2, i3, i4, i5⟩ := h2
          have hq : q ≤ e := i4 e rfl
          have hb : bumps (bump y.out me) (nos st) = bumps y.out (nos (⟨t, at0, e, me, last'⟩ :: st)) := bumps_bump _ _ _
          by_cases hk : (t.toNat == 49 && Op.bytesLess ((s.take q).drop p) last) = true
          · rw [if_pos hk]
            simp only [Bool.and_eq_true, beq_iff_eq] at hk
            refine h1.trans (i5.trans (Runs.of fun n => ?_))
            unfold ended
            simp only
            rw [if_pos (by rw [hk.1]; rfl), if_pos (by rw [hl hk.1]; exact hk.2)]
            rfl
          · rw [if_neg hk]
            have hOk : Ok s lim { y with out := bump y.out me } q := ⟨i1.ps, i1.pb, i1.taken, by simp only [bump_len]; exact i1.out⟩
            have hN : ∀ l, Nos (⟨t, at0, e, me, l⟩ :: st) { y with out := bump y.out me } := fun l n hm => by
              have : n < x.out.length := hn n hm
              simp only [bump_len]; omega
            have key : ∃ l', (t.toNat = 49 → l' = (s.take q).drop p) ∧ ended s ⟨q, ⟨t, at0, e, me, last'⟩ :: st, bumps y.out (nos (⟨t, at0, e, me, last'⟩ :: st))⟩ p = .ok ⟨q, ⟨t, at0, e, me, l'⟩ :: st, bumps (bump y.out me) (nos st)⟩ := by
              by_cases ht : t.toNat = 49
              · refine ⟨(s.take q).drop p, fun _ => rfl, ?_⟩
                unfold ended
                simp only
                have hk' : ¬ Op.bytesLess ((s.take q).drop p) last' = true := by
                  rw [hl ht]
                  intro hh
                  exact hk (by rw [ht, hh]; rfl)
                rw [if_pos (by rw [ht]; rfl), if_neg hk', hb]
              · refine ⟨last', fun hh => absurd hh ht, ?_⟩
                unfold ended
                simp only
                rw [if_neg (by simpa using ht), hb]
            obtain ⟨l', k1, k2⟩ := key
            rw [k2] at i5
            have h3 := ih { y with out := bump y.out me } q ((s.take q).drop p) l' hOk (hN _) hq (by omega) k1
            cases hr2 : R5.insideN s rc t.toNat me e m { y with out := bump y.out me } q ((s.take q).drop p) with
            | mk o2 z =>
              rw [hr2] at h3
              cases o2 with
              | none => exact h1.trans (i5.trans h3)
              | some r =>
                obtain ⟨j1, j2, j3, j4⟩ := h3
                refine ⟨j1, j2, ?_, h1.trans (i5.trans j4)⟩
                simp only [bump_len] at j3
                omega
    · rw [if_neg hpe]
      have hpe' : p = e := by omega
      subst hpe'
      exact ⟨rfl, h, Nat.le_refl _, loop_pop s lim _ ⟨t, at0, p, me, last'⟩ st rfl hpe⟩
theorem leaf_eq {s : Bytes} {lim : Lim} {x y : St} {p q n : Nat} {st : List Fm} (hn : Nos st x) (hy : y = { x with taken := q }) (hq1 : q ≤ s.length) (hq2 : (q : Int) ≤ lim.b) (hpq : p + 1 < q) (hlt : (x.out.length : Int) < lim.i)
    (hend : ∀ v, st.head?.map (·.end_) = some v → q + n ≤ v) (hh : head s lim x.out.length st.length p (st.head?.map (·.end_)) = .ok (n, q)) (hin : inner (s.getD p 0).toNat = false) :
    ElemD s lim x p st (R5.leaf s lim y (s.getD p 0) p q n) := by
  have hyo : y.out = x.out := by rw [hy]
  have hbl : (bumps x.out (nos st.tail)).length = x.out.length := bumps_len _ _
  have hb : beginD s lim ⟨p, st, bumps x.out (nos st.tail)⟩ = (match (if n = 0 then .ok 0 else want s lim (q + n - 1)) with
      | .error e => .error e
      | .ok _ => if R5.body (s.getD p 0).toNat ((s.take (q + n)).drop q) then ended s { at_ := q + n, stack := st, out := bumpTop (bumps x.out (nos st.tail)) st ++ [⟨s.getD p 0, -1, (s.take (q + n)).drop q⟩] } p else .error (p, 9)) := by
    unfold beginD
    simp only [hbl]
    rw [hh]
    simp only
    rw [hin]
    rfl
  unfold R5.leaf
  by_cases h0 : n = 0
  · subst h0
    rw [if_pos rfl] at hb ⊢
    simp only [Nat.add_zero] at hb ⊢
    by_cases hbd : R5.body (s.getD p 0).toNat ((s.take q).drop q) = true
    · rw [if_pos hbd] at hb ⊢
      refine ⟨⟨hq1, hq2, by rw [hy], by simp [hyo]; omega⟩, by simp [hyo], by omega, fun v hv => by have := hend v hv; omega, Runs.of fun m => ?_⟩
      rw [hb, bumpTop_eq, hyo, bumps_app _ _ _ hn]
    · rw [if_neg hbd] at hb ⊢
      exact Runs.of fun m => by rw [hb]; rfl
  · rw [if_neg h0] at hb ⊢
    cases hw : R5.want s lim y (q + n - 1) with
    | mk b z =>
      cases b
      · rw [want_bad hw] at hb
        exact Runs.of fun m => by rw [hb]; rfl
      · obtain ⟨h1, h2, h3, h4⟩ := want_ok hw (by rw [hy]; show q ≤ _; omega)
        rw [h1] at hb
        simp only at hb ⊢
        have hzo : z.out = x.out := by rw [h4, ← hyo]
        by_cases hbd : R5.body (s.getD p 0).toNat ((s.take (q + n)).drop q) = true
        · rw [if_pos hbd] at hb ⊢
          refine ⟨⟨by omega, by omega, by rw [h4]; show q + n - 1 + 1 = q + n; omega, by simp [hzo]; omega⟩, by simp [hzo], by omega, fun v hv => hend v hv, Runs.of fun m => ?_⟩
          rw [hb, bumpTop_eq, hzo, bumps_app _ _ _ hn]
        · rw [if_neg hbd] at hb ⊢
          exact Runs.of fun m => by rw [hb]; rfl

theorem elem_eq (s : Bytes) (lim : Lim) : ∀ (d : Nat) (x : St) (p : Nat) (st : List Fm), Ok s lim x p → Nos st x → ((st.length + d : Nat) : Int) = lim.d → ElemD s lim x p st (R5.elem s lim d x p (st.head?.map (·.end_))) := by
  intro d
  induction d with
  | zero =>
    intro x p st h hn hd
    have hh := head_eq (k := st.length) (room := false) (e := st.head?.map (·.end_)) h (by rw [decide_eq_true (by omega)]; rfl)
    unfold R5.elem
    cases hr : R5.head s lim false x p (st.head?.map (·.end_)) with
    | mk o y =>
      rw [hr] at hh
      cases o with
      | none =>
        refine Runs.of fun m => ?_
        unfold beginD
        simp only [bumps_len]
        rw [hh]
        rfl
      | some t =>
        obtain ⟨n, q⟩ := t
        obtain ⟨h1, h2, h3, h4, h5, h6, h7, h8, h9, h10, h11⟩ := hh
        refine leaf_eq hn h2 h3 h4 h5 h7 h8 h1 ?_
        cases hi : inner (s.getD p 0).toNat with
        | false => rfl
        | true => exact absurd (h10 hi) (by decide)
  | succ d ih =>
    intro x p st h hn hd
    have hh := head_eq (k := st.length) (room := true) (e := st.head?.map (·.end_)) h (by rw [decide_eq_false (by omega)]; rfl)
    unfold R5.elem
    cases hr : R5.head s lim true x p (st.head?.map (·.end_)) with
    | mk o y =>
      rw [hr] at hh
      cases o with
      | none =>
        refine Runs.of fun m => ?_
        unfold beginD
        simp only [bumps_len]
        rw [hh]
        rfl
      | some t =>
        obtain ⟨n, q⟩ := t
        obtain ⟨h1, h2, h3, h4, h5, h6, h7, h8, h9, h10, h11⟩ := hh
        simp only
        have hyo : y.out = x.out := by rw [h2]
        by_cases hin : inner (s.getD p 0).toNat = true
        · rw [if_pos hin]
          have hb : beginD s lim ⟨p, st, bumps x.out (nos st.tail)⟩ = .ok ⟨q, ⟨s.getD p 0, p, q + n, x.out.length, []⟩ :: st, bumps (x.out ++ [⟨s.getD p 0, 0, []⟩]) (nos st)⟩ := by
            unfold beginD
            simp only [bumps_len]
            rw [h1]
            simp only
            rw [if_pos hin, bumpTop_eq, bumps_app _ _ _ hn]
          have hOk : Ok s lim { y with out := y.out ++ [⟨s.getD p 0, 0, []⟩], frames := y.frames + 1 } q := ⟨h3, h4, by rw [h2], by simp [hyo]; omega⟩
          have hins := inside_eq s lim (fun x p => R5.elem s lim d x p (some (q + n))) (q + n) (s.getD p 0) p x.out.length st
            (fun x' p' last hk hk2 => ih x' p' (⟨s.getD p 0, p, q + n, x.out.length, last⟩ :: st) hk hk2 (by simp only [List.length_cons]; omega))
            (q + n - q) { y with out := y.out ++ [⟨s.getD p 0, 0, []⟩], frames := y.frames + 1 } q [] [] hOk
            (fun k hk => by
              simp only [nos, List.map_cons, List.mem_cons] at hk
              simp only [hyo, List.length_append, List.length_singleton]
              rcases hk with rfl | hk
              · omega
              · have : k < x.out.length := hn k hk
                omega) (Nat.le_add_right _ _) (Nat.le_refl _) (fun _ => rfl)
          unfold R5.inside
          rw [hyo] at hins ⊢
          cases hr2 : R5.insideN s (fun x p => R5.elem s lim d x p (some (q + n))) (s.getD p 0).toNat x.out.length (q + n) (q + n - q) { y with out := x.out ++ [⟨s.getD p 0, 0, []⟩], frames := y.frames + 1 } q [] with
          | mk o2 z =>
            rw [hr2] at hins
            have h0 : Runs (after s lim (beginD s lim ⟨p, st, bumps x.out (nos st.tail)⟩)) (fun m => loopN s lim m ⟨q, ⟨s.getD p 0, p, q + n, x.out.length, []⟩ :: st, bumps (x.out ++ [⟨s.getD p 0, 0, []⟩]) (nos st)⟩) := Runs.of fun m => by rw [hb]; rfl
            cases o2 with
            | none => exact h0.trans hins
            | some r =>
              obtain ⟨j1, j2, j3, j4⟩ := hins
              simp only [List.length_append, List.length_singleton] at j3
              exact ⟨⟨j2.ps, j2.pb, j2.taken, j2.out⟩, by show x.out.length < z.out.length; omega, by omega, fun v hv => by have := h8 v hv; omega, h0.trans j4⟩
        · rw [if_neg hin]
          exact leaf_eq hn h2 h3 h4 h5 h7 h8 h1 (by simpa using hin)
theorem run_ref (s : Bytes) (lim : Lim) (hm : lim.may = true) :
    match R5.elem s lim lim.d.toNat R5.start 0 none with
    | (some q, y) => q ≤ s.length ∧ (q : Int) ≤ lim.b ∧ ∃ m, run s lim m = some (.ok ⟨q, [], y.out⟩)
    | (none, y) => ∃ m, run s lim m = some (.error (flt y)) := by
  have hmay : 1 ≤ lim.d ∧ 1 ≤ lim.i ∧ 1 ≤ lim.b := by
    unfold Lim.may at hm
    simp only [Bool.and_eq_true, decide_eq_true_eq] at hm
    omega
  have h := elem_eq s lim lim.d.toNat R5.start 0 [] ⟨Nat.zero_le _, by omega, rfl, by show ((0 : Nat) : Int) ≤ lim.i; omega⟩ (fun n hn => by simp [nos] at hn) (by show ((0 + lim.d.toNat : Nat) : Int) = lim.d; omega)
  have h' : ElemD s lim R5.start 0 [] (R5.elem s lim lim.d.toNat R5.start 0 none) := h
  cases hr : R5.elem s lim lim.d.toNat R5.start 0 none with
  | mk o y =>
    rw [hr] at h'
    cases o with
    | none =>
      obtain ⟨n, h'⟩ := h'
      exact ⟨n, h' 0⟩
    | some q =>
      obtain ⟨k, _, _, _, n, h'⟩ := h'
      exact ⟨k.ps, k.pb, n + 1, h' 1⟩
end Go.Px.D5

/-! The telling of layer 15 as plain functions: what is one right element and its bytes; the stack that counts. No program is named here. -/
namespace Go.Px.E5

/-- The bytes of a number, the greatest first, ahead of others. -/
def beN : Nat → Nat → Bytes → Bytes
  | 0, _, s => s
  | m + 1, n, s => if n = 0 then s else beN m (n / 256) (UInt8.ofNat (n % 256) :: s)
/-- A length as bytes. -/
def lenB (n : Nat) : Bytes := if n < 128 then [UInt8.ofNat n] else UInt8.ofNat (128 + (beN 8 n []).length) :: beN 8 n []
def wrap (t : UInt8) (b : Bytes) : Bytes := t :: (lenB b.length ++ b)
def leaf (a : Node) : Bool := decide (a.kids < 0)
def count (a : Node) : Nat := a.kids.toNat
def right (a : Node) : Bool := R5.tagE a.tag.toNat == 0 && decide (-1 ≤ a.kids) && (R5.inner a.tag.toNat == !leaf a) && (if leaf a then R5.body a.tag.toNat a.body else a.body.isEmpty)
def dec : List Nat → List Nat
  | [] => []
  | n :: r => (n - 1) :: r
def pops : List Nat → List Nat
  | [] => []
  | n :: r => if n = 0 then pops r else n :: r
/-- The program's count of what stands within one another. -/
def shape : Bool → List Node → List Nat → Nat → Option (Nat × List Nat)
  | _, [], left, most => some (most, left)
  | first, a :: r, left, most =>
    if (!first && left.isEmpty) || !right a then none
    else if leaf a then shape false r (pops (dec left)) most
    else shape false r (pops (count a :: dec left)) (max most (left.length + 1))
/-- The reference's. -/
def behind : List Node → List Nat → Nat → Nat → Option Nat × Nat
  | [], _, most, _ => (none, most)
  | a :: r, left, most, i =>
    if a.kids < -1 then (none, most)
    else
      let left2 := if leaf a then dec left else count a :: dec left
      if (pops left2).isEmpty then (some (i + 1), max most left2.length) else behind r (pops left2) (max most left2.length) (i + 1)

/-! Elements in a row: their list, their bytes, whether a set is out of order somewhere -/
def Kids (R : List Node → Bytes → Bool → Prop) (set : Bool) : Nat → Bytes → List Node → Bytes → Bool → Prop
  | 0, _, l, b, o => l = [] ∧ b = [] ∧ o = false
  | m + 1, last, l, b, o => ∃ x r bx br o1 o2, l = x ++ r ∧ b = bx ++ br ∧ R x bx o1 ∧ Kids R set m bx r br o2 ∧ o = (o1 || (set && Op.bytesLess bx last) || o2)
/-- One element, within which at most d stand within one another. -/
def El : Nat → List Node → Bytes → Bool → Prop
  | 0, l, b, o => ∃ a, l = [a] ∧ right a = true ∧ leaf a = true ∧ b = wrap a.tag a.body ∧ o = false
  | d + 1, l, b, o => (∃ a, l = [a] ∧ right a = true ∧ leaf a = true ∧ b = wrap a.tag a.body ∧ o = false) ∨
      (∃ a r br, l = a :: r ∧ right a = true ∧ leaf a = false ∧ Kids (El d) (a.tag.toNat == 49) (count a) [] r br o ∧ b = wrap a.tag br)
theorem Kids.mono {R R' : List Node → Bytes → Bool → Prop} (h : ∀ l b o, R l b o → R' l b o) {set : Bool} : ∀ {m last l b o}, Kids R set m last l b o → Kids R' set m last l b o
  | 0, _, _, _, _, k => k
  | _ + 1, _, _, _, _, ⟨x, r, bx, br, o1, o2, e, e2, h1, h2, h3⟩ => ⟨x, r, bx, br, o1, o2, e, e2, h _ _ _ h1, Kids.mono h h2, h3⟩
theorem El.succ : ∀ {d l b o}, El d l b o → El (d + 1) l b o
  | 0, _, _, _, h => .inl h
  | _ + 1, _, _, _, .inl h => .inl h
  | _ + 1, _, _, _, .inr ⟨a, r, br, e, h1, h2, h3, h4⟩ => .inr ⟨a, r, br, e, h1, h2, h3.mono fun _ _ _ h => El.succ h, h4⟩
theorem El.mono {d e : Nat} (hd : d ≤ e) {l : List Node} {b : Bytes} {o : Bool} (h : El d l b o) : El e l b o := by
  induction hd with
  | refl => exact h
  | step _ ih => exact ih.succ
theorem El.pos {d : Nat} {l : List Node} {b : Bytes} {o : Bool} (h : El d l b o) : 1 ≤ l.length := by
  cases d with
  | zero => obtain ⟨a, rfl, _⟩ := h; exact Nat.le_refl _
  | succ d =>
    rcases h with ⟨a, rfl, _⟩ | ⟨a, r, br, rfl, _⟩
    · exact Nat.le_refl _
    · simp
theorem El.all : ∀ {d l b o}, El d l b o → ∀ a ∈ l, right a = true
  | 0, _, _, _, ⟨a, e, h, _⟩ => by subst e; intro b hb; rw [List.mem_singleton.1 hb]; exact h
  | d + 1, _, _, _, .inl ⟨a, e, h, _⟩ => by subst e; intro b hb; rw [List.mem_singleton.1 hb]; exact h
  | d + 1, _, _, _, .inr ⟨a, r, br, e, h, _, hk, _⟩ => by
    subst e
    have inner : ∀ (m : Nat) (last : Bytes) (set : Bool) (l : List Node) (b : Bytes) (o : Bool), Kids (El d) set m last l b o → ∀ a ∈ l, right a = true := by
      intro m
      induction m with
      | zero => intro last set l b o k; obtain ⟨rfl, _⟩ := k; intro a ha; cases ha
      | succ m ih =>
        intro last set l b o ⟨x, r, bx, br, o1, o2, e, _, h1, h2, _⟩
        subst e
        intro a ha
        rcases List.mem_append.1 ha with ha | ha
        · exact El.all h1 a ha
        · exact ih _ _ _ _ _ h2 a ha
    intro b hb
    rcases List.mem_cons.1 hb with rfl | hb
    · exact h
    · exact inner _ _ _ _ _ _ hk b hb
theorem El.node {d : Nat} {a : Node} {r : List Node} {br : Bytes} {o : Bool} (h1 : right a = true) (h2 : leaf a = false) (h3 : Kids (El d) (a.tag.toNat == 49) (count a) [] r br o) : El (d + 1) (a :: r) (wrap a.tag br) o := .inr ⟨a, r, br, rfl, h1, h2, h3, rfl⟩
theorem El.one {d : Nat} {a : Node} (h1 : right a = true) (h2 : leaf a = true) : El d [a] (wrap a.tag a.body) false := by
  cases d with
  | zero => exact ⟨a, rfl, h1, h2, rfl, rfl⟩
  | succ d => exact .inl ⟨a, rfl, h1, h2, rfl, rfl⟩

/-! From the stack to elements -/
def RowsN (R : List Node → Bytes → Bool → Prop) : Nat → List Node → Prop
  | 0, l => l = []
  | n + 1, l => ∃ x r b o, l = x ++ r ∧ R x b o ∧ RowsN R n r
theorem RowsN.kids {R : List Node → Bytes → Bool → Prop} (set : Bool) : ∀ {n l}, RowsN R n l → ∀ last, ∃ b o, Kids R set n last l b o
  | 0, _, h => fun _ => ⟨[], false, h, rfl, rfl⟩
  | n + 1, _, ⟨x, r, b, o, e, h1, h2⟩ => fun last => by
    obtain ⟨b2, o2, k⟩ := RowsN.kids set h2 b
    exact ⟨_, _, x, r, b, b2, o, o2, e, rfl, h1, k, rfl⟩
def Stk (D : Nat) : List Nat → List Node → Prop
  | [], l => l = []
  | c :: rest, l => ∃ l1 l2, l = l1 ++ l2 ∧ RowsN (El (D - (rest.length + 1))) c l1 ∧ Stk D rest l2
theorem Stk.pops {D : Nat} : ∀ {st l}, Stk D (E5.pops st) l → Stk D st l
  | [], _, h => h
  | n :: r, l, h => by
    unfold E5.pops at h
    by_cases hn : n = 0
    · rw [if_pos hn] at h
      subst hn
      exact ⟨[], l, rfl, rfl, Stk.pops h⟩
    · rw [if_neg hn] at h
      exact h
theorem shape_right : ∀ (l : List Node) (f : Bool) (left : List Nat) (most : Nat) (r : Nat × List Nat), shape f l left most = some r → ∀ a ∈ l, right a = true
  | [], _, _, _, _, _ => fun _ h => by cases h
  | a :: t, f, left, most, r, h => by
    unfold shape at h
    split at h
    · cases h
    · rename_i hc
      have hra : right a = true := by
        simp only [Bool.or_eq_true, not_or, Bool.not_eq_true', Bool.not_eq_false] at hc
        exact hc.2
      intro b hb
      rcases List.mem_cons.1 hb with rfl | hb
      · exact hra
      · split at h
        · exact shape_right t _ _ _ _ h b hb
        · exact shape_right t _ _ _ _ h b hb
theorem right_kids {a : Node} (h : right a = true) : -1 ≤ a.kids := by
  unfold right at h
  simp only [Bool.and_eq_true, decide_eq_true_eq] at h
  exact h.1.1.2
end Go.Px.E5

/-! What is told is read: the bytes of one right element are read back, or refused when a set is out of order (plain law, layer 15). No program is named here. -/
namespace Go.Px.E5
open R5 (St bump inner tagE)
/-! Lengths -/
def val : Bytes → Nat → Nat
  | [], a => a
  | c :: r, a => val r (256 * a + c.toNat)
theorem lenB_pos (n : Nat) : 1 ≤ (lenB n).length := by
  unfold lenB
  split
  · exact Nat.le_refl _
  · simp
theorem wrap_len (t : UInt8) (b : Bytes) : (wrap t b).length = 1 + (lenB b.length).length + b.length := by
  unfold wrap
  rw [List.length_cons, List.length_append]
  omega
theorem El.bytes {d : Nat} {l : List Node} {b : Bytes} {o : Bool} (h : El d l b o) : 2 ≤ b.length := by
  have w : ∀ t (b : Bytes), 2 ≤ (wrap t b).length := fun t b => by have := lenB_pos b.length; rw [wrap_len]; omega
  cases d with
  | zero => obtain ⟨a, _, _, _, rfl, _⟩ := h; exact w _ _
  | succ d =>
    rcases h with ⟨a, _, _, _, rfl, _⟩ | ⟨a, r, br, _, _, _, _, rfl⟩
    · exact w _ _
    · exact w _ _
end Go.Px.E5

/-! What is read is told: an element that the reference reads is one right element, and its bytes are those that stand there (plain law, layer 15). No program is named here. -/
namespace Go.Px.E5
open R5 (St bump inner tagE)
open D5 (Ok)
theorem drop_take_self (s : Bytes) (p : Nat) : (s.take p).drop p = [] := List.drop_eq_nil_of_le (by rw [List.length_take]; omega)
theorem drop_take_cons {s : Bytes} {p q : Nat} (h : p < s.length) (hq : p < q) : (s.take q).drop p = s.getD p 0 :: (s.take q).drop (p + 1) := by
  rw [List.drop_eq_getElem_cons (by rw [List.length_take]; omega), List.getElem_take, List.getD_eq_getElem?_getD, List.getElem?_eq_getElem h]
  rfl
theorem take_split {s : Bytes} {p q r : Nat} (h1 : p ≤ q) (h2 : q ≤ r) : (s.take r).drop p = (s.take q).drop p ++ (s.take r).drop q := by
  have e : (s.take r).drop q = ((s.take r).drop p).drop (q - p) := by rw [List.drop_drop]; congr 1; omega
  have e2 : (s.take q).drop p = ((s.take r).drop p).take (q - p) := by
    rw [List.drop_take, List.drop_take, List.take_take]; congr 1; omega
  rw [e, e2, List.take_append_drop]
theorem part_len {s : Bytes} {p q : Nat} (h : q ≤ s.length) : ((s.take q).drop p).length = q - p := by
  rw [List.length_drop, List.length_take]
  omega
/-- What is read from p to q: a list behind what was there. -/
structure Snd (s : Bytes) (lim : Lim) (d : Nat) (x y : St) (p q : Nat) (e : Option Nat) (l : List Node) : Prop where
  el : El d l ((s.take q).drop p) false
  out : y.out = x.out ++ l
  lt : p < q
  ok : Ok s lim y q
  le : ∀ v, e = some v → q ≤ v
  err : y.err = x.err
  place : y.place = x.place
/-! Decode, by elements -/
theorem may_of {lim : Lim} (hm : lim.may = true) : 1 ≤ lim.d ∧ lim.d ≤ 32 ∧ 1 ≤ lim.i ∧ lim.i ≤ 4096 ∧ 1 ≤ lim.b ∧ lim.b ≤ 262144 ∧ 1 ≤ lim.r ∧ lim.r ≤ 4096 := by
  unfold Lim.may at hm
  simp only [Bool.and_eq_true, decide_eq_true_eq] at hm
  omega
end Go.Px.E5

/-! The feed of layer 19 against the reference's reader of layer 16 (plain law): one byte, blanks, one byte that must stand there. No program is named here. -/
namespace Go.Px.J6
open R6 (at_ blank)

/-- The feed stands at a place of a text; nothing is wrong so far. -/
structure At (s : Bytes) (lim : Lim) (p : Nat) (f : Feed) : Prop where
  fl : f.lim = lim
  n : f.n = p
  ps : p ≤ s.length
  pb : (p : Int) ≤ lim.b
  err : f.err = 0
/-- The reader stands there; the byte there may have been looked at. -/
structure RAt (s : Bytes) (lim : Lim) (p : Nat) (x : R6.St) : Prop where
  lo : p ≤ x.r.taken
  hi : x.r.taken ≤ p + 1
  pk : x.r.taken = p + 1 → p < s.length ∧ (p : Int) < lim.b
  err : x.r.err = 0
  place : x.r.place = 0
  ended : x.r.ended = false
/-- What can be seen of a feed. -/
def obs (g : Feed) : Int × Nat × Nat × (List Val × Int × Int) := (g.err, g.n, g.stack.length, End g)
/-- What a reader that stopped says of it. -/
def told (y : R5.St) : Int × Nat × Nat × (List Val × Int × Int) := (if y.ended then 0 else y.err, y.taken, y.frames, ([], y.place, y.err))
variable {s : Bytes} {lim : Lim} {p : Nat} {f : Feed} {x y : R6.St}
theorem obs_wrong (g : Feed) (p e : Int) (he : e ≠ 0) (r : Bytes) : obs (write (wrong g p e) r) = (e, g.n, g.stack.length, ([], p, e)) := by
  rw [write_stop (by simpa [wrong] using he)]
  unfold obs End
  rw [if_pos (by simpa [wrong] using he)]
  rfl
theorem want_cases (s : Bytes) (lim : Lim) (x : R6.St) (p : Nat) :
    (p < s.length ∧ (p : Int) < lim.b ∧ R6.want s lim x p = (true, { x with r := R5.take x.r (p + 1) })) ∨
    (¬ (p < s.length ∧ (p : Int) < lim.b) ∧ lim.b < s.length ∧ R6.want s lim x p = (false, { x with r := R5.fault (R5.take x.r lim.b.toNat) lim.b 10 })) ∨
    (¬ (p < s.length ∧ (p : Int) < lim.b) ∧ ¬ lim.b < s.length ∧ R6.want s lim x p = (false, { x with r := { R5.fault (R5.take x.r s.length) s.length 9 with ended := true } })) := by
  unfold R6.want R5.want
  by_cases h1 : p < s.length ∧ (p : Int) < lim.b
  · exact .inl ⟨h1.1, h1.2, by rw [if_pos h1]⟩
  · by_cases h2 : lim.b < s.length
    · exact .inr (.inl ⟨h1, h2, by rw [if_neg h1, if_pos h2]⟩)
    · exact .inr (.inr ⟨h1, h2, by rw [if_neg h1, if_neg h2]⟩)
theorem want_no (h : At s lim p f) (hx : RAt s lim p x) (hfr : x.r.frames = f.stack.length) (hE : End f = ([], (f.n : Int), 9)) (hw : R6.want s lim x p = (false, y)) : obs (write f (s.drop p)) = told y.r := by
  have h1 := h.ps
  have h2 := h.pb
  have h3 := hx.lo
  have h4 := hx.hi
  have h5 := hx.pk
  rcases want_cases s lim x p with ⟨_, _, e⟩ | ⟨c1, c2, e⟩ | ⟨c1, c2, e⟩
  · rw [e] at hw; cases hw
  · rw [e] at hw
    cases hw
    have ht : x.r.taken = p := by
      by_cases ht : x.r.taken = p + 1
      · exact absurd (h5 ht) c1
      · omega
    have hp : (p : Int) = lim.b := by omega
    have hlt : p < s.length := by omega
    rw [List.drop_eq_getElem_cons hlt, write_cons, if_pos (by rw [h.err]; rfl)]
    have e1 : byte f s[p] = wrong f lim.b 10 := by
      unfold byte
      rw [if_pos (by rw [h.n, h.fl, hp]; simp), h.fl]
    rw [e1, obs_wrong _ _ _ (by decide)]
    unfold told
    show _ = (if x.r.ended = true then (0 : Int) else 10, max x.r.taken lim.b.toNat, x.r.frames, (([] : List Val), lim.b, (10 : Int)))
    rw [hx.ended, if_neg (by decide), hfr, h.n, ht]
    congr 2
    omega
  · rw [e] at hw
    cases hw
    have ht : x.r.taken = p := by
      by_cases ht : x.r.taken = p + 1
      · exact absurd (h5 ht) c1
      · omega
    have hp : p = s.length := by omega
    rw [List.drop_eq_nil_of_le (by omega)]
    show obs f = _
    unfold obs told
    rw [hE, h.err, h.n]
    show _ = (if true = true then (0 : Int) else 9, max x.r.taken s.length, x.r.frames, (([] : List Val), (s.length : Int), (9 : Int)))
    rw [if_pos rfl, hfr, ht, hp, Nat.max_self]
theorem want_yes (h : At s lim p f) (hx : RAt s lim p x) (hw : R6.want s lim x p = (true, y)) :
    p < s.length ∧ (p : Int) < lim.b ∧ y = { x with r := { x.r with taken := p + 1 } } ∧ write f (s.drop p) = write (takeC f (s.getD p 0)) (s.drop (p + 1)) := by
  rcases want_cases s lim x p with ⟨c1, c2, e⟩ | ⟨_, _, e⟩ | ⟨_, _, e⟩
  · rw [e] at hw
    simp only [Prod.mk.injEq, true_and] at hw
    refine ⟨c1, c2, ?_, ?_⟩
    · rw [← hw]
      unfold R5.take
      rw [Nat.max_eq_right (by have := hx.hi; omega)]
    · have hg : s.getD p 0 = s[p] := by simp [c1]
      rw [hg, List.drop_eq_getElem_cons c1, write_cons, if_pos (by rw [h.err]; rfl)]
      unfold byte
      rw [if_neg (by rw [h.n, h.fl]; simp; omega)]
  · rw [e] at hw; cases hw
  · rw [e] at hw; cases hw
/-- Behind a byte that was wanted. -/
theorem RAt.next (hx : RAt s lim p x) : RAt s lim (p + 1) { x with r := { x.r with taken := p + 1 } } :=
  ⟨Nat.le_refl _, Nat.le_succ _, fun h => absurd h (by show ¬ p + 1 = p + 1 + 1; omega), hx.err, hx.place, hx.ended⟩
/-- A byte that was wanted and is not passed yet. -/
theorem RAt.peek (hx : RAt s lim p x) (h1 : p < s.length) (h2 : (p : Int) < lim.b) : RAt s lim p { x with r := { x.r with taken := p + 1 } } :=
  ⟨Nat.le_succ _, Nat.le_refl _, fun _ => ⟨h1, h2⟩, hx.err, hx.place, hx.ended⟩
theorem At.on (h : At s lim p f) (h1 : p < s.length) (h2 : (p : Int) < lim.b) {g : Feed} (hl : g.lim = f.lim) (hn : g.n = f.n + 1) (he : g.err = f.err) : At s lim (p + 1) g :=
  ⟨hl.trans h.fl, by rw [hn, h.n], h1, by omega, he.trans h.err⟩
/-- A fault at the byte that was wanted last. -/
theorem fault_sim {y : R6.St} {g : Feed} {e : Int} (he : e ≠ 0) (hn : g.n = p + 1) (ht : y.r.taken = p + 1) (hend : y.r.ended = false) (hfr : y.r.frames = g.stack.length) (r : Bytes) :
    obs (write (wrong g (g.n - 1 : Nat) e) r) = told (R6.fault y p e).r := by
  rw [obs_wrong _ _ _ he]
  unfold told R6.fault R5.fault
  simp only [hend, ht, hfr, hn]
  rfl

/-! Blanks -/
theorem pass_sim : ∀ (m p : Nat) (x : R6.St) (f : Feed), s.length + 1 ≤ m + p → At s lim p f → RAt s lim p x → x.r.frames = f.stack.length → f.now = .none → f.next ≠ 6 →
    match R6.passN s lim m x p with
    | (none, y) => obs (write f (s.drop p)) = told y.r
    | (some q, y) => p ≤ q ∧ q < s.length ∧ (q : Int) < lim.b ∧ blank (at_ s q) = false ∧ y = { x with r := { x.r with taken := q + 1 } } ∧ At s lim q { f with n := q } ∧ write f (s.drop p) = write { f with n := q } (s.drop q) := by
  intro m
  induction m with
  | zero => intro p x f hm h; have := h.ps; omega
  | succ m ih =>
    intro p x f hm h hx hfr hnow hnext
    unfold R6.passN
    have hE : End f = ([], (f.n : Int), 9) := by
      unfold End
      rw [if_neg (by simp [h.err]), hnow]
      simp only
      rw [if_neg (by simpa using hnext)]
    cases hw : R6.want s lim x p with
    | mk b y =>
      cases b with
      | false => exact want_no h hx hfr hE hw
      | true =>
        obtain ⟨h1, h2, hy, hwr⟩ := want_yes h hx hw
        simp only
        by_cases hb : blank (at_ s p) = true
        · rw [if_pos hb]
          have e1 : takeC f (s.getD p 0) = { f with n := p + 1 } := by
            unfold takeC
            simp only [hnow, h.n]
            unfold structure_
            have hb' : blank (s.getD p 0).toNat = true := hb
            rw [if_pos hb']
          rw [hwr, e1]
          have k := ih (p + 1) y { f with n := p + 1 } (by omega) (h.on h1 h2 rfl (by rw [h.n]) rfl) (by rw [hy]; exact hx.next) (by rw [hy]; exact hfr) hnow hnext
          cases hr : R6.passN s lim m y (p + 1) with
          | mk o z =>
            rw [hr] at k
            cases o with
            | none => exact k
            | some q =>
              obtain ⟨k1, k2, k3, k4, k5, k6, k7⟩ := k
              refine ⟨by omega, k2, k3, k4, ?_, k6, k7⟩
              rw [k5, hy]
        · rw [if_neg hb]
          have ef : ({ f with n := p } : Feed) = f := by rw [← h.n]
          refine ⟨Nat.le_refl _, h1, h2, by simpa using hb, hy, ?_, ?_⟩
          · rw [ef]; exact h
          · rw [ef]
end Go.Px.J6

/-! The feed of layer 19 against the reference's reader of layer 16 (plain law): words, four digits, what stands behind a backslash. No program is named here. -/
namespace Go.Px.J6
open R6 (at_ blank)
variable {s : Bytes} {lim : Lim} {p : Nat} {f : Feed} {x y : R6.St}
/-- What a string's step makes of the feed (the byte is counted). -/
def onStr (g : Feed) (r : Res × Txt) : Feed := match r.1 with
  | .takes => { g with now := .str r.2 }
  | .ends => finish { g with now := .str r.2 }
  | .refuses => wrong { g with now := .str r.2 } (g.n - 1 : Nat) 9
  | .ahead => { g with now := .str r.2 }
theorem signBegin_res (t : Txt) (c : Nat) : (signBegin t c).1 ≠ .ahead := by
  unfold signBegin
  simp only
  generalize (if decide (194 ≤ c) && decide (c < 224) then 1 else if decide (224 ≤ c) && decide (c < 240) then 2 else if decide (240 ≤ c) && decide (c < 245) then 3 else 0) = n
  split
  · exact fun h => by cases h
  · exact fun h => by cases h
theorem fourth_res (t : Txt) (n : Nat) : (fourth t n).1 ≠ .ahead := by
  unfold fourth
  simp only
  split
  · exact fun h => by cases h
  · split
    · exact fun h => by cases h
    · split
      · exact fun h => by cases h
      · exact fun h => by cases h
theorem txtTake_res (t : Txt) (c : UInt8) : (txtTake t c).1 ≠ .ahead := by
  unfold txtTake
  split
  · unfold escaped
    split
    · exact fun h => by cases h
    · split
      · exact fun h => by cases h
      · exact fun h => by cases h
  · split
    · unfold digitTake
      split
      · exact fun h => by cases h
      · split
        · exact fun h => by cases h
        · exact fourth_res _ _
    · split
      · split
        · exact fun h => by cases h
        · exact fun h => by cases h
      · split
        · split
          · exact fun h => by cases h
          · exact fun h => by cases h
        · split
          · split
            · exact fun h => by cases h
            · exact fun h => by cases h
          · split
            · exact fun h => by cases h
            · split
              · exact fun h => by cases h
              · split
                · exact fun h => by cases h
                · split
                  · exact signBegin_res _ _
                  · exact fun h => by cases h
theorem takeC_str {t : Txt} (h : f.now = .str t) (c : UInt8) : takeC f c = onStr { f with n := f.n + 1 } (txtTake t c) := by
  have hr := txtTake_res t c
  unfold takeC onStr
  simp only [h, tokTake]
  obtain ⟨r, hr'⟩ : ∃ r, r = (txtTake t c).1 := ⟨_, rfl⟩
  rw [← hr'] at hr ⊢
  cases r with
  | takes => rfl
  | ends => rfl
  | refuses => rfl
  | ahead => exact absurd rfl hr
theorem end_str {t : Txt} (h : f.now = .str t) (he : f.err = 0) : End f = ([], (f.n : Int), 9) := by
  unfold End
  rw [if_neg (by simp [he]), h]
theorem end_word {r : Bytes} (h : f.now = .word r) (he : f.err = 0) : End f = ([], (f.n : Int), 9) := by
  unfold End
  rw [if_neg (by simp [he]), h]
/-- The reader went on from x to y, over p bytes in all. -/
structure Went (s : Bytes) (lim : Lim) (x y : R6.St) (q : Nat) : Prop where
  r : RAt s lim q y
  tk : y.r.taken = q
  out : y.out = x.out
  fr : y.r.frames = x.r.frames
theorem is_cases (h : At s lim p f) (hx : RAt s lim p x) (hfr : x.r.frames = f.stack.length) (hE : End f = ([], (f.n : Int), 9)) (c : Nat) :
    match R6.is s lim x p c with
    | (true, y) => p < s.length ∧ (p : Int) < lim.b ∧ at_ s p = c ∧ y = { x with r := { x.r with taken := p + 1 } } ∧ write f (s.drop p) = write (takeC f (s.getD p 0)) (s.drop (p + 1))
    | (false, y) => (∃ z, y = R6.fault z p 9 ∧ at_ s p ≠ c ∧ z = { x with r := { x.r with taken := p + 1 } } ∧ p < s.length ∧ (p : Int) < lim.b ∧ write f (s.drop p) = write (takeC f (s.getD p 0)) (s.drop (p + 1))) ∨ obs (write f (s.drop p)) = told y.r := by
  unfold R6.is
  cases hw : R6.want s lim x p with
  | mk b y =>
    cases b with
    | false => exact .inr (want_no h hx hfr hE hw)
    | true =>
      obtain ⟨h1, h2, hy, hwr⟩ := want_yes h hx hw
      simp only
      by_cases hc : (at_ s p == c) = true
      · rw [if_pos hc]
        exact ⟨h1, h2, by simpa using hc, hy, hwr⟩
      · rw [if_neg hc]
        exact .inl ⟨y, rfl, by simpa using hc, hy, h1, h2, hwr⟩
theorem word_sim : ∀ (r : Bytes) (p : Nat) (x : R6.St) (f : Feed), r ≠ [] → At s lim p f → RAt s lim p x → x.r.frames = f.stack.length → f.now = .word r →
    match R6.wordN s lim r x p with
    | (none, y) => obs (write f (s.drop p)) = told y.r
    | (some q, y) => p < q ∧ Went s lim x y q ∧ At s lim q { f with n := q } ∧ write f (s.drop p) = write (finish { f with n := q, now := .word [] }) (s.drop q) := by
  intro r
  induction r with
  | nil => intro p x f h; exact absurd rfl h
  | cons b r ih =>
    intro p x f _ h hx hfr hnow
    unfold R6.wordN
    have hi := is_cases h hx hfr (end_word hnow h.err) b.toNat
    cases his : R6.is s lim x p b.toNat with
    | mk o y =>
      rw [his] at hi
      cases o with
      | false =>
        rcases hi with ⟨z, rfl, hne, hz, h1, h2, hwr⟩ | hi
        · simp only
          rw [hwr]
          have hcb : (s.getD p 0 != b) = true := by
            simp only [bne_iff_ne, ne_eq]
            intro e
            exact hne (congrArg UInt8.toNat e)
          have e1 : takeC f (s.getD p 0) = wrong { f with n := f.n + 1, now := .word (b :: r) } (({ f with n := f.n + 1, now := .word (b :: r) } : Feed).n - 1 : Nat) 9 := by
            unfold takeC
            simp only [hnow, tokTake, wordTake, hcb, if_true]
          rw [e1]
          exact fault_sim (e := 9) (p := p) (by decide) (by show f.n + 1 = p + 1; rw [h.n]) (by rw [hz]) (by rw [hz]; exact hx.ended) (by rw [hz]; exact hfr) _
        · exact hi
      | true =>
        obtain ⟨h1, h2, hc, hy, hwr⟩ := hi
        simp only
        rw [hwr]
        have hcb : ¬ (s.getD p 0 != b) = true := by
          simp only [bne_iff_ne, ne_eq, Decidable.not_not]
          exact UInt8.toNat_inj.1 hc
        have hRA : RAt s lim (p + 1) y := by rw [hy]; exact hx.next
        cases r with
        | nil =>
          have e1 : takeC f (s.getD p 0) = finish { f with n := p + 1, now := .word [] } := by
            unfold takeC
            simp only [hnow, tokTake, wordTake, hcb, if_false, Bool.false_eq_true, List.isEmpty_nil, if_true, h.n]
          rw [e1]
          unfold R6.wordN
          exact ⟨Nat.lt_succ_self p, ⟨hRA, by rw [hy], by rw [hy], by rw [hy]⟩, h.on h1 h2 rfl (by rw [h.n]) rfl, rfl⟩
        | cons b2 r2 =>
          have e1 : takeC f (s.getD p 0) = { f with n := p + 1, now := .word (b2 :: r2) } := by
            unfold takeC
            simp only [hnow, tokTake, wordTake, hcb, if_false, Bool.false_eq_true, List.isEmpty_cons, h.n]
          rw [e1]
          have k := ih (p + 1) y { f with n := p + 1, now := .word (b2 :: r2) } (by simp) (h.on h1 h2 rfl (by rw [h.n]) rfl) hRA (by rw [hy]; exact hfr) rfl
          cases hr : R6.wordN s lim (b2 :: r2) y (p + 1) with
          | mk o z =>
            rw [hr] at k
            cases o with
            | none => exact k
            | some q =>
              obtain ⟨k1, k2, k3, k4⟩ := k
              exact ⟨by omega, ⟨k2.r, k2.tk, by rw [k2.out, hy], by rw [k2.fr, hy]⟩, ⟨k3.fl, rfl, k3.ps, k3.pb, k3.err⟩, k4⟩
/-- Digits, one at least, are wanted still. -/
theorem four_sim : ∀ (m n p : Nat) (x : R6.St) (f : Feed) (t : Txt), At s lim p f → RAt s lim p x → x.r.frames = f.stack.length → f.now = .str t → t.mode = 2 → t.count = m + 1 → t.code = n →
    match R6.fourN s lim (m + 1) x p n with
    | (none, y) => obs (write f (s.drop p)) = told y.r
    | (some v, y) => Went s lim x y (p + (m + 1)) ∧ At s lim (p + (m + 1)) { f with n := p + (m + 1) } ∧ write f (s.drop p) = write (onStr { f with n := p + (m + 1) } (fourth t v)) (s.drop (p + (m + 1))) := by
  intro m
  induction m with
  | zero =>
    intro n p x f t h hx hfr hnow hmode hcount hcode
    unfold R6.fourN
    cases hw : R6.want s lim x p with
    | mk b y =>
      cases b with
      | false => exact want_no h hx hfr (end_str hnow h.err) hw
      | true =>
        obtain ⟨h1, h2, hy, hwr⟩ := want_yes h hx hw
        simp only
        rw [hwr, takeC_str hnow]
        have e0 : txtTake t (s.getD p 0) = digitTake t (at_ s p) := by
          unfold txtTake
          rw [if_neg (by simp [hmode]), if_pos (by simp [hmode])]
          rfl
        rw [e0]
        unfold digitTake
        cases hh : R6.hex (at_ s p) with
        | none =>
          simp only
          unfold onStr
          simp only
          exact fault_sim (e := 9) (p := p) (g := { f with n := f.n + 1, now := .str t }) (by decide) (by show f.n + 1 = p + 1; rw [h.n]) (by rw [hy]) (by rw [hy]; exact hx.ended) (by rw [hy]; exact hfr) _
        | some d =>
          simp only
          rw [if_neg (by omega)]
          unfold R6.fourN
          simp only
          rw [hcode, Nat.mul_comm n 16, h.n]
          exact ⟨⟨by rw [hy]; exact hx.next, by rw [hy], by rw [hy], by rw [hy]⟩, h.on h1 h2 rfl (by rw [h.n]) rfl, rfl⟩
  | succ m ih =>
    intro n p x f t h hx hfr hnow hmode hcount hcode
    unfold R6.fourN
    cases hw : R6.want s lim x p with
    | mk b y =>
      cases b with
      | false => exact want_no h hx hfr (end_str hnow h.err) hw
      | true =>
        obtain ⟨h1, h2, hy, hwr⟩ := want_yes h hx hw
        simp only
        rw [hwr, takeC_str hnow]
        have e0 : txtTake t (s.getD p 0) = digitTake t (at_ s p) := by
          unfold txtTake
          rw [if_neg (by simp [hmode]), if_pos (by simp [hmode])]
          rfl
        rw [e0]
        unfold digitTake
        cases hh : R6.hex (at_ s p) with
        | none =>
          simp only
          unfold onStr
          simp only
          exact fault_sim (e := 9) (p := p) (g := { f with n := f.n + 1, now := .str t }) (by decide) (by show f.n + 1 = p + 1; rw [h.n]) (by rw [hy]) (by rw [hy]; exact hx.ended) (by rw [hy]; exact hfr) _
        | some d =>
          simp only
          rw [if_pos (by omega)]
          have e1 : onStr { f with n := f.n + 1 } (.takes, { t with code := t.code * 16 + d, count := t.count - 1 }) = { f with n := p + 1, now := .str { t with code := 16 * n + d, count := m + 1 } } := by
            unfold onStr
            simp only
            rw [hcode, hcount, h.n, Nat.mul_comm n 16]
            rfl
          rw [e1]
          have k := ih (16 * n + d) (p + 1) y { f with n := p + 1, now := .str { t with code := 16 * n + d, count := m + 1 } } { t with code := 16 * n + d, count := m + 1 } (h.on h1 h2 rfl (by rw [h.n]) rfl) (by rw [hy]; exact hx.next) (by rw [hy]; exact hfr) rfl hmode rfl rfl
          rw [show p + (m + 1 + 1) = p + 1 + (m + 1) by omega]
          cases hr : R6.fourN s lim (m + 1) y (p + 1) (16 * n + d) with
          | mk o z =>
            rw [hr] at k
            cases o with
            | none => exact k
            | some v =>
              obtain ⟨k1, k2, k3⟩ := k
              exact ⟨⟨k1.r, k1.tk, by rw [k1.out, hy], by rw [k1.fr, hy]⟩, ⟨k2.fl, rfl, k2.ps, k2.pb, k2.err⟩, k3⟩
/-- A string goes on behind something that was read in it. -/
structure Goes (s : Bytes) (lim : Lim) (x y : R6.St) (p q : Nat) (f : Feed) (o : Bytes) : Prop where
  lt : p < q
  w : Went s lim x y q
  a : At s lim q { f with n := q }
  wr : ∃ t : Txt, t.mode = 0 ∧ t.high = 0 ∧ t.out = o ∧ write f (s.drop p) = write { f with n := q, now := .str t } (s.drop q)
theorem fourth_low {t : Txt} {n : Nat} (h : t.high = 0) (h1 : 56320 ≤ n) (h2 : n ≤ 57343) : fourth t n = (.refuses, { t with code := n, count := 0 }) := by
  unfold fourth
  rw [h, show (decide (56320 ≤ n) && decide (n < 57344)) = true by simp; omega]
  exact if_pos (by decide)
theorem fourth_one {t : Txt} {n : Nat} (h : t.high = 0) (h1 : n < 55296 ∨ 57343 < n) : fourth t n = (.takes, { t with code := n, count := 0, out := t.out ++ R6.sign8 n, mode := 0 }) := by
  unfold fourth
  rw [show (t.high != 0) = false by simp [h], show (decide (56320 ≤ n) && decide (n < 57344)) = false by simp; omega, show (decide (55296 ≤ n) && decide (n < 56320)) = false by simp; omega]
  rfl
theorem fourth_high {t : Txt} {n : Nat} (h : t.high = 0) (h1 : 55296 ≤ n) (h2 : n ≤ 56319) : fourth t n = (.takes, { t with code := n, count := 0, high := n, mode := 3 }) := by
  unfold fourth
  rw [h, show (decide (56320 ≤ n) && decide (n < 57344)) = false by simp; omega, show (decide (55296 ≤ n) && decide (n < 56320)) = true by simp; omega]
  rfl
theorem fourth_bad {t : Txt} {n : Nat} (h : t.high ≠ 0) (h1 : n < 56320 ∨ 57343 < n) : fourth t n = (.refuses, { t with code := n, count := 0 }) := by
  unfold fourth
  rw [show (decide (56320 ≤ n) && decide (n < 57344)) = false by simp; omega, show (t.high != 0) = true by simpa using h]
  rfl
theorem fourth_two {t : Txt} {n : Nat} (h : t.high ≠ 0) (h1 : 56320 ≤ n) (h2 : n ≤ 57343) : fourth t n = (.takes, { t with code := 65536 + (t.high - 55296) * 1024 + n - 56320, count := 0, high := 0, out := t.out ++ R6.sign8 (65536 + (t.high - 55296) * 1024 + n - 56320), mode := 0 }) := by
  unfold fourth
  rw [show (decide (56320 ≤ n) && decide (n < 57344)) = true by simp; omega, show (t.high != 0) = true by simpa using h]
  rfl
theorem second_sim {t : Txt} {n : Nat} (h : At s lim p f) (hx : RAt s lim p x) (hfr : x.r.frames = f.stack.length) (hnow : f.now = .str t) (hmode : t.mode = 3) (hhigh : t.high = n) (hn0 : n ≠ 0) :
    match R6.second s lim x p n with
    | (none, y) => obs (write f (s.drop p)) = told y.r
    | (some (b, q), y) => Goes s lim x y p q f (t.out ++ b) := by
  unfold R6.second
  have hi := is_cases h hx hfr (end_str hnow h.err) 92
  have e0 : txtTake t (s.getD p 0) = (if s.getD p 0 != 92 then .refuses else .takes, { t with mode := 4 }) := by
    unfold txtTake
    rw [if_neg (by simp [hmode]), if_neg (by simp [hmode]), if_pos (by simp [hmode])]
  cases his : R6.is s lim x p 92 with
  | mk o y =>
    rw [his] at hi
    cases o with
    | false =>
      rcases hi with ⟨z, rfl, hne, hz, h1, h2, hwr⟩ | hi
      · simp only
        have hcb : (s.getD p 0 != 92) = true := by
          simp only [bne_iff_ne, ne_eq]
          intro e
          exact hne (by unfold at_; rw [e]; rfl)
        rw [hwr, takeC_str hnow, e0, hcb, if_pos rfl]
        exact fault_sim (e := 9) (p := p) (g := { f with n := f.n + 1, now := .str { t with mode := 4 } }) (by decide) (by show f.n + 1 = p + 1; rw [h.n]) (by rw [hz]) (by rw [hz]; exact hx.ended) (by rw [hz]; exact hfr) _
      · exact hi
    | true =>
      obtain ⟨h1, h2, hc, hy, hwr⟩ := hi
      have hcb : (s.getD p 0 != 92) = false := by
        simp only [bne_eq_false_iff_eq]
        exact UInt8.toNat_inj.1 hc
      obtain ⟨t4, ht4⟩ : ∃ t4 : Txt, t4 = { t with mode := 4 } := ⟨_, rfl⟩
      have hwr : write f (s.drop p) = write { f with n := p + 1, now := .str t4 } (s.drop (p + 1)) := by
        rw [hwr, takeC_str hnow, e0, hcb, ht4, h.n]
        rfl
      rw [hwr]
      have hA : At s lim (p + 1) { f with n := p + 1, now := .str t4 } := h.on h1 h2 rfl (by rw [h.n]) rfl
      have hRA : RAt s lim (p + 1) y := by rw [hy]; exact hx.next
      have hfy : y.r.frames = f.stack.length := by rw [hy]; exact hfr
      have hi2 := is_cases hA hRA hfy (end_str rfl hA.err) 117
      have e1 : txtTake t4 (s.getD (p + 1) 0) = (if s.getD (p + 1) 0 != 117 then .refuses else .takes, { t4 with mode := 2, code := 0, count := 4 }) := by
        unfold txtTake
        have hm4 : t4.mode = 4 := by rw [ht4]
        rw [if_neg (by simp [hm4]), if_neg (by simp [hm4]), if_neg (by simp [hm4]), if_pos (by simp [hm4])]
      simp only
      cases his2 : R6.is s lim y (p + 1) 117 with
      | mk o z =>
        rw [his2] at hi2
        cases o with
        | false =>
          rcases hi2 with ⟨u, rfl, hne, hu, h3, h4, hwr2⟩ | hi2
          · simp only
            have hcb2 : (s.getD (p + 1) 0 != 117) = true := by
              simp only [bne_iff_ne, ne_eq]
              intro e
              exact hne (by unfold at_; rw [e]; rfl)
            rw [hwr2, takeC_str rfl, e1, hcb2, if_pos rfl]
            exact fault_sim (e := 9) (p := p + 1) (g := { f with n := p + 1 + 1, now := .str { t4 with mode := 2, code := 0, count := 4 } }) (by decide) rfl (by rw [hu]) (by rw [hu]; exact hRA.ended) (by rw [hu]; exact hfy) _
          · exact hi2
        | true =>
          obtain ⟨h3, h4, hc2, hz, hwr2⟩ := hi2
          have hcb2 : (s.getD (p + 1) 0 != 117) = false := by
            simp only [bne_eq_false_iff_eq]
            exact UInt8.toNat_inj.1 hc2
          obtain ⟨t5, ht5⟩ : ∃ t5 : Txt, t5 = { t4 with mode := 2, code := 0, count := 4 } := ⟨_, rfl⟩
          have hwr2 : write { f with n := p + 1, now := .str t4 } (s.drop (p + 1)) = write { f with n := p + 2, now := .str t5 } (s.drop (p + 2)) := by
            rw [hwr2, takeC_str rfl, e1, hcb2, ht5]
            rfl
          rw [hwr2]
          have hA2 : At s lim (p + 2) { f with n := p + 2, now := .str t5 } := hA.on h3 h4 rfl rfl rfl
          have hRA2 : RAt s lim (p + 2) z := by rw [hz]; exact hRA.next
          have hfz : z.r.frames = f.stack.length := by rw [hz]; exact hfy
          have k := four_sim (s := s) (lim := lim) 3 0 (p + 2) z { f with n := p + 2, now := .str t5 } t5 hA2 hRA2 hfz rfl (by rw [ht5]) (by rw [ht5]) (by rw [ht5])
          unfold R6.four
          simp only
          cases hr : R6.fourN s lim 4 z (p + 2) 0 with
          | mk o v =>
            rw [hr] at k
            cases o with
            | none => exact k
            | some m =>
              obtain ⟨k1, k2, k3⟩ := k
              simp only at k1 k2 k3 ⊢
              rw [show p + 2 + (3 + 1) = p + 6 by omega] at k1 k2 k3
              have h5 : t5.high = n := by rw [ht5, ht4]; exact hhigh
              have h6 : t5.out = t.out := by rw [ht5, ht4]
              rw [k3]
              have hfv : v.r.frames = f.stack.length := k1.fr.trans hfz
              have hn5 : t5.high ≠ 0 := by rw [h5]; exact hn0
              by_cases hlow : (decide (m < 56320) || decide (57343 < m)) = true
              · rw [if_pos hlow, fourth_bad hn5 (by simpa using hlow)]
                exact fault_sim (e := 9) (p := p + 5) (y := v) (g := { f with n := p + 6, now := .str { t5 with code := m, count := 0 } }) (by decide) rfl k1.tk k1.r.ended hfv _
              · rw [if_neg hlow]
                simp only [Bool.or_eq_true, decide_eq_true_eq] at hlow
                rw [fourth_two hn5 (by omega) (by omega), h5, h6]
                exact ⟨by omega, ⟨k1.r, k1.tk, by rw [k1.out, hz, hy], by rw [k1.fr, hz, hy]⟩, ⟨k2.fl, rfl, k2.ps, k2.pb, k2.err⟩, { t5 with code := 65536 + (n - 55296) * 1024 + m - 56320, count := 0, high := 0, out := t.out ++ R6.sign8 (65536 + (n - 55296) * 1024 + m - 56320), mode := 0 }, rfl, rfl, rfl, hwr.trans (hwr2.trans (k3.trans (by rw [fourth_two hn5 (by omega) (by omega), h5, h6]; rfl)))⟩
theorem escape_sim {t : Txt} (h : At s lim p f) (hx : RAt s lim p x) (hfr : x.r.frames = f.stack.length) (hnow : f.now = .str t) (hmode : t.mode = 1) (hhigh : t.high = 0) :
    match R6.escape s lim x p with
    | (none, y) => obs (write f (s.drop p)) = told y.r
    | (some (b, q), y) => Goes s lim x y p q f (t.out ++ b) := by
  unfold R6.escape
  cases hw : R6.want s lim x p with
  | mk b y =>
    cases b with
    | false => exact want_no h hx hfr (end_str hnow h.err) hw
    | true =>
      obtain ⟨h1, h2, hy, hwr⟩ := want_yes h hx hw
      have hRA : RAt s lim (p + 1) y := by rw [hy]; exact hx.next
      have hA : ∀ g : Tok, At s lim (p + 1) { f with n := p + 1, now := g } := fun g => h.on h1 h2 rfl (by rw [h.n]) rfl
      have hA0 : At s lim (p + 1) { f with n := p + 1 } := h.on h1 h2 rfl (by rw [h.n]) rfl
      have hfy : y.r.frames = f.stack.length := by rw [hy]; exact hfr
      simp only
      have e0 : txtTake t (s.getD p 0) = escaped t (at_ s p) := by
        unfold txtTake
        rw [if_pos (by simp [hmode])]
        rfl
      rw [takeC_str hnow, e0, h.n] at hwr
      unfold escaped at hwr
      cases hl : R6.letter (at_ s p) with
      | some b =>
        rw [hl] at hwr
        have hwr : write f (s.drop p) = write { f with n := p + 1, now := .str { t with mode := 0, out := t.out ++ [b] } } (s.drop (p + 1)) := hwr
        exact ⟨Nat.lt_succ_self p, ⟨hRA, by rw [hy], by rw [hy], by rw [hy]⟩, hA0, { t with mode := 0, out := t.out ++ [b] }, rfl, hhigh, rfl, hwr⟩
      | none =>
        rw [hl] at hwr
        simp only at hwr ⊢
        by_cases hu : at_ s p = 117
        · rw [if_neg (by simp [hu])]
          rw [if_pos (by simp [hu])] at hwr
          have hwr : write f (s.drop p) = write { f with n := p + 1, now := .str { t with mode := 2, code := 0, count := 4 } } (s.drop (p + 1)) := hwr
          have k := four_sim (s := s) (lim := lim) 3 0 (p + 1) y { f with n := p + 1, now := .str { t with mode := 2, code := 0, count := 4 } } { t with mode := 2, code := 0, count := 4 } (hA _) hRA hfy rfl rfl rfl rfl
          unfold R6.four
          rw [hwr]
          cases hr : R6.fourN s lim 4 y (p + 1) 0 with
          | mk o z =>
            rw [hr] at k
            cases o with
            | none => exact k
            | some n =>
              obtain ⟨k1, k2, k3⟩ := k
              simp only at k1 k2 k3 ⊢
              rw [show p + 1 + (3 + 1) = p + 5 by omega] at k1 k2 k3
              have hz := k1.r
              have hfz : z.r.frames = f.stack.length := k1.fr.trans hfy
              have htz : z.r.ended = false := hz.ended
              rw [k3]
              by_cases hlow : (decide (56320 ≤ n) && decide (n ≤ 57343)) = true
              · rw [if_pos hlow]
                simp only [Bool.and_eq_true, decide_eq_true_eq] at hlow
                rw [fourth_low (by exact hhigh) hlow.1 hlow.2]
                exact fault_sim (e := 9) (p := p + 4) (y := z) (g := { f with n := p + 5, now := .str { t with mode := 2, code := n, count := 0 } }) (by decide) rfl k1.tk htz hfz _
              · rw [if_neg hlow]
                simp only [Bool.and_eq_true, decide_eq_true_eq] at hlow
                by_cases hsur : (decide (n < 55296) || decide (56319 < n)) = true
                · rw [if_pos hsur]
                  simp only [Bool.or_eq_true, decide_eq_true_eq] at hsur
                  rw [fourth_one (by exact hhigh) (by omega)]
                  exact ⟨by omega, ⟨hz, k1.tk, k1.out.trans (by rw [hy]), k1.fr.trans (by rw [hy])⟩, ⟨k2.fl, rfl, k2.ps, k2.pb, k2.err⟩, { t with code := n, count := 0, out := t.out ++ R6.sign8 n, mode := 0 }, rfl, hhigh, rfl, hwr.trans (k3.trans (by rw [fourth_one (by exact hhigh) (by omega)]; rfl))⟩
                · rw [if_neg hsur]
                  simp only [Bool.or_eq_true, decide_eq_true_eq] at hsur
                  have hn0 : n ≠ 0 := by omega
                  rw [fourth_high (by exact hhigh) (by omega) (by omega)]
                  obtain ⟨t3, ht3⟩ : ∃ t3 : Txt, t3 = { t with mode := 3, code := n, count := 0, high := n } := ⟨_, rfl⟩
                  have e3 : onStr { f with n := p + 5, now := .str { t with mode := 2, code := 0, count := 4 } } (.takes, { t with mode := 3, code := n, count := 0, high := n }) = { f with n := p + 5, now := .str t3 } := by rw [ht3]; rfl
                  have k4 := second_sim (s := s) (lim := lim) (p := p + 5) (n := n) (x := z) (f := { f with n := p + 5, now := .str t3 }) (t := t3) ⟨k2.fl, rfl, k2.ps, k2.pb, k2.err⟩ hz hfz rfl (by rw [ht3]) (by rw [ht3]) hn0
                  have e4 : t3.out = t.out := by rw [ht3]
                  rw [e3]
                  cases hs2 : R6.second s lim z (p + 5) n with
                  | mk o u =>
                    rw [hs2] at k4
                    cases o with
                    | none => exact k4
                    | some v =>
                      obtain ⟨bb, q⟩ := v
                      obtain ⟨g1, g2, g3, t4, g4, g5, g6, g7⟩ := k4
                      exact ⟨by omega, ⟨g2.r, g2.tk, by rw [g2.out, k1.out, hy], by rw [g2.fr, k1.fr, hy]⟩, ⟨g3.fl, rfl, g3.ps, g3.pb, g3.err⟩, t4, g4, g5, by rw [g6, e4], by rw [hwr, k3, fourth_high (by exact hhigh) (by omega) (by omega), e3]; exact g7⟩
        · rw [if_pos (by simp [hu])]
          rw [if_neg (by simp [hu])] at hwr
          rw [hwr]
          exact fault_sim (e := 9) (p := p) (g := { f with n := p + 1, now := .str { t with mode := 0 } }) (by decide) rfl (by rw [hy]) (by rw [hy]; exact hx.ended) hfy _
end Go.Px.J6

/-! The feed of layer 19 against the reference's reader of layer 16 (plain law): signs of several bytes, strings. No program is named here. -/
namespace Go.Px.J6
open R6 (at_ blank)
variable {s : Bytes} {lim : Lim} {p : Nat} {f : Feed} {x y : R6.St}
/-- Of how many bytes more a sign is that begins so; 0: none begins so. -/
def need (c : Nat) : Nat := if decide (194 ≤ c) && decide (c < 224) then 1 else if decide (224 ≤ c) && decide (c < 240) then 2 else if decide (240 ≤ c) && decide (c < 245) then 3 else 0
def lo (c : Nat) : Nat := if c == 224 then 160 else if c == 240 then 144 else 128
def hi (c : Nat) : Nat := if c == 237 then 159 else if c == 244 then 143 else 191
def go (v : Nat) : Bool := decide (128 ≤ v) && decide (v ≤ 191)
def snd (c v : Nat) : Bool := decide (lo c ≤ v) && decide (v ≤ hi c)
theorem need_le (c : Nat) : need c ≤ 3 := by
  unfold need
  repeat' split
  all_goals omega
theorem snd_go {c v : Nat} (h : snd c v = true) : go v = true := by
  unfold snd lo hi at h
  unfold go
  simp only [Bool.and_eq_true, decide_eq_true_eq] at h ⊢
  obtain ⟨h1, h2⟩ := h
  constructor
  · split at h1
    · omega
    · split at h1 <;> omega
  · split at h2
    · omega
    · split at h2 <;> omega
theorem need0 {c : Nat} (h : c < 194 ∨ 244 < c) : need c = 0 := by
  unfold need
  rw [if_neg (show ¬ (decide (194 ≤ c) && decide (c < 224)) = true by simp; omega), if_neg (show ¬ (decide (224 ≤ c) && decide (c < 240)) = true by simp; omega), if_neg (show ¬ (decide (240 ≤ c) && decide (c < 245)) = true by simp; omega)]
theorem need1 {c : Nat} (h : 194 ≤ c ∧ c ≤ 223) : need c = 1 := by
  unfold need
  rw [if_pos (show (decide (194 ≤ c) && decide (c < 224)) = true by simp; omega)]
theorem need2 {c : Nat} (h : 224 ≤ c ∧ c ≤ 239) : need c = 2 := by
  unfold need
  rw [if_neg (show ¬ (decide (194 ≤ c) && decide (c < 224)) = true by simp; omega), if_pos (show (decide (224 ≤ c) && decide (c < 240)) = true by simp; omega)]
theorem need3 {c : Nat} (h : 240 ≤ c ∧ c ≤ 244) : need c = 3 := by
  unfold need
  rw [if_neg (show ¬ (decide (194 ≤ c) && decide (c < 224)) = true by simp; omega), if_neg (show ¬ (decide (224 ≤ c) && decide (c < 240)) = true by simp; omega), if_pos (show (decide (240 ≤ c) && decide (c < 245)) = true by simp; omega)]
theorem lo_eq (c : Nat) : lo c = if c = 224 then 160 else if c = 240 then 144 else 128 := by
  unfold lo
  simp only [beq_iff_eq]
theorem hi_eq (c : Nat) : hi c = if c = 237 then 159 else if c = 244 then 143 else 191 := by
  unfold hi
  simp only [beq_iff_eq]
theorem lo2 {c : Nat} (h : 224 ≤ c ∧ c ≤ 239) : lo c = if c == 224 then 160 else 128 := by
  rw [lo_eq]
  by_cases e : c = 224
  · rw [if_pos e, if_pos (by simpa using e)]
  · rw [if_neg e, if_neg (show ¬ c = 240 by omega), if_neg (by simpa using e)]
theorem hi2 {c : Nat} (h : 224 ≤ c ∧ c ≤ 239) : hi c = if c == 237 then 159 else 191 := by
  rw [hi_eq]
  by_cases e : c = 237
  · rw [if_pos e, if_pos (by simpa using e)]
  · rw [if_neg e, if_neg (show ¬ c = 244 by omega), if_neg (by simpa using e)]
theorem lo3 {c : Nat} (h : 240 ≤ c ∧ c ≤ 244) : lo c = if c == 240 then 144 else 128 := by
  rw [lo_eq, if_neg (show ¬ c = 224 by omega)]
  simp only [beq_iff_eq]
theorem hi3 {c : Nat} (h : 240 ≤ c ∧ c ≤ 244) : hi c = if c == 244 then 143 else 191 := by
  rw [hi_eq, if_neg (show ¬ c = 237 by omega)]
  simp only [beq_iff_eq]
theorem lo1 {c : Nat} (h : 194 ≤ c ∧ c ≤ 223) : lo c = 128 := by
  rw [lo_eq, if_neg (show ¬ c = 224 by omega), if_neg (show ¬ c = 240 by omega)]
theorem hi1 {c : Nat} (h : 194 ≤ c ∧ c ≤ 223) : hi c = 191 := by
  rw [hi_eq, if_neg (show ¬ c = 237 by omega), if_neg (show ¬ c = 244 by omega)]
/-- The reference's sign, by need. -/
theorem utf_need (b : Bytes) (hb : b ≠ []) (h : 128 ≤ at_ b 0) :
    R6.utf b = if need (at_ b 0) == 0 then 0 else if decide (need (at_ b 0) + 1 ≤ b.length) && snd (at_ b 0) (at_ b 1) && (decide (need (at_ b 0) < 2) || go (at_ b 2)) && (decide (need (at_ b 0) < 3) || go (at_ b 3)) then need (at_ b 0) + 1 else 0 := by
  have hl : ¬ b.length = 0 := fun e => hb (List.length_eq_zero_iff.1 e)
  have h128 : ¬ at_ b 0 < 128 := by omega
  have eu : R6.utf b = if decide (194 ≤ at_ b 0) && decide (at_ b 0 ≤ 223) then (if decide (2 ≤ b.length) && go (at_ b 1) then 2 else 0)
      else if decide (224 ≤ at_ b 0) && decide (at_ b 0 ≤ 239) then (if decide (3 ≤ b.length) && decide ((if at_ b 0 == 224 then 160 else 128) ≤ at_ b 1) && decide (at_ b 1 ≤ (if at_ b 0 == 237 then 159 else 191)) && go (at_ b 2) then 3 else 0)
      else if decide (240 ≤ at_ b 0) && decide (at_ b 0 ≤ 244) then (if decide (4 ≤ b.length) && decide ((if at_ b 0 == 240 then 144 else 128) ≤ at_ b 1) && decide (at_ b 1 ≤ (if at_ b 0 == 244 then 143 else 191)) && go (at_ b 2) && go (at_ b 3) then 4 else 0)
      else 0 := (if_neg hl).trans (if_neg h128)
  rw [eu]
  obtain ⟨c, hc⟩ : ∃ c, c = at_ b 0 := ⟨_, rfl⟩
  rw [← hc] at h ⊢
  clear eu hc h128
  by_cases h1 : 194 ≤ c ∧ c ≤ 223
  · rw [if_pos (show (decide (194 ≤ c) && decide (c ≤ 223)) = true by simp; omega), need1 h1]
    unfold snd go
    rw [lo1 h1, hi1 h1]
    simp
  · rw [if_neg (show ¬ (decide (194 ≤ c) && decide (c ≤ 223)) = true by simp; omega)]
    by_cases h2 : 224 ≤ c ∧ c ≤ 239
    · rw [if_pos (show (decide (224 ≤ c) && decide (c ≤ 239)) = true by simp; omega), need2 h2]
      unfold snd
      rw [lo2 h2, hi2 h2]
      simp [Bool.and_assoc]
    · rw [if_neg (show ¬ (decide (224 ≤ c) && decide (c ≤ 239)) = true by simp; omega)]
      by_cases h3 : 240 ≤ c ∧ c ≤ 244
      · rw [if_pos (show (decide (240 ≤ c) && decide (c ≤ 244)) = true by simp; omega), need3 h3]
        unfold snd
        rw [lo3 h3, hi3 h3]
        simp [Bool.and_assoc]
      · rw [if_neg (show ¬ (decide (240 ≤ c) && decide (c ≤ 244)) = true by simp; omega), need0 (by omega)]
        rfl
theorem at_app {b r : Bytes} {i : Nat} (h : i < b.length) : at_ (b ++ r) i = at_ b i := by
  unfold R6.at_
  simp only [List.getD_eq_getElem?_getD]
  rw [List.getElem?_append_left h]
theorem at_rep {b : Bytes} {k i : Nat} {v : UInt8} (h : b.length ≤ i) (h2 : i < b.length + k) : at_ (b ++ List.replicate k v) i = v.toNat := by
  unfold R6.at_
  simp only [List.getD_eq_getElem?_getD]
  rw [List.getElem?_append_right h, List.getElem?_replicate, if_pos (by omega)]
  rfl
/-- Does a sign begin with these bytes: by need. -/
theorem begins_need (b : Bytes) (hb : b ≠ []) (h4 : b.length ≤ 4) (h : 128 ≤ at_ b 0) :
    R6.begins b = (decide (need (at_ b 0) ≠ 0) && decide (b.length ≤ need (at_ b 0) + 1) && (decide (b.length < 2) || snd (at_ b 0) (at_ b 1)) && (decide (b.length < 3) || go (at_ b 2)) && (decide (b.length < 4) || go (at_ b 3))) := by
  have hl : 1 ≤ b.length := by
    have : b.length ≠ 0 := fun e => hb (List.length_eq_zero_iff.1 e)
    omega
  obtain ⟨c, hc⟩ : ∃ c, c = at_ b 0 := ⟨_, rfl⟩
  have hn3 := need_le c
  have key : R6.begins b = true ↔ (need c ≠ 0 ∧ b.length ≤ need c + 1 ∧ (b.length < 2 ∨ snd c (at_ b 1) = true) ∧ (b.length < 3 ∨ go (at_ b 2) = true) ∧ (b.length < 4 ∨ go (at_ b 3) = true)) := by
    unfold R6.begins
    simp only [List.any_eq_true, List.mem_range, beq_iff_eq]
    constructor
    · rintro ⟨k, hk, v, _, hu⟩
      have e0 : at_ (b ++ List.replicate k v) 0 = c := by rw [at_app (by omega), hc]
      rw [utf_need _ (by simp [hb]) (by rw [e0, hc]; exact h), e0] at hu
      by_cases hz : need c = 0
      · rw [if_pos (by simp [hz])] at hu
        omega
      · rw [if_neg (by simpa using hz)] at hu
        split at hu
        · rename_i hcond
          simp only [Bool.and_eq_true, Bool.or_eq_true, decide_eq_true_eq, List.length_append, List.length_replicate] at hcond
          obtain ⟨⟨⟨q1, q2⟩, q3⟩, q4⟩ := hcond
          refine ⟨hz, by omega, ?_, ?_, ?_⟩
          · by_cases e : b.length < 2
            · exact .inl e
            · rw [at_app (by omega)] at q2; exact .inr q2
          · by_cases e : b.length < 3
            · exact .inl e
            · rw [at_app (by omega)] at q3
              rcases q3 with q3 | q3
              · omega
              · exact .inr q3
          · by_cases e : b.length < 4
            · exact .inl e
            · rw [at_app (by omega)] at q4
              rcases q4 with q4 | q4
              · omega
              · exact .inr q4
        · omega
    · rintro ⟨hz, h1, h2, h3, h5⟩
      have hlo : lo c = 128 ∨ lo c = 144 ∨ lo c = 160 := by
        rw [lo_eq]
        by_cases e1 : c = 224
        · rw [if_pos e1]; exact .inr (.inr rfl)
        · rw [if_neg e1]
          by_cases e2 : c = 240
          · rw [if_pos e2]; exact .inr (.inl rfl)
          · rw [if_neg e2]; exact .inl rfl
      have hlc : snd c (lo c) = true := by
        unfold snd lo hi
        by_cases e1 : c = 224
        · subst e1; decide
        · by_cases e2 : c = 240
          · subst e2; decide
          · rw [if_neg (by simpa using e1), if_neg (by simpa using e2)]
            by_cases e3 : c = 237
            · subst e3; decide
            · by_cases e4 : c = 244
              · subst e4; decide
              · rw [if_neg (by simpa using e3), if_neg (by simpa using e4)]; decide
      have hgo : go (lo c) = true := snd_go hlc
      refine ⟨need c + 1 - b.length, by omega, UInt8.ofNat (lo c), ?_, ?_⟩
      · rcases hlo with e | e | e <;> rw [e] <;> decide
      · have hv : (UInt8.ofNat (lo c)).toNat = lo c := by rcases hlo with e | e | e <;> rw [e] <;> rfl
        have e0 : at_ (b ++ List.replicate (need c + 1 - b.length) (UInt8.ofNat (lo c))) 0 = c := by rw [at_app (by omega), hc]
        rw [utf_need _ (by simp [hb]) (by rw [e0, hc]; exact h), e0, if_neg (by simpa using hz), if_pos]
        · omega
        · simp only [Bool.and_eq_true, Bool.or_eq_true, decide_eq_true_eq, List.length_append, List.length_replicate]
          refine ⟨⟨⟨by omega, ?_⟩, ?_⟩, ?_⟩
          · by_cases e : b.length < 2
            · rw [at_rep (by omega) (by omega), hv]; exact hlc
            · rw [at_app (by omega)]; rcases h2 with h2 | h2; · omega
              · exact h2
          · by_cases e2 : need c < 2
            · exact .inl e2
            · right
              by_cases e : b.length < 3
              · rw [at_rep (by omega) (by omega), hv]; exact hgo
              · rw [at_app (by omega)]; rcases h3 with h3 | h3; · omega
                · exact h3
          · by_cases e2 : need c < 3
            · exact .inl e2
            · right
              by_cases e : b.length < 4
              · rw [at_rep (by omega) (by omega), hv]; exact hgo
              · rw [at_app (by omega)]; rcases h5 with h5 | h5; · omega
                · exact h5
  rw [← hc]
  rw [Bool.eq_iff_iff, key]
  simp only [Bool.and_eq_true, Bool.or_eq_true, decide_eq_true_eq, and_assoc]
/-! A sign of several bytes -/
theorem part_at {p q i : Nat} (h1 : p + i < q) (_h2 : q ≤ s.length) : at_ ((s.take q).drop p) i = at_ s (p + i) := by
  unfold R6.at_
  simp only [List.getD_eq_getElem?_getD, List.getElem?_drop, List.getElem?_take]
  rw [if_pos h1]
theorem part_len {p q : Nat} (h : q ≤ s.length) : ((s.take q).drop p).length = q - p := by
  rw [List.length_drop, List.length_take, Nat.min_eq_left h]
theorem part_snoc {p q : Nat} (h1 : p ≤ q) (h2 : q < s.length) : (s.take (q + 1)).drop p = (s.take q).drop p ++ [s.getD q 0] := by
  have e : s.take (q + 1) = s.take q ++ [s[q]] := (List.take_append_getElem h2).symm
  rw [e, List.drop_append_of_le_length (by rw [List.length_take]; omega)]
  congr 1
  simp [h2]
/-- The bytes of a sign from its second on: those that are there are right. -/
def Right (s : Bytes) (p q : Nat) : Prop := (p + 1 < q → snd (at_ s p) (at_ s (p + 1)) = true) ∧ (p + 2 < q → go (at_ s (p + 2)) = true) ∧ (p + 3 < q → go (at_ s (p + 3)) = true)
/-- Is the byte at q right behind those from p on? -/
def rightB (s : Bytes) (p q : Nat) : Bool := if q = p + 1 then snd (at_ s p) (at_ s q) else go (at_ s q)
theorem Right.succ {p q : Nat} (h : Right s p q) (hq : p < q) (h4 : q ≤ p + 3) (hb : rightB s p q = true) : Right s p (q + 1) := by
  unfold rightB at hb
  have h3 : q = p + 1 ∨ q = p + 2 ∨ q = p + 3 := by omega
  rcases h3 with e | e | e <;> subst e
  · rw [if_pos rfl] at hb
    exact ⟨fun _ => hb, fun w => by omega, fun w => by omega⟩
  · rw [if_neg (by omega)] at hb
    exact ⟨fun _ => h.1 (by omega), fun _ => hb, fun w => by omega⟩
  · rw [if_neg (by omega)] at hb
    exact ⟨fun _ => h.1 (by omega), fun _ => h.2.1 (by omega), fun _ => hb⟩
/-- What the reference says of the bytes from p up to q, q with them. -/
theorem sign_step {p q : Nat} (h : 128 ≤ at_ s p) (hn : need (at_ s p) ≠ 0) (hr : Right s p q) (hq : p < q) (hqn : q ≤ p + need (at_ s p)) (hl : q < s.length) :
    (R6.utf ((s.take (q + 1)).drop p) == ((s.take (q + 1)).drop p).length) = (rightB s p q && q == p + need (at_ s p)) ∧
    R6.begins ((s.take (q + 1)).drop p) = rightB s p q := by
  have hn3 := need_le (at_ s p)
  have hlen : ((s.take (q + 1)).drop p).length = q + 1 - p := part_len (by omega)
  have hne : (s.take (q + 1)).drop p ≠ [] := by intro e; rw [e] at hlen; simp at hlen; omega
  have e0 : at_ ((s.take (q + 1)).drop p) 0 = at_ s p := by have := part_at (s := s) (p := p) (q := q + 1) (i := 0) (by omega) (by omega); rw [this]; rfl
  have e1 : at_ ((s.take (q + 1)).drop p) 1 = at_ s (p + 1) := part_at (by omega) (by omega)
  have h3 : q = p + 1 ∨ q = p + 2 ∨ q = p + 3 := by omega
  constructor
  · rw [utf_need _ hne (by rw [e0]; exact h), e0, e1, if_neg (by simpa using hn), hlen]
    by_cases he : q = p + need (at_ s p)
    · have hd : decide (need (at_ s p) + 1 ≤ q + 1 - p) = true := by simp; omega
      rw [hd, Bool.true_and]
      have hqq : (q == p + need (at_ s p)) = true := by simpa using he
      rw [hqq, Bool.and_true]
      have hw : (snd (at_ s p) (at_ s (p + 1)) && (decide (need (at_ s p) < 2) || go (at_ ((s.take (q + 1)).drop p) 2)) && (decide (need (at_ s p) < 3) || go (at_ ((s.take (q + 1)).drop p) 3))) = rightB s p q := by
        unfold rightB
        rcases h3 with e | e | e
        · rw [if_pos e, show decide (need (at_ s p) < 2) = true by simp; omega, show decide (need (at_ s p) < 3) = true by simp; omega, e]
          simp
        · rw [if_neg (by omega), show decide (need (at_ s p) < 2) = false by simp; omega, show decide (need (at_ s p) < 3) = true by simp; omega, hr.1 (by omega), part_at (by omega) (by omega), e]
          simp
        · rw [if_neg (by omega), show decide (need (at_ s p) < 2) = false by simp; omega, show decide (need (at_ s p) < 3) = false by simp; omega, hr.1 (by omega), part_at (by omega) (by omega), part_at (by omega) (by omega), hr.2.1 (by omega), e]
          simp
      rw [hw]
      cases rightB s p q
      · rw [if_neg (by decide)]; simp; omega
      · rw [if_pos rfl]; simp; omega
    · have hd : decide (need (at_ s p) + 1 ≤ q + 1 - p) = false := by simp; omega
      have hqq : (q == p + need (at_ s p)) = false := by simpa using he
      rw [hd, hqq, Bool.and_false, Bool.false_and, Bool.false_and, Bool.false_and, if_neg (by decide)]
      simp; omega
  · rw [begins_need _ hne (by rw [hlen]; omega) (by rw [e0]; exact h), e0, e1, hlen]
    have d0 : decide (need (at_ s p) ≠ 0) = true := by simpa using hn
    have d1 : decide (q + 1 - p ≤ need (at_ s p) + 1) = true := by simp; omega
    have d2 : decide (q + 1 - p < 2) = false := by simp; omega
    rw [d0, d1, d2]
    unfold rightB
    rcases h3 with e | e | e
    · rw [if_pos e, show decide (q + 1 - p < 3) = true by simp; omega, show decide (q + 1 - p < 4) = true by simp; omega, e]
      simp
    · rw [if_neg (by omega), show decide (q + 1 - p < 3) = false by simp; omega, show decide (q + 1 - p < 4) = true by simp; omega, hr.1 (by omega), part_at (by omega) (by omega), e]
      simp
    · rw [if_neg (by omega), show decide (q + 1 - p < 3) = false by simp; omega, show decide (q + 1 - p < 4) = false by simp; omega, hr.1 (by omega), part_at (by omega) (by omega), part_at (by omega) (by omega), hr.2.1 (by omega), e]
      simp
theorem sign_loop (hp : 128 ≤ at_ s p) (hn : need (at_ s p) ≠ 0) : ∀ (m q : Nat) (x : R6.St) (f : Feed) (t : Txt), s.length + 1 ≤ m + q → At s lim q f → RAt s lim q x → x.r.frames = f.stack.length → f.now = .str t →
    p < q → q ≤ p + need (at_ s p) → Right s p q → t.mode = 5 → t.high = 0 → t.count = p + need (at_ s p) + 1 - q → t.least.toNat = (if q = p + 1 then lo (at_ s p) else 128) → t.most.toNat = (if q = p + 1 then hi (at_ s p) else 191) →
    match R6.signN s lim p m x q with
    | (none, y) => obs (write f (s.drop q)) = told y.r
    | (some r, y) => Goes s lim x y q r f (t.out ++ (s.take r).drop q) ∧ r ≤ s.length := by
  intro m
  induction m with
  | zero => intro q x f t hm h; have := h.ps; omega
  | succ m ih =>
    intro q x f t hm h hx hfr hnow hpq hqn hr hmode hhigh hcount hleast hmost
    unfold R6.signN
    cases hw : R6.want s lim x q with
    | mk b y =>
      cases b with
      | false => exact want_no h hx hfr (end_str hnow h.err) hw
      | true =>
        obtain ⟨h1, h2, hy, hwr⟩ := want_yes h hx hw
        obtain ⟨k1, k2⟩ := sign_step hp hn hr hpq hqn h1
        simp only
        rw [k1, k2]
        have hRA : RAt s lim (q + 1) y := by rw [hy]; exact hx.next
        have hfy : y.r.frames = f.stack.length := by rw [hy]; exact hfr
        have hA : ∀ g : Tok, At s lim (q + 1) { f with n := q + 1, now := g } := fun g => h.on h1 h2 rfl (by rw [h.n]) rfl
        have hA0 : At s lim (q + 1) { f with n := q + 1 } := h.on h1 h2 rfl (by rw [h.n]) rfl
        have hin : rightB s p q = !(decide (s.getD q 0 < t.least) || decide (t.most < s.getD q 0)) := by
          have e1 : decide (s.getD q 0 < t.least) = decide (at_ s q < t.least.toNat) := rfl
          have e2 : decide (t.most < s.getD q 0) = decide (t.most.toNat < at_ s q) := rfl
          rw [e1, e2, hleast, hmost]
          unfold rightB
          by_cases e : q = p + 1
          · rw [if_pos e, if_pos e, if_pos e]
            unfold snd
            rw [Bool.not_or, ← decide_not, ← decide_not]
            congr 1 <;> simp
          · rw [if_neg e, if_neg e, if_neg e]
            unfold go
            rw [Bool.not_or, ← decide_not, ← decide_not]
            congr 1 <;> simp
        have e0 : txtTake t (s.getD q 0) = if decide (s.getD q 0 < t.least) || decide (t.most < s.getD q 0) then (.refuses, t) else (.takes, { t with out := t.out ++ [s.getD q 0], least := 128, most := 191, count := t.count - 1, mode := if t.count - 1 == 0 then 0 else 5 }) := by
          unfold txtTake
          rw [if_neg (by simp [hmode]), if_neg (by simp [hmode]), if_neg (by simp [hmode]), if_neg (by simp [hmode]), if_pos (by simp [hmode])]
        rw [takeC_str hnow, e0, h.n] at hwr
        cases hrb : rightB s p q with
        | false =>
          rw [hrb] at hin
          have hin' : (decide (s.getD q 0 < t.least) || decide (t.most < s.getD q 0)) = true := by
            cases hz : (decide (s.getD q 0 < t.least) || decide (t.most < s.getD q 0))
            · rw [hz] at hin; cases hin
            · rfl
          rw [if_pos hin'] at hwr
          rw [Bool.false_and, if_neg (by decide), Bool.not_false, if_pos rfl]
          simp only
          rw [hwr]
          exact fault_sim (p := q) (g := { f with n := q + 1, now := .str t }) (by decide) rfl (by rw [hy]) (by rw [hy]; exact hx.ended) hfy _
        | true =>
          rw [hrb] at hin
          have hin' : (decide (s.getD q 0 < t.least) || decide (t.most < s.getD q 0)) = false := by
            cases hz : (decide (s.getD q 0 < t.least) || decide (t.most < s.getD q 0))
            · rfl
            · rw [hz] at hin; cases hin
          rw [hin', if_neg (by decide)] at hwr
          obtain ⟨t2, ht2⟩ : ∃ t2 : Txt, t2 = { t with out := t.out ++ [s.getD q 0], least := 128, most := 191, count := t.count - 1, mode := if t.count - 1 == 0 then 0 else 5 } := ⟨_, rfl⟩
          rw [← ht2] at hwr
          have hwr : write f (s.drop q) = write { f with n := q + 1, now := .str t2 } (s.drop (q + 1)) := hwr
          rw [Bool.true_and]
          have hout : t2.out = t.out ++ (s.take (q + 1)).drop q := by
            rw [ht2, part_snoc (Nat.le_refl q) h1, E5.drop_take_self, List.nil_append]
          by_cases he : q = p + need (at_ s p)
          · rw [if_pos (by simpa using he)]
            have hc1 : t.count - 1 = 0 := by omega
            exact ⟨⟨Nat.lt_succ_self q, ⟨hRA, by rw [hy], by rw [hy], by rw [hy]⟩, hA0, t2, by rw [ht2]; simp [hc1], by rw [ht2]; exact hhigh, hout, hwr⟩, h1⟩
          · rw [if_neg (by simpa using he), Bool.not_true, if_neg (by decide)]
            have hc1 : ¬ t.count - 1 = 0 := by omega
            have k := ih (q + 1) y { f with n := q + 1, now := .str t2 } t2 (by omega) (hA _) hRA hfy rfl (by omega) (by omega) (hr.succ hpq (by have := need_le (at_ s p); omega) hrb) (by rw [ht2]; simp [hc1]) (by rw [ht2]; exact hhigh) (by rw [ht2]; show t.count - 1 = _; omega) (by rw [ht2, if_neg (show ¬ q + 1 = p + 1 by omega)]; rfl) (by rw [ht2, if_neg (show ¬ q + 1 = p + 1 by omega)]; rfl)
            rw [hwr]
            cases hs : R6.signN s lim p m y (q + 1) with
            | mk o z =>
              rw [hs] at k
              cases o with
              | none => exact k
              | some r =>
                obtain ⟨⟨g1, g2, g3, t3, g4, g5, g6, g7⟩, g8⟩ := k
                refine ⟨⟨by omega, ⟨g2.r, g2.tk, by rw [g2.out, hy], by rw [g2.fr, hy]⟩, ⟨g3.fl, rfl, g3.ps, g3.pb, g3.err⟩, t3, g4, g5, ?_, hwr.trans g7⟩, g8⟩
                rw [g6, hout, List.append_assoc]
                congr 1
                exact (E5.take_split (Nat.le_succ q) (by omega)).symm
/-- A sign of several bytes, its first byte looked at. -/
theorem sign_sim {t : Txt} (h : At s lim p f) (hx : RAt s lim p x) (hfr : x.r.frames = f.stack.length) (hhigh : t.high = 0) (h1 : p < s.length) (h2 : (p : Int) < lim.b) (htk : x.r.taken = p + 1) (hc : 128 ≤ at_ s p)
    (hwr : write f (s.drop p) = write (onStr { f with n := p + 1 } (signBegin t (at_ s p))) (s.drop (p + 1))) :
    match R6.sign s lim x p with
    | (none, y) => obs (write f (s.drop p)) = told y.r
    | (some q, y) => Goes s lim x y p q f (t.out ++ (s.take q).drop p) ∧ q ≤ s.length := by
  unfold R6.sign
  obtain ⟨m, hm⟩ : ∃ m, s.length + 1 - p = m + 1 := ⟨s.length - p, by omega⟩
  rw [hm]
  unfold R6.signN
  have hw : R6.want s lim x p = (true, x) := by
    rcases want_cases s lim x p with ⟨_, _, e⟩ | ⟨c1, _, _⟩ | ⟨c1, _, _⟩
    · rw [e]
      unfold R5.take
      rw [Nat.max_eq_left (by omega)]
    · exact absurd ⟨h1, h2⟩ c1
    · exact absurd ⟨h1, h2⟩ c1
  rw [hw]
  simp only
  have hb : (s.take (p + 1)).drop p = [s.getD p 0] := by rw [part_snoc (Nat.le_refl p) h1, E5.drop_take_self, List.nil_append]
  have hb0 : at_ [s.getD p 0] 0 = at_ s p := rfl
  rw [hb, utf_need _ (by simp) (by rw [hb0]; exact hc), begins_need _ (by simp) (by simp) (by rw [hb0]; exact hc), hb0]
  unfold signBegin at hwr
  have hnd : (if decide (194 ≤ at_ s p) && decide (at_ s p < 224) then 1 else if decide (224 ≤ at_ s p) && decide (at_ s p < 240) then 2 else if decide (240 ≤ at_ s p) && decide (at_ s p < 245) then 3 else 0) = need (at_ s p) := rfl
  simp only at hwr
  rw [hnd] at hwr
  by_cases hn : need (at_ s p) = 0
  · rw [hn] at hwr ⊢
    rw [if_pos (by decide)] at hwr
    rw [if_neg (show ¬ ((if ((0 : Nat) == 0) = true then 0 else _) == [s.getD p 0].length) = true from fun w => Bool.noConfusion w), if_pos (show (!(decide ((0 : Nat) ≠ 0) && _ && _ && _ && _)) = true from rfl)]
    simp only
    rw [hwr]
    exact fault_sim (e := 9) (p := p) (g := { f with n := p + 1, now := .str { t with mode := 5, least := 128, most := 191 } }) (by decide) rfl htk hx.ended hfr _
  · rw [if_neg (by simpa using hn)] at hwr
    have hn3 := need_le (at_ s p)
    have e1 : ((if (need (at_ s p) == 0) = true then 0 else if (decide (need (at_ s p) + 1 ≤ [s.getD p 0].length) && snd (at_ s p) (at_ [s.getD p 0] 1) && (decide (need (at_ s p) < 2) || go (at_ [s.getD p 0] 2)) && (decide (need (at_ s p) < 3) || go (at_ [s.getD p 0] 3))) = true then need (at_ s p) + 1 else 0) == [s.getD p 0].length) = false := by
      rw [if_neg (by simpa using hn), if_neg]
      · rfl
      · have : decide (need (at_ s p) + 1 ≤ [s.getD p 0].length) = false := by simp; omega
        rw [this]
        simp
    rw [e1, if_neg (by decide)]
    have e2 : (decide (need (at_ s p) ≠ 0) && decide ([s.getD p 0].length ≤ need (at_ s p) + 1) && (decide ([s.getD p 0].length < 2) || snd (at_ s p) (at_ [s.getD p 0] 1)) && (decide ([s.getD p 0].length < 3) || go (at_ [s.getD p 0] 2)) && (decide ([s.getD p 0].length < 4) || go (at_ [s.getD p 0] 3))) = true := by
      have : decide (need (at_ s p) ≠ 0) = true := by simpa using hn
      rw [this]
      simp
    rw [e2, Bool.not_true, if_neg (by decide)]
    obtain ⟨t2, ht2⟩ : ∃ t2 : Txt, t2 = { t with mode := 5, count := need (at_ s p), least := (if at_ s p == 224 then 160 else if at_ s p == 240 then 144 else 128), most := (if at_ s p == 237 then 159 else if at_ s p == 244 then 143 else 191), out := t.out ++ [UInt8.ofNat (at_ s p)] } := ⟨_, rfl⟩
    have hwr : write f (s.drop p) = write { f with n := p + 1, now := .str t2 } (s.drop (p + 1)) := by rw [hwr, ht2]; rfl
    have hA : At s lim (p + 1) { f with n := p + 1, now := .str t2 } := h.on h1 h2 rfl (by rw [h.n]) rfl
    have hRA : RAt s lim (p + 1) x := ⟨by omega, by omega, fun e => by omega, hx.err, hx.place, hx.ended⟩
    have hl1 : t2.least.toNat = lo (at_ s p) := by
      rw [ht2]
      show (if (at_ s p == 224) = true then (160 : UInt8) else if (at_ s p == 240) = true then 144 else 128).toNat = lo (at_ s p)
      unfold lo
      cases at_ s p == 224
      · cases at_ s p == 240 <;> rfl
      · rfl
    have hl2 : t2.most.toNat = hi (at_ s p) := by
      rw [ht2]
      show (if (at_ s p == 237) = true then (159 : UInt8) else if (at_ s p == 244) = true then 143 else 191).toNat = hi (at_ s p)
      unfold hi
      cases at_ s p == 237
      · cases at_ s p == 244 <;> rfl
      · rfl
    have hb3 : UInt8.ofNat (at_ s p) = s.getD p 0 := UInt8.toNat_inj.1 (by unfold R6.at_; simp)
    have k := sign_loop (s := s) (lim := lim) hc hn m (p + 1) x { f with n := p + 1, now := .str t2 } t2 (by omega) hA hRA hfr rfl (by omega) (by omega) ⟨fun w => by omega, fun w => by omega, fun w => by omega⟩ (by rw [ht2]) (by rw [ht2]; exact hhigh) (by rw [ht2]; show need (at_ s p) = _; omega) (by rw [if_pos rfl]; exact hl1) (by rw [if_pos rfl]; exact hl2)
    rw [hwr]
    cases hs : R6.signN s lim p m x (p + 1) with
    | mk o z =>
      rw [hs] at k
      cases o with
      | none => exact k
      | some r =>
        obtain ⟨⟨g1, g2, g3, t3, g4, g5, g6, g7⟩, g8⟩ := k
        refine ⟨⟨by omega, g2, ⟨g3.fl, rfl, g3.ps, g3.pb, g3.err⟩, t3, g4, g5, ?_, hwr.trans g7⟩, g8⟩
        rw [g6, ht2, E5.take_split (show p ≤ p + 1 by omega) (show p + 1 ≤ r by omega), hb, hb3, List.append_assoc]
/-! Strings -/
theorem text_sim : ∀ (m p : Nat) (x : R6.St) (f : Feed) (t : Txt), s.length + 1 ≤ m + p → At s lim p f → RAt s lim p x → x.r.frames = f.stack.length → f.now = .str t → t.mode = 0 → t.high = 0 →
    match R6.textN s lim m x p t.out with
    | (none, y) => obs (write f (s.drop p)) = told y.r
    | (some (b, q), y) => p < q ∧ Went s lim x y q ∧ At s lim q { f with n := q } ∧ ∃ t' : Txt, t'.out = b ∧ write f (s.drop p) = write (finish { f with n := q, now := .str t' }) (s.drop q) := by
  intro m
  induction m with
  | zero => intro p x f t hm h; have := h.ps; omega
  | succ m ih =>
    intro p x f t hm h hx hfr hnow hmode hhigh
    unfold R6.textN
    cases hw : R6.want s lim x p with
    | mk b y =>
      cases b with
      | false => exact want_no h hx hfr (end_str hnow h.err) hw
      | true =>
        obtain ⟨h1, h2, hy, hwr⟩ := want_yes h hx hw
        have hRA : RAt s lim (p + 1) y := by rw [hy]; exact hx.next
        have hfy : y.r.frames = f.stack.length := by rw [hy]; exact hfr
        have hA : ∀ g : Tok, At s lim (p + 1) { f with n := p + 1, now := g } := fun g => h.on h1 h2 rfl (by rw [h.n]) rfl
        have hA0 : At s lim (p + 1) { f with n := p + 1 } := h.on h1 h2 rfl (by rw [h.n]) rfl
        rw [takeC_str hnow, h.n] at hwr
        have e0 : txtTake t (s.getD p 0) = if s.getD p 0 == 34 then (.ends, t) else if s.getD p 0 < 32 then (.refuses, t) else if s.getD p 0 == 92 then (.takes, { t with mode := 1 }) else if 128 ≤ s.getD p 0 then signBegin t (at_ s p) else (.takes, { t with out := t.out ++ [s.getD p 0] }) := by
          unfold txtTake
          rw [if_neg (by simp [hmode]), if_neg (by simp [hmode]), if_neg (by simp [hmode]), if_neg (by simp [hmode]), if_neg (by simp [hmode])]
          rfl
        rw [e0] at hwr
        simp only
        by_cases c1 : at_ s p = 34
        · rw [if_pos (by simpa using c1)]
          have c1' : s.getD p 0 = 34 := UInt8.toNat_inj.1 c1
          rw [if_pos (by rw [c1']; decide)] at hwr
          exact ⟨Nat.lt_succ_self p, ⟨hRA, by rw [hy], by rw [hy], by rw [hy]⟩, hA0, t, rfl, hwr⟩
        · have c1' : ¬ (s.getD p 0 == 34) = true := by
            rw [beq_iff_eq]
            intro e
            exact c1 (by unfold R6.at_; rw [e]; rfl)
          rw [if_neg (by simpa using c1)]
          rw [if_neg c1'] at hwr
          by_cases c2 : at_ s p < 32
          · rw [if_pos c2]
            rw [if_pos (show s.getD p 0 < 32 from c2)] at hwr
            simp only
            rw [hwr]
            exact fault_sim (e := 9) (p := p) (g := { f with n := p + 1, now := .str t }) (by decide) rfl (by rw [hy]) (by rw [hy]; exact hx.ended) hfy _
          · rw [if_neg c2]
            rw [if_neg (show ¬ s.getD p 0 < 32 from c2)] at hwr
            by_cases c3 : at_ s p = 92
            · rw [if_pos (by simpa using c3)]
              have c3' : s.getD p 0 = 92 := UInt8.toNat_inj.1 c3
              rw [if_pos (by rw [c3']; decide)] at hwr
              have hwr : write f (s.drop p) = write { f with n := p + 1, now := .str { t with mode := 1 } } (s.drop (p + 1)) := hwr
              have k := escape_sim (s := s) (lim := lim) (p := p + 1) (x := y) (f := { f with n := p + 1, now := .str { t with mode := 1 } }) (t := { t with mode := 1 }) (hA _) hRA hfy rfl rfl hhigh
              rw [hwr]
              cases hs : R6.escape s lim y (p + 1) with
              | mk o z =>
                rw [hs] at k
                cases o with
                | none => exact k
                | some v =>
                  obtain ⟨b, q⟩ := v
                  obtain ⟨g1, g2, g3, t3, g4, g5, g6, g7⟩ := k
                  have k2 := ih q z { f with n := q, now := .str t3 } t3 (by omega) ⟨g3.fl, rfl, g3.ps, g3.pb, g3.err⟩ g2.r (g2.fr.trans hfy) rfl g4 g5
                  rw [g6] at k2
                  have g7 : write { f with n := p + 1, now := .str { t with mode := 1 } } (s.drop (p + 1)) = write { f with n := q, now := .str t3 } (s.drop q) := g7
                  simp only at k2 ⊢
                  rw [g7]
                  cases hs2 : R6.textN s lim m z q (t.out ++ b) with
                  | mk o u =>
                    rw [hs2] at k2
                    cases o with
                    | none => exact k2
                    | some v =>
                      obtain ⟨b2, q2⟩ := v
                      obtain ⟨i1, i2, i3, t4, i4, i5⟩ := k2
                      exact ⟨by omega, ⟨i2.r, i2.tk, by rw [i2.out, g2.out, hy], by rw [i2.fr, g2.fr, hy]⟩, ⟨i3.fl, rfl, i3.ps, i3.pb, i3.err⟩, t4, i4, i5⟩
            · have c3' : ¬ (s.getD p 0 == 92) = true := by
                rw [beq_iff_eq]
                intro e
                exact c3 (by unfold R6.at_; rw [e]; rfl)
              rw [if_neg (by simpa using c3)]
              rw [if_neg c3'] at hwr
              by_cases c4 : 128 ≤ at_ s p
              · rw [if_pos c4]
                rw [if_pos (show 128 ≤ s.getD p 0 from c4)] at hwr
                have k := sign_sim (s := s) (lim := lim) (p := p) (x := y) (f := f) (t := t) h (by rw [hy]; exact hx.peek h1 h2) hfy hhigh h1 h2 (by rw [hy]) c4 hwr
                cases hs : R6.sign s lim y p with
                | mk o z =>
                  rw [hs] at k
                  cases o with
                  | none => exact k
                  | some q =>
                    obtain ⟨⟨g1, g2, g3, t3, g4, g5, g6, g7⟩, _⟩ := k
                    have k2 := ih q z { f with n := q, now := .str t3 } t3 (by omega) ⟨g3.fl, rfl, g3.ps, g3.pb, g3.err⟩ g2.r (g2.fr.trans hfy) rfl g4 g5
                    rw [g6] at k2
                    simp only at k2 ⊢
                    rw [g7]
                    cases hs2 : R6.textN s lim m z q (t.out ++ (s.take q).drop p) with
                    | mk o u =>
                      rw [hs2] at k2
                      cases o with
                      | none => exact k2
                      | some v =>
                        obtain ⟨b2, q2⟩ := v
                        obtain ⟨i1, i2, i3, t4, i4, i5⟩ := k2
                        exact ⟨by omega, ⟨i2.r, i2.tk, by rw [i2.out, g2.out, hy], by rw [i2.fr, g2.fr, hy]⟩, ⟨i3.fl, rfl, i3.ps, i3.pb, i3.err⟩, t4, i4, i5⟩
              · rw [if_neg c4]
                rw [if_neg (show ¬ 128 ≤ s.getD p 0 from c4)] at hwr
                have hwr : write f (s.drop p) = write { f with n := p + 1, now := .str { t with out := t.out ++ [s.getD p 0] } } (s.drop (p + 1)) := hwr
                have k2 := ih (p + 1) y { f with n := p + 1, now := .str { t with out := t.out ++ [s.getD p 0] } } { t with out := t.out ++ [s.getD p 0] } (by omega) (hA _) hRA hfy rfl hmode hhigh
                rw [hwr]
                simp only at k2 ⊢
                cases hs2 : R6.textN s lim m y (p + 1) (t.out ++ [s.getD p 0]) with
                | mk o u =>
                  rw [hs2] at k2
                  cases o with
                  | none => exact k2
                  | some v =>
                    obtain ⟨b2, q2⟩ := v
                    obtain ⟨i1, i2, i3, t4, i4, i5⟩ := k2
                    exact ⟨by omega, ⟨i2.r, i2.tk, by rw [i2.out, hy], by rw [i2.fr, hy]⟩, ⟨i3.fl, rfl, i3.ps, i3.pb, i3.err⟩, t4, i4, i5⟩
end Go.Px.J6

/-! The feed of layer 19 against the reference's reader of layer 16 (plain law): numbers. No program is named here. -/
namespace Go.Px.J6
open R6 (at_ blank numNext numEnd setText)
variable {s : Bytes} {lim : Lim} {p : Nat} {f : Feed} {x y : R6.St}
/-- What may be read. -/
def upTo (s : Bytes) (lim : Lim) : Nat := min s.length lim.b.toNat
theorem takeC_num {q : Nat} {t : Bytes} (h : f.now = .num q t) (c : UInt8) : takeC f c = match numNext q c.toNat with
    | some k => { f with n := f.n + 1, now := .num k (t ++ [c]) }
    | none => if numEnd q then structure_ (finish { f with n := f.n + 1, now := .num q t }) c else wrong { f with n := f.n + 1, now := .num q t } (f.n : Nat) 9 := by
  unfold takeC
  simp only [h, tokTake, numTake]
  cases numNext q c.toNat with
  | some k => rfl
  | none =>
    simp only
    by_cases he : numEnd q = true
    · rw [if_pos he, if_pos he]
    · rw [if_neg he, if_neg he]
      rfl
theorem num_sim (hb : 0 ≤ lim.b) : ∀ (k p q : Nat) (f : Feed) (t : Bytes), upTo s lim = p + k → At s lim p f → f.now = .num q t →
    ∃ q' r, r = p + (R6.numN q ((s.take (upTo s lim)).drop p)).1 ∧ numEnd q' = (R6.numN q ((s.take (upTo s lim)).drop p)).2 ∧ r ≤ upTo s lim ∧ (r < upTo s lim → numNext q' (at_ s r) = none) ∧
      At s lim r { f with n := r } ∧ write f (s.drop p) = write { f with n := r, now := .num q' (t ++ (s.take r).drop p) } (s.drop r) := by
  intro k
  induction k with
  | zero =>
    intro p q f t hk h hnow
    have e0 : (s.take (upTo s lim)).drop p = [] := List.drop_eq_nil_of_le (by rw [List.length_take]; omega)
    rw [e0]
    refine ⟨q, p, rfl, rfl, by omega, fun w => by omega, ?_, ?_⟩
    · exact ⟨h.fl, rfl, h.ps, h.pb, h.err⟩
    · rw [E5.drop_take_self, List.append_nil, ← hnow, ← h.n]
  | succ k ih =>
    intro p q f t hk h hnow
    have hpl : p < s.length := by unfold upTo at hk; omega
    have hpb : (p : Int) < lim.b := by unfold upTo at hk; omega
    have e0 : (s.take (upTo s lim)).drop p = s.getD p 0 :: (s.take (upTo s lim)).drop (p + 1) := E5.drop_take_cons hpl (by omega)
    rw [e0]
    have hwr : write f (s.drop p) = write (takeC f (s.getD p 0)) (s.drop (p + 1)) := by
      have hg : s.getD p 0 = s[p] := by simp [hpl]
      rw [hg, List.drop_eq_getElem_cons hpl, write_cons, if_pos (by rw [h.err]; rfl)]
      unfold byte
      rw [if_neg (by rw [h.n, h.fl]; simp; omega)]
    unfold R6.numN
    cases hn : numNext q (s.getD p 0).toNat with
    | none =>
      refine ⟨q, p, rfl, rfl, by omega, fun _ => hn, ?_, ?_⟩
      · exact ⟨h.fl, rfl, h.ps, h.pb, h.err⟩
      · rw [E5.drop_take_self, List.append_nil, ← hnow, ← h.n]
    | some j =>
      have e1 : takeC f (s.getD p 0) = { f with n := p + 1, now := .num j (t ++ [s.getD p 0]) } := by
        rw [takeC_num hnow, hn, h.n]
      obtain ⟨q', r, r1, r2, r3, r4, r5, r6⟩ := ih (p + 1) j { f with n := p + 1, now := .num j (t ++ [s.getD p 0]) } (t ++ [s.getD p 0]) (by omega) (h.on hpl hpb rfl (by rw [h.n]) rfl) rfl
      simp only
      refine ⟨q', r, by omega, r2, r3, r4, ⟨r5.fl, rfl, r5.ps, r5.pb, r5.err⟩, ?_⟩
      rw [hwr, e1, r6]
      have hr : p + 1 ≤ r := by omega
      rw [E5.take_split (show p ≤ p + 1 by omega) hr, part_snoc (Nat.le_refl p) hpl, E5.drop_take_self, List.nil_append, List.append_assoc]
theorem finish_num {q : Nat} {t : Bytes} (h : f.now = .num q t) : finish f = over { f with now := .none, out := setText f.out (f.out.length - 1) t } := by
  unfold finish
  rw [h]
/-- A whole number that does not go on is as one that has ended. -/
theorem finish_alike {q : Nat} {t : Bytes} (h : At s lim p f) (hnow : f.now = .num q t) (he : numEnd q = true) (hn : p < upTo s lim → numNext q (at_ s p) = none) (hb : 0 ≤ lim.b) :
    obs (write f (s.drop p)) = obs (write (finish f) (s.drop p)) := by
  have hps := h.ps
  have hpb := h.pb
  have hf := finish_num hnow
  have hferr : (finish f).err = 0 := by rw [hf]; exact h.err
  have hfn : (finish f).n = p := by rw [hf]; exact h.n
  have hfl : (finish f).lim = lim := by rw [hf]; exact h.fl
  by_cases hlt : p < s.length
  · have hg : s.getD p 0 = s[p] := by simp [hlt]
    rw [List.drop_eq_getElem_cons hlt, write_cons, write_cons, if_pos (by rw [h.err]; rfl), if_pos (by rw [hferr]; rfl)]
    unfold byte
    by_cases hpl : (p : Int) = lim.b
    · rw [if_pos (by rw [h.n, h.fl, hpl]; simp), if_pos (by rw [hfn, hfl, hpl]; simp), h.fl, hfl, obs_wrong _ _ _ (by decide), obs_wrong _ _ _ (by decide), hfn, h.n]
      congr 3
      rw [hf]
      rfl
    · rw [if_neg (by rw [h.n, h.fl]; simpa using hpl), if_neg (by rw [hfn, hfl]; simpa using hpl)]
      have hn' := hn (by unfold upTo; omega)
      have e1 : takeC f s[p] = takeC (finish f) s[p] := by
        rw [← hg, takeC_num hnow, show numNext q (s.getD p 0).toNat = none from hn']
        simp only
        rw [if_pos he]
        have hnow2 : (finish f).now = .none := by rw [hf]; rfl
        unfold takeC
        simp only [hnow2]
        congr 1
        rw [hf, finish_num (f := { f with n := f.n + 1, now := .num q t }) rfl]
        rfl
      rw [e1]
  · rw [List.drop_eq_nil_of_le (by omega)]
    show obs f = obs (finish f)
    have e1 : End f = if numEnd q && f.stack.isEmpty then (setText f.out (f.out.length - 1) t, 0, 0) else ([], (f.n : Int), 9) := by
      unfold End
      rw [if_neg (show ¬ (f.err != 0) = true by simp [h.err]), hnow]
    have e2 : End (finish f) = if (if f.stack.isEmpty then 6 else 5) == 6 then (setText f.out (f.out.length - 1) t, 0, 0) else ([], (f.n : Int), 9) := by
      rw [hf]
      exact if_neg (show ¬ (f.err != 0) = true by simp [h.err])
    unfold obs
    rw [e1, e2, hf, he, Bool.true_and]
    cases hs : f.stack.isEmpty with
    | true => rfl
    | false => rfl
end Go.Px.J6
