/-
  Several texts in one: The program's reader of package der as plain functions on plain data. No program is named here. The program's reader of layer 15 does what the reference's does (plain law). No program is named here. The telling of layer 15 as plain functions: what is one right element and its bytes; the stack that counts. No program is named here. What is told is read: the bytes of one right element are read back, or refused when a set is out of order (plain law, layer 15). No program is named here. What is read is told: an element that the reference reads is one right element, and its bytes are those that stand there (plain law, layer 15). No program is named here. The feed of layer 19 against the reference's reader of layer 16 (plain law): one byte, blanks, one byte that must stand there. No program is named here. What the reference's reader of layer 16 keeps, and where it ends (plain). No program is named here. The feed of layer 19 against the reference's reader of layer 16 (plain law): words, four digits, what stands behind a backslash. No program is named here. The feed of layer 19 against the reference's reader of layer 16 (plain law): signs of several bytes, strings. No program is named here. The feed of layer 19 against the reference's reader of layer 16 (plain law): numbers. No program is named here. The feed of layer 19 against the reference's reader of layer 16 (plain law): values without elements. No program is named here. The feed of layer 19 against the reference's reader of layer 16 (plain law): numbers as values, values without elements, what opens and closes. No program is named here. The feed of layer 19 against the reference's reader of layer 16 (plain law): arrays. No program is named here. The feed of layer 19 against the reference's reader of layer 16 (plain law): objects. No program is named here. The feed of layer 19 tells what the reference's reader of layer 16 tells (plain law). No program is named here.
-/
import Derived.Test.YtahojodgmjmpnaaR5M
import Derived.Test.YtahojodgmjmpnaaJfM
/-! The program's reader of package der as plain functions on plain data. No program is named here. -/
namespace Go.Px.D5
open R5 (inner tagE bump)
structure Fm where
  tag : UInt8
  at_ : Nat
  end_ : Nat
  no : Nat
  last : Bytes
structure Dx where
  at_ : Nat
  stack : List Fm
  out : List Node
abbrev Flt := Int × Int
def want (s : Bytes) (lim : Lim) (p : Nat) : Except Flt Nat :=
  if (p : Int) < s.length ∧ (p : Int) < lim.b then .ok (s.getD p 0).toNat else if lim.b < s.length then .error (lim.b, 10) else .error (s.length, 9)
def lenN (s : Bytes) (lim : Lim) : Nat → Nat → Bool → Nat → Except Flt Nat
  | 0, _, _, n => .ok n
  | m + 1, p, first, n => match want s lim p with
    | .error e => .error e
    | .ok c => if first && c == 0 then .error (p, 9) else lenN s lim m (p + 1) false (256 * n + c)
/-- A length and the place behind. -/
def length (s : Bytes) (lim : Lim) (p : Nat) : Except Flt (Nat × Nat) :=
  match want s lim p with
  | .error e => .error e
  | .ok b =>
    if b < 128 then .ok (b, p + 1)
    else if b = 128 ∨ 132 < b then .error (p, 9)
    else match lenN s lim (b % 128) (p + 1) true 0 with
      | .error e => .error e
      | .ok n => if n < 128 then .error ((p + b % 128 : Nat), 9) else .ok (n, p + 1 + b % 128)
/-- An element's tag and length; the place behind. -/
def head (s : Bytes) (lim : Lim) (o k p : Nat) (e : Option Nat) : Except Flt (Nat × Nat) :=
  match want s lim p with
  | .error e => .error e
  | .ok t =>
    if (o : Int) = lim.i then .error (p, 10)
    else if tagE t ≠ 0 then .error (p, tagE t)
    else if inner t && decide ((k : Int) = lim.d) then .error (p, 10)
    else match length s lim (p + 1) with
      | .error e => .error e
      | .ok (n, q) => if e.any (fun v => decide (v < q + n)) then .error (p, 9) else .ok (n, q)
def ended (s : Bytes) (x : Dx) (p : Nat) : Except Flt Dx :=
  match x.stack with
  | [] => .ok x
  | f :: rest =>
    if f.tag.toNat == 49 then
      if Op.bytesLess ((s.take x.at_).drop p) f.last then .error (p, 9)
      else .ok { x with stack := { f with last := (s.take x.at_).drop p } :: rest }
    else .ok x
def bumpTop (l : List Node) : List Fm → List Node
  | [] => l
  | f :: _ => bump l f.no
def beginD (s : Bytes) (lim : Lim) (x : Dx) : Except Flt Dx :=
  match head s lim x.out.length x.stack.length x.at_ (x.stack.head?.map (·.end_)) with
  | .error e => .error e
  | .ok (n, q) =>
    let t := s.getD x.at_ 0
    if inner t.toNat then .ok { at_ := q, stack := ⟨t, x.at_, q + n, x.out.length, []⟩ :: x.stack, out := bumpTop x.out x.stack ++ [⟨t, 0, []⟩] }
    else match (if n = 0 then .ok 0 else want s lim (q + n - 1)) with
      | .error e => .error e
      | .ok _ =>
        let b := (s.take (q + n)).drop q
        if R5.body t.toNat b then ended s { at_ := q + n, stack := x.stack, out := bumpTop x.out x.stack ++ [⟨t, -1, b⟩] } x.at_ else .error (x.at_, 9)
def loopN (s : Bytes) (lim : Lim) : Nat → Dx → Option (Except Flt Dx)
  | 0, _ => none
  | m + 1, x => match x.stack with
    | [] => some (.ok x)
    | f :: rest =>
      if x.at_ < f.end_ then (match beginD s lim x with | .error e => some (.error e) | .ok y => loopN s lim m y)
      else match ended s { x with stack := rest } f.at_ with | .error e => some (.error e) | .ok y => loopN s lim m y
def after (s : Bytes) (lim : Lim) (r : Except Flt Dx) (m : Nat) : Option (Except Flt Dx) :=
  match r with
  | .error e => some (.error e)
  | .ok y => loopN s lim m y
def run (s : Bytes) (lim : Lim) (m : Nat) : Option (Except Flt Dx) := after s lim (beginD s lim ⟨0, [], []⟩) m
end Go.Px.D5

/-! The program's reader of layer 15 does what the reference's does (plain law). No program is named here. -/
namespace Go.Px.D5
open R5 (St inner tagE bump)

/-- What holds of the reference's reader between two elements. -/
structure Ok (s : Bytes) (lim : Lim) (x : St) (p : Nat) : Prop where
  ps : p ≤ s.length
  pb : (p : Int) ≤ lim.b
  taken : x.taken = p
  out : (x.out.length : Int) ≤ lim.i
def flt (y : St) : Flt := (y.place, y.err)

theorem want_ok {s : Bytes} {lim : Lim} {x y : St} {p : Nat} (h : R5.want s lim x p = (true, y)) (ht : x.taken ≤ p) : want s lim p = .ok (s.getD p 0).toNat ∧ p < s.length ∧ (p : Int) < lim.b ∧ y = { x with taken := p + 1 } := by
  unfold R5.want at h
  by_cases h1 : p < s.length ∧ (p : Int) < lim.b
  · rw [if_pos h1] at h
    simp only [Prod.mk.injEq, true_and] at h
    refine ⟨?_, h1.1, h1.2, ?_⟩
    · unfold want; rw [if_pos (by omega)]
    · rw [← h]; unfold R5.take; rw [Nat.max_eq_right (by omega)]
  · rw [if_neg h1] at h
    split at h <;> simp at h
theorem want_bad {s : Bytes} {lim : Lim} {x y : St} {p : Nat} (h : R5.want s lim x p = (false, y)) : want s lim p = .error (flt y) := by
  unfold R5.want at h
  by_cases h1 : p < s.length ∧ (p : Int) < lim.b
  · rw [if_pos h1] at h; simp at h
  · rw [if_neg h1] at h
    unfold want
    rw [if_neg (by omega)]
    by_cases h2 : lim.b < s.length
    · rw [if_pos h2] at h
      simp only [Prod.mk.injEq, true_and] at h
      subst h
      rw [if_pos (by omega)]
      rfl
    · rw [if_neg h2] at h
      simp only [Prod.mk.injEq, true_and] at h
      subst h
      rw [if_neg (by omega)]
      rfl
theorem lenN_eq (s : Bytes) (lim : Lim) : ∀ (m : Nat) (x : St) (p : Nat) (first : Bool) (n : Nat), x.taken = p → p ≤ s.length → (p : Int) ≤ lim.b →
    match R5.lenN s lim m x p first n with
    | (some v, y) => lenN s lim m p first n = .ok v ∧ y = { x with taken := p + m } ∧ p + m ≤ s.length ∧ ((p + m : Nat) : Int) ≤ lim.b
    | (none, y) => lenN s lim m p first n = .error (flt y)
  | 0, x, p, first, n, ht, hp, hb => ⟨rfl, by rw [Nat.add_zero, ← ht], hp, hb⟩
  | m + 1, x, p, first, n, ht, hp, hb => by
    unfold R5.lenN lenN
    cases hw : R5.want s lim x p with
    | mk b y =>
      cases b
      · simp only; rw [want_bad hw]
      · obtain ⟨h1, h2, h3, h4⟩ := want_ok hw (Nat.le_of_eq ht)
        simp only
        rw [h1]
        simp only
        by_cases hz : (first && (s.getD p 0).toNat == 0) = true
        · rw [if_pos hz, if_pos hz]; rfl
        · rw [if_neg hz, if_neg hz]
          have := lenN_eq s lim m y (p + 1) false (256 * n + (s.getD p 0).toNat) (by rw [h4]) h2 (by omega)
          cases hr : R5.lenN s lim m y (p + 1) false (256 * n + (s.getD p 0).toNat) with
          | mk o z =>
            rw [hr] at this
            cases o with
            | none => exact this
            | some v =>
              obtain ⟨a, b, c, d⟩ := this
              exact ⟨a, by rw [b, h4, show p + 1 + m = p + (m + 1) by omega], by omega, by omega⟩
theorem lenN_small (s : Bytes) (lim : Lim) : ∀ (m : Nat) (p : Nat) (first : Bool) (n k : Nat), n < 256 ^ k → ∀ v, lenN s lim m p first n = .ok v → v < 256 ^ (k + m)
  | 0, p, first, n, k, hn, v, h => by
    unfold lenN at h
    simp only [Except.ok.injEq] at h
    rw [← h]; exact hn
  | m + 1, p, first, n, k, hn, v, h => by
    unfold lenN at h
    cases hw : want s lim p with
    | error e => rw [hw] at h; simp at h
    | ok c =>
      rw [hw] at h
      simp only at h
      have hc : c < 256 := by
        unfold want at hw
        split at hw
        · simp only [Except.ok.injEq] at hw
          rw [← hw]; exact (s.getD p 0).toNat_lt
        · split at hw <;> simp at hw
      split at h
      · simp at h
      · have := lenN_small s lim m (p + 1) false (256 * n + c) (k + 1) (by rw [Nat.pow_succ]; omega) v h
        rw [show k + (m + 1) = k + 1 + m by omega]; exact this
theorem length_eq {s : Bytes} {lim : Lim} {x : St} {p : Nat} (ht : x.taken = p) :
    match R5.length s lim x p with
    | (some (n, q), y) => length s lim p = .ok (n, q) ∧ y = { x with taken := q } ∧ q ≤ s.length ∧ (q : Int) ≤ lim.b ∧ p < q ∧ n < 4294967296
    | (none, y) => length s lim p = .error (flt y) := by
  unfold R5.length length
  cases hw : R5.want s lim x p with
  | mk b y =>
    cases b
    · simp only; rw [want_bad hw]
    · obtain ⟨h1, h2, h3, h4⟩ := want_ok hw (Nat.le_of_eq ht)
      simp only
      rw [h1]
      simp only
      by_cases hb : (s.getD p 0).toNat < 128
      · rw [if_pos hb, if_pos hb]
        exact ⟨rfl, h4, h2, by omega, Nat.lt_succ_self p, by omega⟩
      · rw [if_neg hb, if_neg hb]
        by_cases hk : (s.getD p 0).toNat = 128 ∨ 132 < (s.getD p 0).toNat
        · rw [if_pos hk, if_pos hk]; rfl
        · rw [if_neg hk, if_neg hk]
          obtain ⟨w, hwd⟩ : ∃ w, w = (s.getD p 0).toNat % 128 := ⟨_, rfl⟩
          rw [← hwd]
          have := lenN_eq s lim w y (p + 1) true 0 (by rw [h4]) h2 (by omega)
          cases hr : R5.lenN s lim w y (p + 1) true 0 with
          | mk o z =>
            rw [hr] at this
            cases o with
            | none => simp only at this ⊢; rw [this]
            | some v =>
              obtain ⟨a, b, c, d⟩ := this
              simp only
              rw [a]
              simp only
              by_cases hv : v < 128
              · rw [if_pos hv, if_pos hv]; rfl
              · rw [if_neg hv, if_neg hv]
                refine ⟨rfl, by rw [b, h4], c, d, by omega, ?_⟩
                have h5 := lenN_small s lim _ _ _ _ 0 (by decide) v a
                have h6 : 256 ^ (0 + w) ≤ 256 ^ 4 := Nat.pow_le_pow_right (by decide) (by omega)
                omega
theorem head_eq {s : Bytes} {lim : Lim} {x : St} {p k : Nat} {room : Bool} {e : Option Nat} (h : Ok s lim x p) (hr : room = !decide ((k : Int) = lim.d)) :
    match R5.head s lim room x p e with
    | (some (n, q), y) => head s lim x.out.length k p e = .ok (n, q) ∧ y = { x with taken := q } ∧ q ≤ s.length ∧ (q : Int) ≤ lim.b ∧ p + 1 < q ∧ n < 4294967296 ∧ (x.out.length : Int) < lim.i ∧ (∀ v, e = some v → q + n ≤ v) ∧
        tagE (s.getD p 0).toNat = 0 ∧ (inner (s.getD p 0).toNat = true → room = true) ∧ p < s.length
    | (none, y) => head s lim x.out.length k p e = .error (flt y) := by
  unfold R5.head head
  cases hw : R5.want s lim x p with
  | mk b y =>
    cases b
    · simp only; rw [want_bad hw]
    · obtain ⟨h1, h2, h3, h4⟩ := want_ok hw (Nat.le_of_eq h.taken)
      simp only
      rw [h1]
      simp only
      have hyo : y.out = x.out := by rw [h4]
      have hout := h.out
      by_cases hi : lim.i ≤ y.out.length
      · rw [if_pos hi, if_pos (show (x.out.length : Int) = lim.i by rw [hyo] at hi; omega)]; rfl
      · rw [if_neg hi, if_neg (show ¬ (x.out.length : Int) = lim.i by rw [hyo] at hi; omega)]
        by_cases ht : tagE (s.getD p 0).toNat ≠ 0
        · rw [if_pos ht, if_pos ht]; rfl
        · rw [if_neg ht, if_neg ht]
          have hrm : (inner (s.getD p 0).toNat && !room) = (inner (s.getD p 0).toNat && decide ((k : Int) = lim.d)) := by rw [hr, Bool.not_not]
          rw [hrm]
          by_cases hf : (inner (s.getD p 0).toNat && decide ((k : Int) = lim.d)) = true
          · rw [if_pos hf, if_pos hf]; rfl
          · rw [if_neg hf, if_neg hf]
            have := length_eq (s := s) (lim := lim) (x := y) (p := p + 1) (by rw [h4])
            cases hl : R5.length s lim y (p + 1) with
            | mk o z =>
              rw [hl] at this
              cases o with
              | none => simp only at this ⊢; rw [this]
              | some t =>
                obtain ⟨n, q⟩ := t
                obtain ⟨a, b, c, d, g, f⟩ := this
                simp only
                rw [a]
                simp only
                by_cases he : (e.any (fun v => decide (v < q + n))) = true
                · rw [if_pos he, if_pos he]; rfl
                · rw [if_neg he, if_neg he]
                  refine ⟨rfl, by rw [b, h4], c, d, g, f, by rw [hyo] at hi; omega, ?_, Decidable.not_not.1 ht, ?_, h2⟩
                  · intro v hv
                    rw [hv] at he
                    simp only [Option.any_some, decide_eq_true_eq] at he
                    omega
                  · intro hin
                    rw [hr]
                    rw [hin, Bool.true_and] at hf
                    simp only [Bool.not_eq_true] at hf
                    rw [hf]; rfl

/-! Elements -/
theorem bump_len (l : List Node) (i : Nat) : (bump l i).length = l.length := List.length_modify _ _ _
theorem bump_app : ∀ (l r : List Node) (i : Nat), i < l.length → bump (l ++ r) i = bump l i ++ r
  | [], _, _, h => by simp at h
  | a :: l, r, 0, _ => rfl
  | a :: l, r, i + 1, h => by
    have := bump_app l r i (by simpa using h)
    unfold bump at *
    simp only [List.cons_append, List.modify_succ_cons, this]
theorem bump_comm : ∀ (l : List Node) (i j : Nat), bump (bump l i) j = bump (bump l j) i
  | [], _, _ => by unfold bump; simp
  | a :: l, 0, 0 => rfl
  | a :: l, 0, j + 1 => rfl
  | a :: l, i + 1, 0 => rfl
  | a :: l, i + 1, j + 1 => by
    have := bump_comm l i j
    unfold bump at *
    simp only [List.modify_succ_cons, this]
def bumps (l : List Node) : List Nat → List Node
  | [] => l
  | n :: ns => bump (bumps l ns) n
def nos (st : List Fm) : List Nat := st.map (·.no)
theorem bumps_len (l : List Node) : ∀ ns, (bumps l ns).length = l.length
  | [] => rfl
  | n :: ns => by unfold bumps; rw [bump_len, bumps_len l ns]
theorem bumps_app (l r : List Node) : ∀ ns : List Nat, (∀ n ∈ ns, n < l.length) → bumps (l ++ r) ns = bumps l ns ++ r
  | [], _ => rfl
  | n :: ns, h => by
    unfold bumps
    rw [bumps_app l r ns (fun k hk => h k (List.mem_cons_of_mem _ hk)), bump_app _ _ _ (by rw [bumps_len]; exact h n (List.mem_cons_self ..))]
theorem bumps_bump (l : List Node) (i : Nat) : ∀ ns : List Nat, bumps (bump l i) ns = bump (bumps l ns) i
  | [] => rfl
  | n :: ns => by unfold bumps; rw [bumps_bump l i ns, bump_comm]
theorem bumpTop_eq (l : List Node) (st : List Fm) : bumpTop (bumps l (nos st.tail)) st = bumps l (nos st) := by
  cases st with
  | nil => rfl
  | cons f rest => rfl

def Runs (r : Nat → Option (Except Flt Dx)) (e : Nat → Option (Except Flt Dx)) : Prop := ∃ n, ∀ m, r (n + m) = e m
theorem Runs.refl {r : Nat → Option (Except Flt Dx)} : Runs r r := ⟨0, fun m => by rw [Nat.zero_add]⟩
theorem Runs.trans {r e f : Nat → Option (Except Flt Dx)} (h : Runs r e) (k : Runs e f) : Runs r f := by
  obtain ⟨n, h⟩ := h
  obtain ⟨n2, k⟩ := k
  exact ⟨n + n2, fun m => by rw [Nat.add_assoc, h, k]⟩
theorem Runs.step {r e : Nat → Option (Except Flt Dx)} (h : ∀ m, r (m + 1) = e m) : Runs r e := ⟨1, fun m => by rw [Nat.add_comm]; exact h m⟩
theorem Runs.of {r e : Nat → Option (Except Flt Dx)} (h : ∀ m, r m = e m) : Runs r e := ⟨0, fun m => by rw [Nat.zero_add]; exact h m⟩

/-- What the stack names is in the list. -/
def Nos (st : List Fm) (x : St) : Prop := ∀ n ∈ nos st, n < x.out.length
def ElemD (s : Bytes) (lim : Lim) (x : St) (p : Nat) (st : List Fm) (r : Option Nat × St) : Prop :=
  match r with
  | (some q, y) => Ok s lim y q ∧ x.out.length < y.out.length ∧ p < q ∧ (∀ v, st.head?.map (·.end_) = some v → q ≤ v) ∧
      Runs (after s lim (beginD s lim ⟨p, st, bumps x.out (nos st.tail)⟩)) (after s lim (ended s ⟨q, st, bumps y.out (nos st)⟩ p))
  | (none, y) => Runs (after s lim (beginD s lim ⟨p, st, bumps x.out (nos st.tail)⟩)) (fun _ => some (.error (flt y)))
def InsD (s : Bytes) (lim : Lim) (x : St) (d : Dx) (st : List Fm) (at0 e : Nat) (r : Option Nat × St) : Prop :=
  match r with
  | (some q, y) => q = e ∧ Ok s lim y q ∧ x.out.length ≤ y.out.length ∧ Runs (fun m => loopN s lim m d) (after s lim (ended s ⟨q, st, bumps y.out (nos st)⟩ at0))
  | (none, y) => Runs (fun m => loopN s lim m d) (fun _ => some (.error (flt y)))
theorem loop_beg (s : Bytes) (lim : Lim) (x : Dx) (f : Fm) (rest : List Fm) (h : x.stack = f :: rest) (hl : x.at_ < f.end_) : Runs (fun m => loopN s lim m x) (after s lim (beginD s lim x)) := by
  refine Runs.step fun m => ?_
  show loopN s lim (m + 1) x = _
  unfold loopN
  rw [h]
  simp only
  rw [if_pos hl]
  rfl
theorem loop_pop (s : Bytes) (lim : Lim) (x : Dx) (f : Fm) (rest : List Fm) (h : x.stack = f :: rest) (hl : ¬ x.at_ < f.end_) : Runs (fun m => loopN s lim m x) (after s lim (ended s { x with stack := rest } f.at_)) := by
  refine Runs.step fun m => ?_
  show loopN s lim (m + 1) x = _
  unfold loopN
  rw [h]
  simp only
  rw [if_neg hl]
  rfl

theorem inside_eq (s : Bytes) (lim : Lim) (rc : St → Nat → Option Nat × St) (e : Nat) (t : UInt8) (at0 me : Nat) (st : List Fm)
    (hrc : ∀ x p last, Ok s lim x p → Nos (⟨t, at0, e, me, last⟩ :: st) x → ElemD s lim x p (⟨t, at0, e, me, last⟩ :: st) (rc x p)) :
    ∀ (m : Nat) (x : St) (p : Nat) (last last' : Bytes), Ok s lim x p → Nos (⟨t, at0, e, me, last⟩ :: st) x → p ≤ e → e - p ≤ m → (t.toNat = 49 → last' = last) →
      InsD s lim x ⟨p, ⟨t, at0, e, me, last'⟩ :: st, bumps x.out (nos st)⟩ st at0 e (R5.insideN s rc t.toNat me e m x p last) := by
  intro m
  induction m with
  | zero =>
    intro x p last last' h hn hp hm _
    exact ⟨by omega, h, Nat.le_refl _, loop_pop s lim _ ⟨t, at0, e, me, last'⟩ st rfl (by simp only; omega)⟩
  | succ m ih =>
    intro x p last last' h hn hp hm hl
    unfold R5.insideN
    by_cases hpe : p < e
    · rw [if_pos hpe]
      have h1 := loop_beg s lim ⟨p, ⟨t, at0, e, me, last'⟩ :: st, bumps x.out (nos st)⟩ ⟨t, at0, e, me, last'⟩ st rfl hpe
      have h2 := hrc x p last' h hn
      cases hr : rc x p with
      | mk o y =>
        rw [hr] at h2
        cases o with
        | none => exact h1.trans h2
        | some q =>
          simp only
          obtain ⟨i1, i2, i3, i4, i5⟩ := h2
          have hq : q ≤ e := i4 e rfl
          have hb : bumps (bump y.out me) (nos st) = bumps y.out (nos (⟨t, at0, e, me, last'⟩ :: st)) := bumps_bump _ _ _
          by_cases hk : (t.toNat == 49 && Op.bytesLess ((s.take q).drop p) last) = true
          · rw [if_pos hk]
            simp only [Bool.and_eq_true, beq_iff_eq] at hk
            refine h1.trans (i5.trans (Runs.of fun n => ?_))
            unfold ended
            simp only
            rw [if_pos (by rw [hk.1]; rfl), if_pos (by rw [hl hk.1]; exact hk.2)]
            rfl
          · rw [if_neg hk]
            have hOk : Ok s lim { y with out := bump y.out me } q := ⟨i1.ps, i1.pb, i1.taken, by simp only [bump_len]; exact i1.out⟩
            have hN : ∀ l, Nos (⟨t, at0, e, me, l⟩ :: st) { y with out := bump y.out me } := fun l n hm => by
              have : n < x.out.length := hn n hm
              simp only [bump_len]; omega
            have key : ∃ l', (t.toNat = 49 → l' = (s.take q).drop p) ∧ ended s ⟨q, ⟨t, at0, e, me, last'⟩ :: st, bumps y.out (nos (⟨t, at0, e, me, last'⟩ :: st))⟩ p = .ok ⟨q, ⟨t, at0, e, me, l'⟩ :: st, bumps (bump y.out me) (nos st)⟩ := by
              by_cases ht : t.toNat = 49
              · refine ⟨(s.take q).drop p, fun _ => rfl, ?_⟩
                unfold ended
                simp only
                have hk' : ¬ Op.bytesLess ((s.take q).drop p) last' = true := by
                  rw [hl ht]
                  intro hh
                  exact hk (by rw [ht, hh]; rfl)
                rw [if_pos (by rw [ht]; rfl), if_neg hk', hb]
              · refine ⟨last', fun hh => absurd hh ht, ?_⟩
                unfold ended
                simp only
                rw [if_neg (by simpa using ht), hb]
            obtain ⟨l', k1, k2⟩ := key
            rw [k2] at i5
            have h3 := ih { y with out := bump y.out me } q ((s.take q).drop p) l' hOk (hN _) hq (by omega) k1
            cases hr2 : R5.insideN s rc t.toNat me e m { y with out := bump y.out me } q ((s.take q).drop p) with
            | mk o2 z =>
              rw [hr2] at h3
              cases o2 with
              | none => exact h1.trans (i5.trans h3)
              | some r =>
                obtain ⟨j1, j2, j3, j4⟩ := h3
                refine ⟨j1, j2, ?_, h1.trans (i5.trans j4)⟩
                simp only [bump_len] at j3
                omega
    · rw [if_neg hpe]
      have hpe' : p = e := by omega
      subst hpe'
      exact ⟨rfl, h, Nat.le_refl _, loop_pop s lim _ ⟨t, at0, p, me, last'⟩ st rfl hpe⟩
theorem leaf_eq {s : Bytes} {lim : Lim} {x y : St} {p q n : Nat} {st : List Fm} (hn : Nos st x) (hy : y = { x with taken := q }) (hq1 : q ≤ s.length) (hq2 : (q : Int) ≤ lim.b) (hpq : p + 1 < q) (hlt : (x.out.length : Int) < lim.i)
    (hend : ∀ v, st.head?.map (·.end_) = some v → q + n ≤ v) (hh : head s lim x.out.length st.length p (st.head?.map (·.end_)) = .ok (n, q)) (hin : inner (s.getD p 0).toNat = false) :
    ElemD s lim x p st (R5.leaf s lim y (s.getD p 0) p q n) := by
  have hyo : y.out = x.out := by rw [hy]
  have hbl : (bumps x.out (nos st.tail)).length = x.out.length := bumps_len _ _
  have hb : beginD s lim ⟨p, st, bumps x.out (nos st.tail)⟩ = (match (if n = 0 then .ok 0 else want s lim (q + n - 1)) with
      | .error e => .error e
      | .ok _ => if R5.body (s.getD p 0).toNat ((s.take (q + n)).drop q) then ended s { at_ := q + n, stack := st, out := bumpTop (bumps x.out (nos st.tail)) st ++ [⟨s.getD p 0, -1, (s.take (q + n)).drop q⟩] } p else .error (p, 9)) := by
    unfold beginD
    simp only [hbl]
    rw [hh]
    simp only
    rw [hin]
    rfl
  unfold R5.leaf
  by_cases h0 : n = 0
  · subst h0
    rw [if_pos rfl] at hb ⊢
    simp only [Nat.add_zero] at hb ⊢
    by_cases hbd : R5.body (s.getD p 0).toNat ((s.take q).drop q) = true
    · rw [if_pos hbd] at hb ⊢
      refine ⟨⟨hq1, hq2, by rw [hy], by simp [hyo]; omega⟩, by simp [hyo], by omega, fun v hv => by have := hend v hv; omega, Runs.of fun m => ?_⟩
      rw [hb, bumpTop_eq, hyo, bumps_app _ _ _ hn]
    · rw [if_neg hbd] at hb ⊢
      exact Runs.of fun m => by rw [hb]; rfl
  · rw [if_neg h0] at hb ⊢
    cases hw : R5.want s lim y (q + n - 1) with
    | mk b z =>
      cases b
      · rw [want_bad hw] at hb
        exact Runs.of fun m => by rw [hb]; rfl
      · obtain ⟨h1, h2, h3, h4⟩ := want_ok hw (by rw [hy]; show q ≤ _; omega)
        rw [h1] at hb
        simp only at hb ⊢
        have hzo : z.out = x.out := by rw [h4, ← hyo]
        by_cases hbd : R5.body (s.getD p 0).toNat ((s.take (q + n)).drop q) = true
        · rw [if_pos hbd] at hb ⊢
          refine ⟨⟨by omega, by omega, by rw [h4]; show q + n - 1 + 1 = q + n; omega, by simp [hzo]; omega⟩, by simp [hzo], by omega, fun v hv => hend v hv, Runs.of fun m => ?_⟩
          rw [hb, bumpTop_eq, hzo, bumps_app _ _ _ hn]
        · rw [if_neg hbd] at hb ⊢
          exact Runs.of fun m => by rw [hb]; rfl

theorem elem_eq (s : Bytes) (lim : Lim) : ∀ (d : Nat) (x : St) (p : Nat) (st : List Fm), Ok s lim x p → Nos st x → ((st.length + d : Nat) : Int) = lim.d → ElemD s lim x p st (R5.elem s lim d x p (st.head?.map (·.end_))) := by
  intro d
  induction d with
  | zero =>
    intro x p st h hn hd
    have hh := head_eq (k := st.length) (room := false) (e := st.head?.map (·.end_)) h (by rw [decide_eq_true (by omega)]; rfl)
    unfold R5.elem
    cases hr : R5.head s lim false x p (st.head?.map (·.end_)) with
    | mk o y =>
      rw [hr] at hh
      cases o with
      | none =>
        refine Runs.of fun m => ?_
        unfold beginD
        simp only [bumps_len]
        rw [hh]
        rfl
      | some t =>
        obtain ⟨n, q⟩ := t
        obtain ⟨h1, h2, h3, h4, h5, h6, h7, h8, h9, h10, h11⟩ := hh
        refine leaf_eq hn h2 h3 h4 h5 h7 h8 h1 ?_
        cases hi : inner (s.getD p 0).toNat with
        | false => rfl
        | true => exact absurd (h10 hi) (by decide)
  | succ d ih =>
    intro x p st h hn hd
    have hh := head_eq (k := st.length) (room := true) (e := st.head?.map (·.end_)) h (by rw [decide_eq_false (by omega)]; rfl)
    unfold R5.elem
    cases hr : R5.head s lim true x p (st.head?.map (·.end_)) with
    | mk o y =>
      rw [hr] at hh
      cases o with
      | none =>
        refine Runs.of fun m => ?_
        unfold beginD
        simp only [bumps_len]
        rw [hh]
        rfl
      | some t =>
        obtain ⟨n, q⟩ := t
        obtain ⟨h1, h2, h3, h4, h5, h6, h7, h8, h9, h10, h11⟩ := hh
        simp only
        have hyo : y.out = x.out := by rw [h2]
        by_cases hin : inner (s.getD p 0).toNat = true
        · rw [if_pos hin]
          have hb : beginD s lim ⟨p, st, bumps x.out (nos st.tail)⟩ = .ok ⟨q, ⟨s.getD p 0, p, q + n, x.out.length, []⟩ :: st, bumps (x.out ++ [⟨s.getD p 0, 0, []⟩]) (nos st)⟩ := by
            unfold beginD
            simp only [bumps_len]
            rw [h1]
            simp only
            rw [if_pos hin, bumpTop_eq, bumps_app _ _ _ hn]
          have hOk : Ok s lim { y with out := y.out ++ [⟨s.getD p 0, 0, []⟩], frames := y.frames + 1 } q := ⟨h3, h4, by rw [h2], by simp [hyo]; omega⟩
          have hins := inside_eq s lim (fun x p => R5.elem s lim d x p (some (q + n))) (q + n) (s.getD p 0) p x.out.length st
            (fun x' p' last hk hk2 => ih x' p' (⟨s.getD p 0, p, q + n, x.out.length, last⟩ :: st) hk hk2 (by simp only [List.length_cons]; omega))
            (q + n - q) { y with out := y.out ++ [⟨s.getD p 0, 0, []⟩], frames := y.frames + 1 } q [] [] hOk
            (fun k hk => by
              simp only [nos, List.map_cons, List.mem_cons] at hk
              simp only [hyo, List.length_append, List.length_singleton]
              rcases hk with rfl | hk
              · omega
              · have : k < x.out.length := hn k hk
                omega) (Nat.le_add_right _ _) (Nat.le_refl _) (fun _ => rfl)
          unfold R5.inside
          rw [hyo] at hins ⊢
          cases hr2 : R5.insideN s (fun x p => R5.elem s lim d x p (some (q + n))) (s.getD p 0).toNat x.out.length (q + n) (q + n - q) { y with out := x.out ++ [⟨s.getD p 0, 0, []⟩], frames := y.frames + 1 } q [] with
          | mk o2 z =>
            rw [hr2] at hins
            have h0 : Runs (after s lim (beginD s lim ⟨p, st, bumps x.out (nos st.tail)⟩)) (fun m => loopN s lim m ⟨q, ⟨s.getD p 0, p, q + n, x.out.length, []⟩ :: st, bumps (x.out ++ [⟨s.getD p 0, 0, []⟩]) (nos st)⟩) := Runs.of fun m => by rw [hb]; rfl
            cases o2 with
            | none => exact h0.trans hins
            | some r =>
              obtain ⟨j1, j2, j3, j4⟩ := hins
              simp only [List.length_append, List.length_singleton] at j3
              exact ⟨⟨j2.ps, j2.pb, j2.taken, j2.out⟩, by show x.out.length < z.out.length; omega, by omega, fun v hv => by have := h8 v hv; omega, h0.trans j4⟩
        · rw [if_neg hin]
          exact leaf_eq hn h2 h3 h4 h5 h7 h8 h1 (by simpa using hin)
theorem run_ref (s : Bytes) (lim : Lim) (hm : lim.may = true) :
    match R5.elem s lim lim.d.toNat R5.start 0 none with
    | (some q, y) => q ≤ s.length ∧ (q : Int) ≤ lim.b ∧ ∃ m, run s lim m = some (.ok ⟨q, [], y.out⟩)
    | (none, y) => ∃ m, run s lim m = some (.error (flt y)) := by
  have hmay : 1 ≤ lim.d ∧ 1 ≤ lim.i ∧ 1 ≤ lim.b := by
    unfold Lim.may at hm
    simp only [Bool.and_eq_true, decide_eq_true_eq] at hm
    omega
  have h := elem_eq s lim lim.d.toNat R5.start 0 [] ⟨Nat.zero_le _, by omega, rfl, by show ((0 : Nat) : Int) ≤ lim.i; omega⟩ (fun n hn => by simp [nos] at hn) (by show ((0 + lim.d.toNat : Nat) : Int) = lim.d; omega)
  have h' : ElemD s lim R5.start 0 [] (R5.elem s lim lim.d.toNat R5.start 0 none) := h
  cases hr : R5.elem s lim lim.d.toNat R5.start 0 none with
  | mk o y =>
    rw [hr] at h'
    cases o with
    | none =>
      obtain ⟨n, h'⟩ := h'
      exact ⟨n, h' 0⟩
    | some q =>
      obtain ⟨k, _, _, _, n, h'⟩ := h'
      exact ⟨k.ps, k.pb, n + 1, h' 1⟩
end Go.Px.D5

/-! The telling of layer 15 as plain functions: what is one right element and its bytes; the stack that counts. No program is named here. -/
namespace Go.Px.E5

/-- The bytes of a number, the greatest first, ahead of others. -/
def beN : Nat → Nat → Bytes → Bytes
  | 0, _, s => s
  | m + 1, n, s => if n = 0 then s else beN m (n / 256) (UInt8.ofNat (n % 256) :: s)
/-- A length as bytes. -/
def lenB (n : Nat) : Bytes := if n < 128 then [UInt8.ofNat n] else UInt8.ofNat (128 + (beN 8 n []).length) :: beN 8 n []
def wrap (t : UInt8) (b : Bytes) : Bytes := t :: (lenB b.length ++ b)
def leaf (a : Node) : Bool := decide (a.kids < 0)
def count (a : Node) : Nat := a.kids.toNat
def right (a : Node) : Bool := R5.tagE a.tag.toNat == 0 && decide (-1 ≤ a.kids) && (R5.inner a.tag.toNat == !leaf a) && (if leaf a then R5.body a.tag.toNat a.body else a.body.isEmpty)
def dec : List Nat → List Nat
  | [] => []
  | n :: r => (n - 1) :: r
def pops : List Nat → List Nat
  | [] => []
  | n :: r => if n = 0 then pops r else n :: r
/-- The program's count of what stands within one another. -/
def shape : Bool → List Node → List Nat → Nat → Option (Nat × List Nat)
  | _, [], left, most => some (most, left)
  | first, a :: r, left, most =>
    if (!first && left.isEmpty) || !right a then none
    else if leaf a then shape false r (pops (dec left)) most
    else shape false r (pops (count a :: dec left)) (max most (left.length + 1))
/-- The reference's. -/
def behind : List Node → List Nat → Nat → Nat → Option Nat × Nat
  | [], _, most, _ => (none, most)
  | a :: r, left, most, i =>
    if a.kids < -1 then (none, most)
    else
      let left2 := if leaf a then dec left else count a :: dec left
      if (pops left2).isEmpty then (some (i + 1), max most left2.length) else behind r (pops left2) (max most left2.length) (i + 1)

/-! Elements in a row: their list, their bytes, whether a set is out of order somewhere -/
def Kids (R : List Node → Bytes → Bool → Prop) (set : Bool) : Nat → Bytes → List Node → Bytes → Bool → Prop
  | 0, _, l, b, o => l = [] ∧ b = [] ∧ o = false
  | m + 1, last, l, b, o => ∃ x r bx br o1 o2, l = x ++ r ∧ b = bx ++ br ∧ R x bx o1 ∧ Kids R set m bx r br o2 ∧ o = (o1 || (set && Op.bytesLess bx last) || o2)
/-- One element, within which at most d stand within one another. -/
def El : Nat → List Node → Bytes → Bool → Prop
  | 0, l, b, o => ∃ a, l = [a] ∧ right a = true ∧ leaf a = true ∧ b = wrap a.tag a.body ∧ o = false
  | d + 1, l, b, o => (∃ a, l = [a] ∧ right a = true ∧ leaf a = true ∧ b = wrap a.tag a.body ∧ o = false) ∨
      (∃ a r br, l = a :: r ∧ right a = true ∧ leaf a = false ∧ Kids (El d) (a.tag.toNat == 49) (count a) [] r br o ∧ b = wrap a.tag br)
theorem Kids.mono {R R' : List Node → Bytes → Bool → Prop} (h : ∀ l b o, R l b o → R' l b o) {set : Bool} : ∀ {m last l b o}, Kids R set m last l b o → Kids R' set m last l b o
  | 0, _, _, _, _, k => k
  | _ + 1, _, _, _, _, ⟨x, r, bx, br, o1, o2, e, e2, h1, h2, h3⟩ => ⟨x, r, bx, br, o1, o2, e, e2, h _ _ _ h1, Kids.mono h h2, h3⟩
theorem El.succ : ∀ {d l b o}, El d l b o → El (d + 1) l b o
  | 0, _, _, _, h => .inl h
  | _ + 1, _, _, _, .inl h => .inl h
  | _ + 1, _, _, _, .inr ⟨a, r, br, e, h1, h2, h3, h4⟩ => .inr ⟨a, r, br, e, h1, h2, h3.mono fun _ _ _ h => El.succ h, h4⟩
theorem El.mono {d e : Nat} (hd : d ≤ e) {l : List Node} {b : Bytes} {o : Bool} (h : El d l b o) : El e l b o := by
  induction hd with
  | refl => exact h
  | step _ ih => exact ih.succ
theorem El.pos {d : Nat} {l : List Node} {b : Bytes} {o : Bool} (h : El d l b o) : 1 ≤ l.length := by
  cases d with
  | zero => obtain ⟨a, rfl, _⟩ := h; exact Nat.le_refl _
  | succ d =>
    rcases h with ⟨a, rfl, _⟩ | ⟨a, r, br, rfl, _⟩
    · exact Nat.le_refl _
    · simp
theorem El.all : ∀ {d l b o}, El d l b o → ∀ a ∈ l, right a = true
  | 0, _, _, _, ⟨a, e, h, _⟩ => by subst e; intro b hb; rw [List.mem_singleton.1 hb]; exact h
  | d + 1, _, _, _, .inl ⟨a, e, h, _⟩ => by subst e; intro b hb; rw [List.mem_singleton.1 hb]; exact h
  | d + 1, _, _, _, .inr ⟨a, r, br, e, h, _, hk, _⟩ => by
    subst e
    have inner : ∀ (m : Nat) (last : Bytes) (set : Bool) (l : List Node) (b : Bytes) (o : Bool), Kids (El d) set m last l b o → ∀ a ∈ l, right a = true := by
      intro m
      induction m with
      | zero => intro last set l b o k; obtain ⟨rfl, _⟩ := k; intro a ha; cases ha
      | succ m ih =>
        intro last set l b o ⟨x, r, bx, br, o1, o2, e, _, h1, h2, _⟩
        subst e
        intro a ha
        rcases List.mem_append.1 ha with ha | ha
        · exact El.all h1 a ha
        · exact ih _ _ _ _ _ h2 a ha
    intro b hb
    rcases List.mem_cons.1 hb with rfl | hb
    · exact h
    · exact inner _ _ _ _ _ _ hk b hb
theorem El.node {d : Nat} {a : Node} {r : List Node} {br : Bytes} {o : Bool} (h1 : right a = true) (h2 : leaf a = false) (h3 : Kids (El d) (a.tag.toNat == 49) (count a) [] r br o) : El (d + 1) (a :: r) (wrap a.tag br) o := .inr ⟨a, r, br, rfl, h1, h2, h3, rfl⟩
theorem El.one {d : Nat} {a : Node} (h1 : right a = true) (h2 : leaf a = true) : El d [a] (wrap a.tag a.body) false := by
  cases d with
  | zero => exact ⟨a, rfl, h1, h2, rfl, rfl⟩
  | succ d => exact .inl ⟨a, rfl, h1, h2, rfl, rfl⟩

/-! From the stack to elements -/
def RowsN (R : List Node → Bytes → Bool → Prop) : Nat → List Node → Prop
  | 0, l => l = []
  | n + 1, l => ∃ x r b o, l = x ++ r ∧ R x b o ∧ RowsN R n r
theorem RowsN.kids {R : List Node → Bytes → Bool → Prop} (set : Bool) : ∀ {n l}, RowsN R n l → ∀ last, ∃ b o, Kids R set n last l b o
  | 0, _, h => fun _ => ⟨[], false, h, rfl, rfl⟩
  | n + 1, _, ⟨x, r, b, o, e, h1, h2⟩ => fun last => by
    obtain ⟨b2, o2, k⟩ := RowsN.kids set h2 b
    exact ⟨_, _, x, r, b, b2, o, o2, e, rfl, h1, k, rfl⟩
def Stk (D : Nat) : List Nat → List Node → Prop
  | [], l => l = []
  | c :: rest, l => ∃ l1 l2, l = l1 ++ l2 ∧ RowsN (El (D - (rest.length + 1))) c l1 ∧ Stk D rest l2
theorem Stk.pops {D : Nat} : ∀ {st l}, Stk D (E5.pops st) l → Stk D st l
  | [], _, h => h
  | n :: r, l, h => by
    unfold E5.pops at h
    by_cases hn : n = 0
    · rw [if_pos hn] at h
      subst hn
      exact ⟨[], l, rfl, rfl, Stk.pops h⟩
    · rw [if_neg hn] at h
      exact h
theorem pops_pos : ∀ (st : List Nat), pops st = [] ∨ ∃ n r, pops st = (n + 1) :: r
  | [] => .inl rfl
  | n :: r => by
    unfold pops
    by_cases hn : n = 0
    · rw [if_pos hn]; exact pops_pos r
    · rw [if_neg hn]; exact .inr ⟨n - 1, r, by rw [Nat.sub_add_cancel (by omega)]⟩
theorem pops_len : ∀ (st : List Nat), (pops st).length ≤ st.length
  | [] => Nat.le_refl _
  | n :: r => by
    unfold pops
    by_cases hn : n = 0
    · rw [if_pos hn]; have := pops_len r; simp; omega
    · rw [if_neg hn]; exact Nat.le_refl _
theorem shape_most : ∀ (l : List Node) (f : Bool) (left : List Nat) (most m : Nat) (e : List Nat), shape f l left most = some (m, e) → most ≤ m
  | [], f, left, most, m, e, h => by unfold shape at h; simp only [Option.some.injEq, Prod.mk.injEq] at h; omega
  | a :: r, f, left, most, m, e, h => by
    unfold shape at h
    split at h
    · cases h
    · split at h
      · exact shape_most r _ _ _ _ _ h
      · have := shape_most r _ _ _ _ _ h; omega
theorem stk_of_shape (D : Nat) : ∀ (l : List Node) (left : List Nat) (most m : Nat), shape false l left most = some (m, []) → m ≤ D → left.length ≤ D → (left = [] ∨ ∃ n r, left = (n + 1) :: r) → Stk D left l
  | [], left, most, m, h, _, _, _ => by
    unfold shape at h
    simp only [Option.some.injEq, Prod.mk.injEq] at h
    rw [h.2]
    exact rfl
  | a :: r, left, most, m, h, hm, hl, hp => by
    unfold shape at h
    by_cases hc : (!false && left.isEmpty || !right a) = true
    · rw [if_pos hc] at h; cases h
    · rw [if_neg hc] at h
      have hc2 : left.isEmpty = false ∧ right a = true := by
        simpa using hc
      obtain ⟨hne, hra⟩ := hc2
      rcases hp with rfl | ⟨n, rest, rfl⟩
      · cases hne
      · simp only [List.length_cons] at hl
        have hdec : dec ((n + 1) :: rest) = n :: rest := rfl
        rw [hdec] at h
        cases hlf : leaf a
        · rw [hlf, if_neg (by simp)] at h
          have hmm := shape_most _ _ _ _ _ _ h
          have := pops_len (count a :: n :: rest)
          simp only [List.length_cons] at this hmm
          have ih := (stk_of_shape D r _ _ m h hm (by omega) (pops_pos _)).pops
          obtain ⟨l1, l2, rfl, h1, h2⟩ := ih
          obtain ⟨l3, l4, rfl, h3, h4⟩ := h2
          obtain ⟨b, o, hko⟩ := h1.kids (a.tag.toNat == 49) []
          refine ⟨a :: l1 ++ l3, l4, by simp, ⟨a :: l1, l3, wrap a.tag b, o, rfl, ?_, h3⟩, h4⟩
          have e1 : D - (rest.length + 1) = D - ((n :: rest).length + 1) + 1 := by simp only [List.length_cons]; omega
          rw [e1]
          exact El.node hra hlf hko
        · rw [hlf, if_pos rfl] at h
          have := pops_len (n :: rest)
          simp only [List.length_cons] at this
          have ih := (stk_of_shape D r _ _ m h hm (by omega) (pops_pos _)).pops
          obtain ⟨l1, l2, rfl, h1, h2⟩ := ih
          exact ⟨a :: l1, l2, rfl, ⟨[a], l1, _, false, rfl, El.one hra hlf, h1⟩, h2⟩
theorem el_of_shape {D : Nat} {l : List Node} {m : Nat} (hn : l ≠ []) (h : shape true l [] 0 = some (m, [])) (hm : m ≤ D) : ∃ b o, El D l b o := by
  cases l with
  | nil => exact absurd rfl hn
  | cons a r =>
    unfold shape at h
    by_cases hc : (!true && ([] : List Nat).isEmpty || !right a) = true
    · rw [if_pos hc] at h; cases h
    · rw [if_neg hc] at h
      have hra : right a = true := by simpa using hc
      cases hlf : leaf a
      · rw [hlf, if_neg (by simp)] at h
        simp only [dec] at h
        have hmm := shape_most _ _ _ _ _ _ h
        have := pops_len [count a]
        simp only [List.length_cons, List.length_nil] at this hmm
        have ih := (stk_of_shape D r _ _ m h hm (by omega) (pops_pos _)).pops
        obtain ⟨l1, l2, rfl, h1, rfl⟩ := ih
        obtain ⟨b, o, hko⟩ := h1.kids (a.tag.toNat == 49) []
        rw [List.append_nil]
        refine ⟨wrap a.tag b, o, ?_⟩
        have e1 : D = D - (([] : List Nat).length + 1) + 1 := by simp only [List.length_nil]; omega
        rw [e1]
        exact El.node hra hlf hko
      · rw [hlf, if_pos rfl] at h
        simp only [dec, pops] at h
        cases r with
        | nil => exact ⟨_, false, El.one hra hlf⟩
        | cons b t =>
          unfold shape at h
          rw [if_pos (by simp)] at h
          cases h

/-! From elements to the stack -/
theorem shape_kids (d : Nat) (hR : ∀ x b o, El d x b o → ∀ r c rest most, ∃ m1, shape false (x ++ r) ((c + 1) :: rest) most = shape false r (pops (c :: rest)) m1 ∧ m1 ≤ max most (rest.length + 1 + d)) (set : Bool) :
    ∀ (n : Nat) (last : Bytes) (l : List Node) (b : Bytes) (o : Bool), Kids (El d) set n last l b o → ∀ r rest most, ∃ m1, shape false (l ++ r) (pops (n :: rest)) most = shape false r (pops rest) m1 ∧ m1 ≤ max most (rest.length + 1 + d) := by
  intro n
  induction n with
  | zero =>
    intro last l b o h r rest most
    obtain ⟨rfl, _⟩ := h
    exact ⟨most, rfl, by omega⟩
  | succ n ih =>
    intro last l b o ⟨x, t, bx, br, o1, o2, e, _, h1, h2, _⟩ r rest most
    subst e
    obtain ⟨m1, e1, l1⟩ := hR x bx o1 h1 (t ++ r) n rest most
    obtain ⟨m2, e2, l2⟩ := ih _ _ _ _ h2 r rest m1
    refine ⟨m2, ?_, by omega⟩
    rw [List.append_assoc]
    have hp : pops ((n + 1) :: rest) = (n + 1) :: rest := rfl
    rw [hp, e1, e2]
theorem shape_el : ∀ (d : Nat) (x : List Node) (b : Bytes) (o : Bool), El d x b o → ∀ r c rest most, ∃ m1, shape false (x ++ r) ((c + 1) :: rest) most = shape false r (pops (c :: rest)) m1 ∧ m1 ≤ max most (rest.length + 1 + d) := by
  have one : ∀ (d : Nat) (a : Node), right a = true → leaf a = true → ∀ r c rest most, ∃ m1, shape false ([a] ++ r) ((c + 1) :: rest) most = shape false r (pops (c :: rest)) m1 ∧ m1 ≤ max most (rest.length + 1 + d) := by
    intro d a h1 h2 r c rest most
    refine ⟨most, ?_, by omega⟩
    show shape false (a :: r) ((c + 1) :: rest) most = _
    rw [shape, if_neg (by simp [h1]), if_pos h2]
    rfl
  intro d
  induction d with
  | zero =>
    intro x b o h
    obtain ⟨a, rfl, h1, h2, _⟩ := h
    exact one 0 a h1 h2
  | succ d ih =>
    intro x b o h
    rcases h with ⟨a, rfl, h1, h2, _⟩ | ⟨a, t, br, rfl, h1, h2, h3, _⟩
    · exact one (d + 1) a h1 h2
    · intro r c rest most
      obtain ⟨m1, e1, l1⟩ := shape_kids d ih (a.tag.toNat == 49) (count a) [] t br o h3 r (c :: rest) (max most (((c + 1) :: rest).length + 1))
      refine ⟨m1, ?_, by simp only [List.length_cons] at l1; omega⟩
      show shape false (a :: (t ++ r)) ((c + 1) :: rest) most = _
      rw [shape, if_neg (by simp [h1]), if_neg (by rw [h2]; simp)]
      exact e1
theorem shape_of_el {d : Nat} {l : List Node} {b : Bytes} {o : Bool} (h : El d l b o) : ∃ m, shape true l [] 0 = some (m, []) ∧ m ≤ d ∧ l ≠ [] := by
  have one : ∀ (a : Node), right a = true → leaf a = true → shape true [a] [] 0 = some (0, []) := by
    intro a h1 h2
    unfold shape
    rw [if_neg (by simp [h1]), if_pos h2]
    rfl
  cases d with
  | zero =>
    obtain ⟨a, rfl, h1, h2, _⟩ := h
    exact ⟨0, one a h1 h2, Nat.le_refl _, by simp⟩
  | succ d =>
    rcases h with ⟨a, rfl, h1, h2, _⟩ | ⟨a, t, br, rfl, h1, h2, h3, _⟩
    · exact ⟨0, one a h1 h2, Nat.zero_le _, by simp⟩
    · obtain ⟨m1, e1, l1⟩ := shape_kids d (shape_el d) (a.tag.toNat == 49) (count a) [] t br o h3 [] [] (max 0 (([] : List Nat).length + 1))
      refine ⟨m1, ?_, by simp only [List.length_nil] at l1; omega, by simp⟩
      rw [shape, if_neg (by simp [h1]), if_neg (by rw [h2]; simp)]
      rw [List.append_nil] at e1
      exact e1

/-! The two counts agree -/
theorem dec_len (l : List Nat) : (dec l).length = l.length := by cases l <;> rfl
theorem dec_empty (l : List Nat) : (dec l).isEmpty = l.isEmpty := by cases l <;> rfl
theorem shape_empty {l : List Node} {most : Nat} (r : Nat × List Nat) (h : shape false l [] most = some r) : l = [] := by
  cases l with
  | nil => rfl
  | cons a t => unfold shape at h; rw [if_pos (by simp)] at h; cases h
theorem shape_right : ∀ (l : List Node) (f : Bool) (left : List Nat) (most : Nat) (r : Nat × List Nat), shape f l left most = some r → ∀ a ∈ l, right a = true
  | [], _, _, _, _, _ => fun _ h => by cases h
  | a :: t, f, left, most, r, h => by
    unfold shape at h
    split at h
    · cases h
    · rename_i hc
      have hra : right a = true := by
        simp only [Bool.or_eq_true, not_or, Bool.not_eq_true', Bool.not_eq_false] at hc
        exact hc.2
      intro b hb
      rcases List.mem_cons.1 hb with rfl | hb
      · exact hra
      · split at h
        · exact shape_right t _ _ _ _ h b hb
        · exact shape_right t _ _ _ _ h b hb
theorem right_kids {a : Node} (h : right a = true) : -1 ≤ a.kids := by
  unfold right at h
  simp only [Bool.and_eq_true, decide_eq_true_eq] at h
  exact h.1.1.2
theorem behind_of_shape : ∀ (l : List Node) (f : Bool) (left : List Nat) (most m i : Nat), shape f l left most = some (m, []) → l ≠ [] → left.length ≤ most → behind l left most i = (some (i + l.length), m)
  | [], _, _, _, _, _, _, hn, _ => absurd rfl hn
  | a :: r, f, left, most, m, i, h, _, hlm => by
    have hk := right_kids (shape_right _ _ _ _ _ h a (List.mem_cons_self ..))
    unfold shape at h
    unfold behind
    split at h
    · cases h
    · rw [if_neg (by omega)]
      cases hlf : leaf a
      · rw [hlf, if_neg (by simp)] at h
        simp only [Bool.false_eq_true, if_false, List.length_cons, dec_len]
        cases hp : pops (count a :: dec left) with
        | nil =>
          rw [hp] at h
          have hr := shape_empty _ h
          subst hr
          rw [if_pos (by rfl)]
          unfold shape at h
          simp only [Option.some.injEq, Prod.mk.injEq] at h
          rw [← h.1]
          rfl
        | cons c t =>
          rw [hp] at h
          rw [if_neg (by simp)]
          have hr : r ≠ [] := by
            rintro rfl
            unfold shape at h
            simp at h
          have hlen := pops_len (count a :: dec left)
          rw [hp] at hlen
          simp only [List.length_cons, dec_len] at hlen
          rw [behind_of_shape r false _ _ m (i + 1) h hr (by simp only [List.length_cons]; omega)]
          rw [show i + 1 + r.length = i + (r.length + 1) by omega]
      · rw [hlf, if_pos rfl] at h
        simp only [if_true, dec_len]
        have hmx : max most left.length = most := by omega
        rw [hmx]
        cases hp : pops (dec left) with
        | nil =>
          rw [hp] at h
          have hr := shape_empty _ h
          subst hr
          rw [if_pos (by rfl)]
          unfold shape at h
          simp only [Option.some.injEq, Prod.mk.injEq] at h
          rw [← h.1]
          rfl
        | cons c t =>
          rw [hp] at h
          rw [if_neg (by simp)]
          have hr : r ≠ [] := by
            rintro rfl
            unfold shape at h
            simp at h
          have hlen := pops_len (dec left)
          rw [hp, dec_len] at hlen
          rw [behind_of_shape r false _ _ m (i + 1) h hr (by omega)]
          rw [show i + 1 + r.length = i + (r.length + 1) by omega, List.length_cons]
theorem behind_le : ∀ (l : List Node) (left : List Nat) (most i e m : Nat), behind l left most i = (some e, m) → i < e ∧ e ≤ i + l.length
  | [], _, _, _, _, _, h => by unfold behind at h; simp at h
  | a :: r, left, most, i, e, m, h => by
    rw [behind] at h
    split at h
    · simp at h
    · dsimp only at h
      generalize (if leaf a = true then dec left else count a :: dec left) = L at h
      split at h
      · simp only [Prod.mk.injEq, Option.some.injEq] at h
        simp only [List.length_cons]; omega
      · have := behind_le r _ _ _ _ _ h
        simp only [List.length_cons]; omega
theorem shape_of_behind : ∀ (l : List Node) (f : Bool) (left : List Nat) (most m i : Nat), behind l left most i = (some (i + l.length), m) → (∀ a ∈ l, right a = true) → (f = true ∨ left ≠ []) → left.length ≤ most → shape f l left most = some (m, [])
  | [], _, _, _, _, _, h, _, _, _ => by unfold behind at h; simp at h
  | a :: r, f, left, most, m, i, h, hra, hf, hlm => by
    unfold behind at h
    unfold shape
    have ha := hra a (by simp)
    have hrr : ∀ b ∈ r, right b = true := fun b hb => hra b (by simp [hb])
    have hcond : ¬ ((!f && left.isEmpty || !right a) = true) := by
      rw [ha]
      rcases hf with rfl | hf
      · simp
      · simp [hf]
    rw [if_neg hcond]
    split at h
    · simp at h
    · simp only at h
      cases hlf : leaf a
      · rw [hlf] at h
        simp only [Bool.false_eq_true, if_false, List.length_cons, dec_len] at h ⊢
        cases hp : pops (count a :: dec left) with
        | nil =>
          rw [hp] at h
          rw [if_pos (by rfl)] at h
          simp only [Prod.mk.injEq, Option.some.injEq] at h
          have hr : r = [] := List.length_eq_zero_iff.1 (by omega)
          subst hr
          rw [← h.2]
          rfl
        | cons c t =>
          rw [hp] at h
          rw [if_neg (by simp)] at h
          have hlen := pops_len (count a :: dec left)
          rw [hp] at hlen
          simp only [List.length_cons, dec_len] at hlen
          exact shape_of_behind r false _ _ m (i + 1) (by rw [show i + 1 + r.length = i + (r.length + 1) by omega]; exact h) hrr (.inr (by simp)) (by simp only [List.length_cons]; omega)
      · rw [hlf] at h
        simp only [if_true, dec_len, List.length_cons] at h ⊢
        have hmx : max most left.length = most := by omega
        rw [hmx] at h
        cases hp : pops (dec left) with
        | nil =>
          rw [hp] at h
          rw [if_pos (by rfl)] at h
          simp only [Prod.mk.injEq, Option.some.injEq] at h
          have hr : r = [] := List.length_eq_zero_iff.1 (by omega)
          subst hr
          rw [← h.2]
          rfl
        | cons c t =>
          rw [hp] at h
          rw [if_neg (by simp)] at h
          have hlen := pops_len (dec left)
          rw [hp, dec_len] at hlen
          exact shape_of_behind r false _ _ m (i + 1) (by rw [show i + 1 + r.length = i + (r.length + 1) by omega]; exact h) hrr (.inr (by simp)) (by omega)
end Go.Px.E5

/-! What is told is read: the bytes of one right element are read back, or refused when a set is out of order (plain law, layer 15). No program is named here. -/
namespace Go.Px.E5
open R5 (St bump inner tagE)
theorem drop_cons {s t : Bytes} {p : Nat} {c : UInt8} (h : s.drop p = c :: t) : p < s.length ∧ s.getD p 0 = c ∧ s.drop (p + 1) = t := by
  have hp : p < s.length := by
    by_cases hp : p < s.length
    · exact hp
    · rw [List.drop_eq_nil_of_le (by omega)] at h; cases h
  rw [List.drop_eq_getElem_cons hp, List.cons.injEq] at h
  refine ⟨hp, ?_, h.2⟩
  rw [List.getD_eq_getElem?_getD, List.getElem?_eq_getElem hp]
  exact h.1
theorem drop_app {s a t : Bytes} {p : Nat} (h : s.drop p = a ++ t) : s.drop (p + a.length) = t := by
  rw [← List.drop_drop, h, List.drop_left]
theorem drop_len {s a t : Bytes} {p : Nat} (h : s.drop p = a ++ t) (hp : p ≤ s.length) : p + a.length ≤ s.length := by
  have := congrArg List.length h
  rw [List.length_drop, List.length_append] at this
  omega
theorem drop_part {s a t : Bytes} {p : Nat} (h : s.drop p = a ++ t) : (s.take (p + a.length)).drop p = a := by
  rw [List.drop_take, h, Nat.add_sub_cancel_left, List.take_left]

/-! Lengths -/
def val : Bytes → Nat → Nat
  | [], a => a
  | c :: r, a => val r (256 * a + c.toNat)
theorem toNat_small {n : Nat} (h : n < 256) : (UInt8.ofNat n).toNat = n := by
  rw [UInt8.toNat_ofNat']
  exact Nat.mod_eq_of_lt h
theorem beN_zero (m : Nat) (s : Bytes) : beN m 0 s = s := by
  cases m with
  | zero => rfl
  | succ m => unfold beN; rw [if_pos rfl]
theorem beN_val : ∀ (m n : Nat) (s : Bytes), n < 256 ^ m → val (beN m n s) 0 = val s n
  | 0, n, s, h => by
    have : n = 0 := by simpa using h
    rw [this]; rfl
  | m + 1, n, s, h => by
    unfold beN
    by_cases hn : n = 0
    · rw [if_pos hn, hn]
    · rw [if_neg hn, beN_val m (n / 256) _ (by rw [Nat.pow_succ] at h; omega)]
      show val s (256 * (n / 256) + (UInt8.ofNat (n % 256)).toNat) = val s n
      rw [toNat_small (by omega), show 256 * (n / 256) + n % 256 = n by omega]
theorem beN_head : ∀ (m n : Nat) (s : Bytes), n < 256 ^ m → n ≠ 0 → ∃ c r, beN m n s = c :: r ∧ c.toNat ≠ 0
  | 0, n, s, h, hn => absurd (by simpa using h) hn
  | m + 1, n, s, h, hn => by
    unfold beN
    rw [if_neg hn]
    by_cases hd : n / 256 = 0
    · rw [hd, beN_zero]
      exact ⟨_, s, rfl, by rw [toNat_small (by omega)]; omega⟩
    · exact beN_head m (n / 256) _ (by rw [Nat.pow_succ] at h; omega) hd
theorem beN_len : ∀ (m n k : Nat) (s : Bytes), n < 256 ^ k → (beN m n s).length ≤ s.length + k
  | 0, n, k, s, _ => Nat.le_add_right _ _
  | m + 1, n, k, s, h => by
    unfold beN
    by_cases hn : n = 0
    · rw [if_pos hn]; exact Nat.le_add_right _ _
    · rw [if_neg hn]
      cases k with
      | zero => exact absurd (by simpa using h) hn
      | succ k =>
        have := beN_len m (n / 256) k (UInt8.ofNat (n % 256) :: s) (by rw [Nat.pow_succ] at h; omega)
        simp only [List.length_cons] at this
        omega
theorem want_reads {s : Bytes} {lim : Lim} {x : St} {p : Nat} (h1 : p < s.length) (h2 : (p : Int) < lim.b) (ht : x.taken ≤ p) : R5.want s lim x p = (true, { x with taken := p + 1 }) := by
  unfold R5.want
  rw [if_pos ⟨h1, h2⟩]
  unfold R5.take
  rw [Nat.max_eq_right (by omega)]
theorem lenN_reads (s : Bytes) (lim : Lim) : ∀ (l : Bytes) (x : St) (p : Nat) (first : Bool) (a : Nat) (t : Bytes), s.drop p = l ++ t → ((p + l.length : Nat) : Int) ≤ lim.b → x.taken = p → (first = true → ∀ c r, l = c :: r → c.toNat ≠ 0) →
    R5.lenN s lim l.length x p first a = (some (val l a), { x with taken := p + l.length })
  | [], x, p, first, a, t, _, _, ht, _ => by
    show (some a, x) = _
    rw [List.length_nil, Nat.add_zero, ← ht]
    rfl
  | c :: r, x, p, first, a, t, h, hb, ht, hf => by
    obtain ⟨h1, h2, h3⟩ := drop_cons h
    simp only [List.length_cons] at hb
    show R5.lenN s lim (r.length + 1) x p first a = _
    unfold R5.lenN
    rw [want_reads h1 (by omega) (Nat.le_of_eq ht)]
    simp only
    have hz : ¬ (first && (s.getD p 0).toNat == 0) = true := by
      rw [h2]
      intro hh
      simp only [Bool.and_eq_true, beq_iff_eq] at hh
      exact hf hh.1 c r rfl hh.2
    rw [if_neg hz, lenN_reads s lim r { x with taken := p + 1 } (p + 1) false _ t h3 (by omega) rfl (fun e => by cases e), h2]
    show (some (val r (256 * a + c.toNat)), { x with taken := p + 1 + r.length }) = _
    rw [List.length_cons, show p + 1 + r.length = p + (r.length + 1) by omega]
    rfl
theorem lenB_pos (n : Nat) : 1 ≤ (lenB n).length := by
  unfold lenB
  split
  · exact Nat.le_refl _
  · simp
theorem length_reads {s t : Bytes} {lim : Lim} {x : St} {p n : Nat} (hn : n < 4294967296) (h : s.drop p = lenB n ++ t) (hb : ((p + (lenB n).length : Nat) : Int) ≤ lim.b) (ht : x.taken = p) :
    R5.length s lim x p = (some (n, p + (lenB n).length), { x with taken := p + (lenB n).length }) := by
  unfold R5.length
  unfold lenB at h hb ⊢
  by_cases h8 : n < 128
  · rw [if_pos h8] at h hb ⊢
    obtain ⟨h1, h2, _⟩ := drop_cons h
    simp only [List.length_singleton] at hb ⊢
    rw [want_reads h1 (by omega) (Nat.le_of_eq ht)]
    simp only
    rw [h2, toNat_small (by omega), if_pos h8]
  · rw [if_neg h8] at h hb ⊢
    obtain ⟨c, r, hc, hc0⟩ := beN_head 8 n [] (by omega) (by omega)
    have hl : (beN 8 n []).length ≤ 0 + 4 := beN_len 8 n 4 [] (by omega)
    have hl1 : 1 ≤ (beN 8 n []).length := by rw [hc]; simp
    have hv : val (beN 8 n []) 0 = n := beN_val 8 n [] (by omega)
    generalize beN 8 n [] = L at h hb hc hl hl1 hv ⊢
    obtain ⟨h1, h2, h3⟩ := drop_cons h
    simp only [List.length_cons] at hb ⊢
    rw [want_reads h1 (by omega) (Nat.le_of_eq ht)]
    simp only
    have hby : (s.getD p 0).toNat = 128 + L.length := by rw [h2, toNat_small (by omega)]
    obtain ⟨w, hw⟩ : ∃ w, w = (s.getD p 0).toNat := ⟨_, rfl⟩
    rw [← hw] at hby ⊢
    have hm : w % 128 = L.length := by omega
    rw [if_neg (by omega), if_neg (by omega), hm, lenN_reads s lim L { x with taken := p + 1 } (p + 1) true 0 t h3 (by omega) rfl (fun _ c' r' e => by rw [hc] at e; simp only [List.cons.injEq] at e; rw [← e.1]; exact hc0)]
    simp only
    rw [hv, if_neg h8, show p + 1 + L.length = p + (L.length + 1) by omega]
theorem head_reads {s t : Bytes} {lim : Lim} {x : St} {p n : Nat} {room : Bool} {c : UInt8} {e : Option Nat} (hn : n < 4294967296) (h : s.drop p = c :: (lenB n ++ t)) (hb : ((p + 1 + (lenB n).length : Nat) : Int) ≤ lim.b) (ht : x.taken = p)
    (ho : (x.out.length : Int) < lim.i) (hg : tagE c.toNat = 0) (hr : inner c.toNat = true → room = true) (he : ∀ v, e = some v → p + 1 + (lenB n).length + n ≤ v) :
    R5.head s lim room x p e = (some (n, p + 1 + (lenB n).length), { x with taken := p + 1 + (lenB n).length }) := by
  obtain ⟨h1, h2, h3⟩ := drop_cons h
  unfold R5.head
  rw [want_reads h1 (by omega) (Nat.le_of_eq ht)]
  simp only
  have hrm : ¬ (inner c.toNat && !room) = true := by
    intro hh
    simp only [Bool.and_eq_true, Bool.not_eq_true'] at hh
    rw [hr hh.1] at hh
    exact absurd hh.2 (by decide)
  rw [h2, if_neg (by omega), if_neg (by rw [hg]; decide), if_neg hrm, length_reads hn h3 hb rfl]
  simp only
  have hen : ¬ (e.any (fun v => decide (v < p + 1 + (lenB n).length + n))) = true := by
    cases e with
    | none => simp
    | some v => simp only [Option.any_some, decide_eq_true_eq]; have := he v rfl; omega
  rw [if_neg hen]

/-! Elements -/
def Reads (x : St) (p : Nat) (l : List Node) (b : Bytes) (o : Bool) (res : Option Nat × St) : Prop :=
  match o with
  | false => res = (some (p + b.length), { x with out := x.out ++ l, taken := p + b.length })
  | true => ∃ y, res = (none, y) ∧ y.err = 9
def bumpN (l : List Node) (i : Nat) : Nat → List Node
  | 0 => l
  | n + 1 => bumpN (bump l i) i n
theorem bump_last : ∀ (l : List Node) (a : Node), bump (l ++ [a]) l.length = l ++ [{ a with kids := a.kids + 1 }]
  | [], a => rfl
  | b :: l, a => by
    have := bump_last l a
    unfold bump at *
    simp only [List.cons_append, List.length_cons, List.modify_succ_cons, this]
theorem bumpN_last (l : List Node) : ∀ (n : Nat) (a : Node), bumpN (l ++ [a]) l.length n = l ++ [{ a with kids := a.kids + n }]
  | 0, a => by
    show l ++ [a] = _
    rw [show a.kids + ((0 : Nat) : Int) = a.kids by omega]
  | n + 1, a => by
    unfold bumpN
    rw [bump_last, bumpN_last l n]
    simp only
    rw [show a.kids + 1 + (n : Int) = a.kids + ((n + 1 : Nat) : Int) by omega]
theorem bumpN_app (i : Nat) : ∀ (k : Nat) (u v : List Node), i < u.length → bumpN (u ++ v) i k = bumpN u i k ++ v
  | 0, _, _, _ => rfl
  | k + 1, u, v, hu => by
    unfold bumpN
    rw [D5.bump_app _ _ _ hu, bumpN_app i k _ _ (by rw [D5.bump_len]; exact hu)]
/-- What reads elements of one depth. -/
def ElR (s : Bytes) (lim : Lim) (d : Nat) : Prop :=
  ∀ (x : St) (p : Nat) (l : List Node) (b : Bytes) (o : Bool) (t : Bytes) (e : Option Nat), El d l b o → x.taken = p → p ≤ s.length → s.drop p = b ++ t → ((x.out.length + l.length : Nat) : Int) ≤ lim.i → ((p + b.length : Nat) : Int) ≤ lim.b →
    (∀ v, e = some v → p + b.length ≤ v) → Reads x p l b o (R5.elem s lim d x p e)
theorem wrap_len (t : UInt8) (b : Bytes) : (wrap t b).length = 1 + (lenB b.length).length + b.length := by
  unfold wrap
  rw [List.length_cons, List.length_append]
  omega
theorem El.bytes {d : Nat} {l : List Node} {b : Bytes} {o : Bool} (h : El d l b o) : 2 ≤ b.length := by
  have w : ∀ t (b : Bytes), 2 ≤ (wrap t b).length := fun t b => by have := lenB_pos b.length; rw [wrap_len]; omega
  cases d with
  | zero => obtain ⟨a, _, _, _, rfl, _⟩ := h; exact w _ _
  | succ d =>
    rcases h with ⟨a, _, _, _, rfl, _⟩ | ⟨a, r, br, _, _, _, _, rfl⟩
    · exact w _ _
    · exact w _ _
theorem inside_reads {s : Bytes} {lim : Lim} {d : Nat} (hR : ElR s lim d) (tg me : Nat) (e : Nat) :
    ∀ (n : Nat) (last : Bytes) (l : List Node) (b : Bytes) (o : Bool) (x : St) (p m : Nat) (t : Bytes), Kids (El d) (tg == 49) n last l b o → x.taken = p → p ≤ s.length → s.drop p = b ++ t → ((x.out.length + l.length : Nat) : Int) ≤ lim.i → ((p + b.length : Nat) : Int) ≤ lim.b →
      e = p + b.length → e - p ≤ m → me < x.out.length →
      (match o with
        | false => R5.insideN s (fun x p => R5.elem s lim d x p (some e)) tg me e m x p last = (some e, { x with out := bumpN x.out me n ++ l, taken := e })
        | true => ∃ y, R5.insideN s (fun x p => R5.elem s lim d x p (some e)) tg me e m x p last = (none, y) ∧ y.err = 9) := by
  intro n
  induction n with
  | zero =>
    intro last l b o x p m t h ht hp hs hi hb he hm hme
    obtain ⟨rfl, rfl, rfl⟩ := h
    simp only [List.length_nil, Nat.add_zero] at he
    subst he
    have hx : ({ x with out := bumpN x.out me 0 ++ [], taken := e } : St) = x := by
      rw [← ht]
      show ({ x with out := x.out ++ [], taken := x.taken } : St) = x
      rw [List.append_nil]
    show R5.insideN s _ tg me e m x e last = _
    rw [hx]
    cases m with
    | zero => rfl
    | succ m => unfold R5.insideN; rw [if_neg (Nat.lt_irrefl e)]
  | succ n ih =>
    intro last l b o x p m t h ht hp hs hi hb he hm hme
    obtain ⟨lx, lr, bx, br, o1, o2, rfl, rfl, h1, h2, rfl⟩ := h
    simp only [List.length_append] at hi hb he
    have hbx := h1.bytes
    rw [List.append_assoc] at hs
    have hq := hR x p lx bx o1 (br ++ t) (some e) h1 ht hp hs (by omega) (by omega) (fun v hv => by simp only [Option.some.injEq] at hv; omega)
    cases m with
    | zero => omega
    | succ m =>
      unfold R5.insideN
      rw [if_pos (by omega)]
      cases o1 with
      | true =>
        obtain ⟨y, hy, hy9⟩ := hq
        simp only [Bool.true_or]
        rw [hy]
        exact ⟨y, rfl, hy9⟩
      | false =>
        have hq' : R5.elem s lim d x p (some e) = (some (p + bx.length), { x with out := x.out ++ lx, taken := p + bx.length }) := hq
        rw [hq']
        simp only [Bool.false_or]
        rw [drop_part hs]
        by_cases hk : (tg == 49 && Op.bytesLess bx last) = true
        · rw [if_pos hk, hk]
          exact ⟨_, rfl, rfl⟩
        · rw [if_neg hk]
          simp only [Bool.not_eq_true] at hk
          rw [hk, Bool.false_or]
          have hbu : bump (x.out ++ lx) me = bump x.out me ++ lx := D5.bump_app _ _ _ hme
          have := ih bx lr br o2 { x with out := bump (x.out ++ lx) me, taken := p + bx.length } (p + bx.length) m t h2 rfl (drop_len hs hp) (drop_app hs)
            (by simp only [D5.bump_len, List.length_append]; omega) (by omega) (by omega) (by omega) (by simp only [D5.bump_len, List.length_append]; omega)
          cases o2 with
          | true => exact this
          | false =>
            refine this.trans ?_
            simp only
            rw [hbu, bumpN_app me n _ _ (by rw [D5.bump_len]; exact hme), List.append_assoc]
            rfl
theorem leaf_inner {a : Node} (h : right a = true) : inner a.tag.toNat = !leaf a ∧ tagE a.tag.toNat = 0 ∧ (leaf a = true → R5.body a.tag.toNat a.body = true ∧ a.kids = -1) ∧ (leaf a = false → a.body = [] ∧ a.kids = (count a : Nat)) := by
  unfold right at h
  simp only [Bool.and_eq_true, decide_eq_true_eq, beq_iff_eq] at h
  obtain ⟨⟨⟨h1, h2⟩, h3⟩, h4⟩ := h
  refine ⟨h3, h1, fun hl => ?_, fun hl => ?_⟩
  · rw [if_pos hl] at h4
    unfold leaf at hl
    simp only [decide_eq_true_eq] at hl
    exact ⟨h4, by omega⟩
  · rw [hl, if_neg (by simp)] at h4
    unfold leaf at hl
    simp only [decide_eq_false_iff_not] at hl
    exact ⟨by simpa using h4, by unfold count; omega⟩
theorem leaf_reads {s t : Bytes} {lim : Lim} {x : St} {p : Nat} {a : Node} {e : Option Nat} (d : Nat) (hL : lim.b ≤ 262144) (h1 : right a = true) (h2 : leaf a = true) (ht : x.taken = p) (hp : p ≤ s.length) (hs : s.drop p = wrap a.tag a.body ++ t) (hi : ((x.out.length + 1 : Nat) : Int) ≤ lim.i)
    (hb : ((p + (wrap a.tag a.body).length : Nat) : Int) ≤ lim.b) (he : ∀ v, e = some v → p + (wrap a.tag a.body).length ≤ v) : Reads x p [a] (wrap a.tag a.body) false (R5.elem s lim d x p e) := by
  obtain ⟨g1, g2, g3, _⟩ := leaf_inner h1
  obtain ⟨g4, g5⟩ := g3 h2
  have hin : inner a.tag.toNat = false := by rw [g1, h2]; rfl
  have hlen := drop_len hs hp
  have hpart := drop_part hs
  rw [wrap_len] at hb he hlen
  have hs1 : s.drop p = a.tag :: (lenB a.body.length ++ (a.body ++ t)) := by rw [hs]; unfold wrap; rw [List.cons_append, List.append_assoc]
  obtain ⟨k1, k2, k3⟩ := drop_cons hs1
  have k4 := drop_app k3
  have hh := fun room => head_reads (room := room) (x := x) (lim := lim) (e := e) (show a.body.length < 4294967296 by omega) hs1 (by omega) ht (by omega) g2 (fun h => by rw [hin] at h; cases h) (fun v hv => by have := he v hv; omega)
  have hlf : R5.leaf s lim { x with taken := p + 1 + (lenB a.body.length).length } a.tag p (p + 1 + (lenB a.body.length).length) a.body.length = (some (p + (wrap a.tag a.body).length), { x with out := x.out ++ [a], taken := p + (wrap a.tag a.body).length }) := by
    have hw : (if a.body.length = 0 then (true, ({ x with taken := p + 1 + (lenB a.body.length).length } : St)) else R5.want s lim { x with taken := p + 1 + (lenB a.body.length).length } (p + 1 + (lenB a.body.length).length + a.body.length - 1)) = (true, { x with taken := p + (wrap a.tag a.body).length }) := by
      rw [wrap_len]
      by_cases h0 : a.body.length = 0
      · rw [if_pos h0, show p + (1 + (lenB a.body.length).length + a.body.length) = p + 1 + (lenB a.body.length).length by omega]
      · rw [if_neg h0, want_reads (by omega) (by omega) (by show p + 1 + (lenB a.body.length).length ≤ _; omega)]
        simp only
        rw [show p + 1 + (lenB a.body.length).length + a.body.length - 1 + 1 = p + (1 + (lenB a.body.length).length + a.body.length) by omega]
    unfold R5.leaf
    rw [hw]
    simp only
    rw [drop_part k4, if_pos g4, wrap_len, ← g5, show p + 1 + (lenB a.body.length).length + a.body.length = p + (1 + (lenB a.body.length).length + a.body.length) by omega]
  show _ = _
  cases d with
  | zero =>
    unfold R5.elem
    rw [hh false]
    simp only
    rw [k2, hlf]
  | succ d =>
    unfold R5.elem
    rw [hh true]
    simp only
    rw [k2, if_neg (by rw [hin]; simp), hlf]
theorem elem_reads (s : Bytes) (lim : Lim) (hL : lim.b ≤ 262144) : ∀ d, ElR s lim d := by
  intro d
  induction d with
  | zero =>
    intro x p l b o t e h ht hp hs hi hb he
    obtain ⟨a, rfl, h1, h2, rfl, rfl⟩ := h
    exact leaf_reads 0 hL h1 h2 ht hp hs hi hb he
  | succ d ih =>
    intro x p l b o t e h ht hp hs hi hb he
    rcases h with ⟨a, rfl, h1, h2, rfl, rfl⟩ | ⟨a, r, br, rfl, h1, h2, h3, rfl⟩
    · exact leaf_reads (d + 1) hL h1 h2 ht hp hs hi hb he
    · obtain ⟨g1, g2, _, g3⟩ := leaf_inner h1
      obtain ⟨g4, g5⟩ := g3 h2
      have hin : inner a.tag.toNat = true := by rw [g1, h2]; rfl
      have hlen := drop_len hs hp
      rw [wrap_len] at hb he hlen
      have hs1 : s.drop p = a.tag :: (lenB br.length ++ (br ++ t)) := by rw [hs]; unfold wrap; rw [List.cons_append, List.append_assoc]
      obtain ⟨k1, k2, k3⟩ := drop_cons hs1
      have k4 := drop_app k3
      simp only [List.length_cons] at hi
      have hh := head_reads (room := true) (x := x) (lim := lim) (e := e) (show br.length < 4294967296 by omega) hs1 (by omega) ht (by omega) g2 (fun _ => rfl) (fun v hv => by have := he v hv; omega)
      unfold R5.elem
      rw [hh]
      simp only
      rw [k2, if_pos hin]
      unfold R5.inside
      have hi2 := inside_reads ih a.tag.toNat x.out.length (p + 1 + (lenB br.length).length + br.length) (count a) [] r br o { x with out := x.out ++ [⟨a.tag, 0, []⟩], taken := p + 1 + (lenB br.length).length, frames := x.frames + 1 } (p + 1 + (lenB br.length).length)
        (p + 1 + (lenB br.length).length + br.length - (p + 1 + (lenB br.length).length)) t h3 rfl (by omega) k4 (by simp only [List.length_append, List.length_singleton]; omega) (by omega) rfl (Nat.le_refl _) (by simp only [List.length_append, List.length_singleton]; omega)
      cases o with
      | true =>
        obtain ⟨y, hy, hy9⟩ := hi2
        simp only at hy ⊢
        rw [hy]
        exact ⟨y, rfl, hy9⟩
      | false =>
        simp only at hi2 ⊢
        rw [hi2]
        show _ = _
        simp only
        have ha : (⟨a.tag, 0 + (count a : Nat), []⟩ : Node) = a := by
          rw [show (0 : Int) + (count a : Nat) = (count a : Nat) by omega, ← g5, ← g4]
        rw [bumpN_last, ha, wrap_len, List.append_assoc, show p + 1 + (lenB br.length).length + br.length = p + (1 + (lenB br.length).length + br.length) by omega]
        rfl
end Go.Px.E5

/-! What is read is told: an element that the reference reads is one right element, and its bytes are those that stand there (plain law, layer 15). No program is named here. -/
namespace Go.Px.E5
open R5 (St bump inner tagE)
open D5 (Ok)
theorem drop_take_self (s : Bytes) (p : Nat) : (s.take p).drop p = [] := List.drop_eq_nil_of_le (by rw [List.length_take]; omega)
theorem drop_take_cons {s : Bytes} {p q : Nat} (h : p < s.length) (hq : p < q) : (s.take q).drop p = s.getD p 0 :: (s.take q).drop (p + 1) := by
  rw [List.drop_eq_getElem_cons (by rw [List.length_take]; omega), List.getElem_take, List.getD_eq_getElem?_getD, List.getElem?_eq_getElem h]
  rfl
theorem take_split {s : Bytes} {p q r : Nat} (h1 : p ≤ q) (h2 : q ≤ r) : (s.take r).drop p = (s.take q).drop p ++ (s.take r).drop q := by
  have e : (s.take r).drop q = ((s.take r).drop p).drop (q - p) := by rw [List.drop_drop]; congr 1; omega
  have e2 : (s.take q).drop p = ((s.take r).drop p).take (q - p) := by
    rw [List.drop_take, List.drop_take, List.take_take]; congr 1; omega
  rw [e, e2, List.take_append_drop]
theorem part_len {s : Bytes} {p q : Nat} (h : q ≤ s.length) : ((s.take q).drop p).length = q - p := by
  rw [List.length_drop, List.length_take]
  omega
theorem val_le : ∀ (l : Bytes) (a : Nat), a ≤ val l a
  | [], a => Nat.le_refl a
  | c :: r, a => by
    have := val_le r (256 * a + c.toNat)
    show a ≤ val r (256 * a + c.toNat)
    omega
theorem val_app : ∀ (l : Bytes) (c : UInt8) (a : Nat), val (l ++ [c]) a = 256 * val l a + c.toNat
  | [], _, _ => rfl
  | d :: r, c, a => val_app r c (256 * a + d.toNat)
theorem beN_of : ∀ (m : Nat) (L s : Bytes), L.length ≤ m → (∀ c r, L = c :: r → c.toNat ≠ 0) → beN m (val L 0) s = L ++ s
  | 0, L, s, h, _ => by
    have : L = [] := List.length_eq_zero_iff.1 (by omega)
    subst this
    rfl
  | m + 1, L, s, h, hc => by
    rcases List.eq_nil_or_concat L with rfl | ⟨L', c, e⟩
    · exact beN_zero _ _
    · rw [List.concat_eq_append] at e
      subst e
      have hnz : val (L' ++ [c]) 0 ≠ 0 := by
        cases L' with
        | nil =>
          have := hc c [] rfl
          show 256 * 0 + c.toNat ≠ 0
          omega
        | cons c' r' =>
          have h1 := hc c' (r' ++ [c]) rfl
          have h2 := val_le (r' ++ [c]) (256 * 0 + c'.toNat)
          show val (r' ++ [c]) (256 * 0 + c'.toNat) ≠ 0
          omega
      have hlt : c.toNat < 256 := c.toNat_lt
      unfold beN
      rw [if_neg hnz, val_app]
      have e1 : (256 * val L' 0 + c.toNat) / 256 = val L' 0 := by omega
      have e2 : (256 * val L' 0 + c.toNat) % 256 = c.toNat := by omega
      rw [e1, e2, UInt8.ofNat_toNat, beN_of m L' (c :: s) (by rw [List.length_append, List.length_singleton] at h; omega) (fun c' r' e => hc c' (r' ++ [c]) (by rw [e]; rfl)), List.append_assoc]
      rfl
theorem lenN_sound (s : Bytes) (lim : Lim) : ∀ (m : Nat) (x y : St) (p : Nat) (first : Bool) (a v : Nat), R5.lenN s lim m x p first a = (some v, y) → x.taken = p → p ≤ s.length → (p : Int) ≤ lim.b →
    v = val ((s.take (p + m)).drop p) a ∧ (first = true → ∀ c r, (s.take (p + m)).drop p = c :: r → c.toNat ≠ 0)
  | 0, x, y, p, first, a, v, h, _, _, _ => by
    unfold R5.lenN at h
    simp only [Prod.mk.injEq, Option.some.injEq] at h
    rw [Nat.add_zero, drop_take_self]
    exact ⟨h.1.symm, fun _ c r e => by cases e⟩
  | m + 1, x, y, p, first, a, v, h, ht, hp, hb => by
    unfold R5.lenN at h
    cases hw : R5.want s lim x p with
    | mk b z =>
      rw [hw] at h
      cases b with
      | false => simp at h
      | true =>
        obtain ⟨_, k2, k3, k4⟩ := D5.want_ok hw (Nat.le_of_eq ht)
        simp only at h
        by_cases hz : (first && (s.getD p 0).toNat == 0) = true
        · rw [if_pos hz] at h; simp at h
        · rw [if_neg hz] at h
          have ih := lenN_sound s lim m z y (p + 1) false _ v h (by rw [k4]) k2 (by omega)
          rw [drop_take_cons k2 (show p < p + (m + 1) by omega), show p + (m + 1) = p + 1 + m by omega]
          refine ⟨ih.1, fun hf c r e => ?_⟩
          simp only [List.cons.injEq] at e
          rw [← e.1]
          rw [hf, Bool.true_and] at hz
          simpa using hz
theorem length_sound {s : Bytes} {lim : Lim} {x y : St} {p n q : Nat} (h : R5.length s lim x p = (some (n, q), y)) (ht : x.taken = p) : (s.take q).drop p = lenB n := by
  have hq := D5.length_eq (s := s) (lim := lim) (x := x) (p := p) ht
  rw [h] at hq
  obtain ⟨_, _, hq1, hq2, hq3, _⟩ := hq
  unfold R5.length at h
  cases hw : R5.want s lim x p with
  | mk b z =>
    rw [hw] at h
    cases b with
    | false => simp at h
    | true =>
      obtain ⟨_, k2, k3, k4⟩ := D5.want_ok hw (Nat.le_of_eq ht)
      simp only at h
      unfold lenB
      by_cases h8 : (s.getD p 0).toNat < 128
      · rw [if_pos h8] at h
        simp only [Prod.mk.injEq, Option.some.injEq] at h
        rw [← h.1.1, ← h.1.2, if_pos h8, drop_take_cons k2 (Nat.lt_succ_self p), drop_take_self, UInt8.ofNat_toNat]
      · rw [if_neg h8] at h
        obtain ⟨w, hwd⟩ : ∃ w, w = (s.getD p 0).toNat := ⟨_, rfl⟩
        rw [← hwd] at h h8
        have hw256 : w < 256 := by rw [hwd]; exact (s.getD p 0).toNat_lt
        by_cases hk : w = 128 ∨ 132 < w
        · rw [if_pos hk] at h; simp at h
        · rw [if_neg hk] at h
          cases hl : R5.lenN s lim (w % 128) z (p + 1) true 0 with
          | mk o u =>
            rw [hl] at h
            cases o with
            | none => simp at h
            | some v =>
              simp only at h
              by_cases hv : v < 128
              · rw [if_pos hv] at h; simp at h
              · rw [if_neg hv] at h
                simp only [Prod.mk.injEq, Option.some.injEq] at h
                obtain ⟨⟨rfl, rfl⟩, _⟩ := h
                obtain ⟨j1, j2⟩ := lenN_sound s lim (w % 128) z u (p + 1) true 0 v hl (by rw [k4]) k2 (by omega)
                have hL := beN_of 8 ((s.take (p + 1 + w % 128)).drop (p + 1)) [] (by rw [part_len hq1]; omega) (j2 rfl)
                rw [← j1, List.append_nil] at hL
                rw [if_neg hv, drop_take_cons k2 (by omega), hL, part_len hq1]
                have e : UInt8.ofNat (128 + (p + 1 + w % 128 - (p + 1))) = s.getD p 0 := by
                  rw [show 128 + (p + 1 + w % 128 - (p + 1)) = w by omega, hwd, UInt8.ofNat_toNat]
                rw [e]
theorem head_sound {s : Bytes} {lim : Lim} {room : Bool} {x y : St} {p n q : Nat} {e : Option Nat} (h : R5.head s lim room x p e = (some (n, q), y)) (ht : x.taken = p) : (s.take q).drop p = s.getD p 0 :: lenB n := by
  unfold R5.head at h
  cases hw : R5.want s lim x p with
  | mk b z =>
    rw [hw] at h
    cases b with
    | false => simp at h
    | true =>
      obtain ⟨_, k2, k3, k4⟩ := D5.want_ok hw (Nat.le_of_eq ht)
      simp only at h
      split at h
      · simp at h
      · split at h
        · simp at h
        · split at h
          · simp at h
          · cases hl : R5.length s lim z (p + 1) with
            | mk o u =>
              rw [hl] at h
              cases o with
              | none => simp at h
              | some v =>
                obtain ⟨n', q'⟩ := v
                simp only at h
                split at h
                · simp at h
                · simp only [Prod.mk.injEq, Option.some.injEq] at h
                  obtain ⟨⟨rfl, rfl⟩, _⟩ := h
                  have hz : z.taken = p + 1 := by rw [k4]
                  have hq := D5.length_eq (s := s) (lim := lim) (x := z) (p := p + 1) hz
                  rw [hl] at hq
                  obtain ⟨_, _, _, _, hq3, _⟩ := hq
                  rw [drop_take_cons k2 (by omega), length_sound hl hz]

theorem head_facts {s : Bytes} {lim : Lim} {room : Bool} {x y : St} {p n q : Nat} {e : Option Nat} (hok : Ok s lim x p) (h : R5.head s lim room x p e = (some (n, q), y)) :
    y = { x with taken := q } ∧ q ≤ s.length ∧ (q : Int) ≤ lim.b ∧ p + 1 < q ∧ (x.out.length : Int) < lim.i ∧ (∀ v, e = some v → q + n ≤ v) ∧ tagE (s.getD p 0).toNat = 0 ∧ (inner (s.getD p 0).toNat = true → room = true) := by
  unfold R5.head at h
  cases hw : R5.want s lim x p with
  | mk b z =>
    rw [hw] at h
    cases b with
    | false => simp at h
    | true =>
      obtain ⟨_, k2, k3, k4⟩ := D5.want_ok hw (Nat.le_of_eq hok.taken)
      have hzo : z.out = x.out := by rw [k4]
      simp only at h
      split at h
      · simp at h
      · rename_i g1
        split at h
        · simp at h
        · rename_i g2
          split at h
          · simp at h
          · rename_i g3
            have hz : z.taken = p + 1 := by rw [k4]
            have hq := D5.length_eq (s := s) (lim := lim) (x := z) (p := p + 1) hz
            cases hl : R5.length s lim z (p + 1) with
            | mk o u =>
              rw [hl] at h hq
              cases o with
              | none => simp at h
              | some v =>
                obtain ⟨n', q'⟩ := v
                simp only at h
                split at h
                · simp at h
                · rename_i g4
                  simp only [Prod.mk.injEq, Option.some.injEq] at h
                  obtain ⟨⟨rfl, rfl⟩, rfl⟩ := h
                  obtain ⟨_, j2, j3, j4, j5, _⟩ := hq
                  refine ⟨by rw [j2, k4], j3, j4, j5, by rw [hzo] at g1; omega, ?_, Decidable.not_not.1 g2, ?_⟩
                  · intro v hv
                    rw [hv] at g4
                    simp only [Option.any_some, decide_eq_true_eq] at g4
                    omega
                  · intro hi
                    rw [hi] at g3
                    simpa using g3

/-- What is read from p to q: a list behind what was there. -/
structure Snd (s : Bytes) (lim : Lim) (d : Nat) (x y : St) (p q : Nat) (e : Option Nat) (l : List Node) : Prop where
  el : El d l ((s.take q).drop p) false
  out : y.out = x.out ++ l
  lt : p < q
  ok : Ok s lim y q
  le : ∀ v, e = some v → q ≤ v
  err : y.err = x.err
  place : y.place = x.place
def ElS (s : Bytes) (lim : Lim) (d : Nat) : Prop := ∀ (x y : St) (p q : Nat) (e : Option Nat), Ok s lim x p → R5.elem s lim d x p e = (some q, y) → ∃ l, Snd s lim d x y p q e l
theorem inside_sound {s : Bytes} {lim : Lim} {d : Nat} (hR : ElS s lim d) (tg me e : Nat) :
    ∀ (m : Nat) (x y : St) (p q : Nat) (last : Bytes), Ok s lim x p → p ≤ e → e - p ≤ m → me < x.out.length → R5.insideN s (fun x p => R5.elem s lim d x p (some e)) tg me e m x p last = (some q, y) →
      q = e ∧ ∃ n l, Kids (El d) (tg == 49) n last l ((s.take e).drop p) false ∧ y.out = bumpN x.out me n ++ l ∧ Ok s lim y e ∧ y.err = x.err ∧ y.place = x.place := by
  intro m
  induction m with
  | zero =>
    intro x y p q last hok hp hm hme h
    unfold R5.insideN at h
    simp only [Prod.mk.injEq, Option.some.injEq] at h
    obtain ⟨rfl, rfl⟩ := h
    have : p = e := by omega
    subst this
    exact ⟨rfl, 0, [], ⟨rfl, drop_take_self _ _, rfl⟩, (List.append_nil _).symm, hok, rfl, rfl⟩
  | succ m ih =>
    intro x y p q last hok hp hm hme h
    unfold R5.insideN at h
    by_cases hpe : p < e
    · rw [if_pos hpe] at h
      simp only at h
      cases hr : R5.elem s lim d x p (some e) with
      | mk o y1 =>
        rw [hr] at h
        cases o with
        | none => simp at h
        | some q1 =>
          simp only at h
          obtain ⟨lx, hs⟩ := hR x y1 p q1 (some e) hok hr
          have hq1 := hs.le e rfl
          by_cases hk : (tg == 49 && Op.bytesLess ((s.take q1).drop p) last) = true
          · rw [if_pos hk] at h; simp at h
          · rw [if_neg hk] at h
            simp only [Bool.not_eq_true] at hk
            have hlt := hs.lt
            have hlen : me < y1.out.length := by rw [hs.out, List.length_append]; omega
            obtain ⟨rfl, n, l, k1, k2, k3, k4, k5⟩ := ih { y1 with out := bump y1.out me } y q1 q _ ⟨hs.ok.ps, hs.ok.pb, hs.ok.taken, by simp only [D5.bump_len]; exact hs.ok.out⟩ hq1 (by omega) (by simp only [D5.bump_len]; exact hlen) h
            refine ⟨rfl, n + 1, lx ++ l, ⟨lx, l, _, _, false, false, rfl, take_split (by omega) hq1, hs.el, k1, by rw [hk]; rfl⟩, ?_, k3, k4.trans hs.err, k5.trans hs.place⟩
            rw [k2]
            show bumpN (bump y1.out me) me n ++ l = bumpN (bump x.out me) me n ++ (lx ++ l)
            rw [hs.out, D5.bump_app _ _ _ hme, bumpN_app _ _ _ _ (by rw [D5.bump_len]; exact hme), List.append_assoc]
    · rw [if_neg hpe] at h
      simp only [Prod.mk.injEq, Option.some.injEq] at h
      obtain ⟨rfl, rfl⟩ := h
      have : p = e := by omega
      subst this
      exact ⟨rfl, 0, [], ⟨rfl, drop_take_self _ _, rfl⟩, (List.append_nil _).symm, hok, rfl, rfl⟩
theorem leaf_sound {s : Bytes} {lim : Lim} {x y z : St} {p q n r : Nat} {e : Option Nat} (d : Nat) (hy : y = { x with taken := q }) (hq1 : q ≤ s.length) (hq2 : (q : Int) ≤ lim.b) (hpq : p + 1 < q) (hlt : (x.out.length : Int) < lim.i)
    (he : ∀ v, e = some v → q + n ≤ v) (hb : (s.take q).drop p = s.getD p 0 :: lenB n) (hg : tagE (s.getD p 0).toNat = 0) (hin : inner (s.getD p 0).toNat = false) (h : R5.leaf s lim y (s.getD p 0) p q n = (some r, z)) : ∃ l, Snd s lim d x z p r e l := by
  unfold R5.leaf at h
  have key : ∀ u : St, (if n = 0 then (true, y) else R5.want s lim y (q + n - 1)) = (true, u) → u = { x with taken := q + n } ∧ q + n ≤ s.length ∧ ((q + n : Nat) : Int) ≤ lim.b := by
    intro u hu
    by_cases h0 : n = 0
    · rw [if_pos h0] at hu
      simp only [Prod.mk.injEq, true_and] at hu
      rw [← hu, hy, h0]
      exact ⟨rfl, hq1, hq2⟩
    · rw [if_neg h0] at hu
      obtain ⟨_, k2, k3, k4⟩ := D5.want_ok hu (by rw [hy]; show q ≤ _; omega)
      exact ⟨by rw [k4, hy]; show ({ x with taken := q + n - 1 + 1 } : St) = _; rw [show q + n - 1 + 1 = q + n by omega], by omega, by omega⟩
  cases hw : (if n = 0 then (true, y) else R5.want s lim y (q + n - 1)) with
  | mk b u =>
    rw [hw] at h
    cases b with
    | false => simp at h
    | true =>
      obtain ⟨k1, k2, k3⟩ := key u hw
      simp only at h
      split at h
      · rename_i hbd
        simp only [Prod.mk.injEq, Option.some.injEq] at h
        obtain ⟨rfl, rfl⟩ := h
        have hbl : ((s.take (q + n)).drop q).length = n := by rw [part_len k2]; omega
        have hwr : (s.take (q + n)).drop p = wrap (s.getD p 0) ((s.take (q + n)).drop q) := by
          rw [take_split (show p ≤ q by omega) (show q ≤ q + n by omega), hb]
          unfold wrap
          rw [hbl]
          rfl
        refine ⟨[⟨s.getD p 0, -1, (s.take (q + n)).drop q⟩], ?_, ?_, by omega, ⟨k2, k3, by rw [k1], ?_⟩, he, by rw [k1], by rw [k1]⟩
        · rw [hwr]
          refine El.one (a := ⟨s.getD p 0, -1, (s.take (q + n)).drop q⟩) ?_ rfl
          unfold right
          simp only
          rw [hg, hin, show leaf ⟨s.getD p 0, -1, (s.take (q + n)).drop q⟩ = true from rfl, if_pos rfl, hbd]
          rfl
        · simp only [k1]
        · simp only [k1, List.length_append, List.length_singleton]
          omega
      · simp at h
theorem elem_sound (s : Bytes) (lim : Lim) : ∀ d, ElS s lim d := by
  intro d
  induction d with
  | zero =>
    intro x y p q e hok h
    unfold R5.elem at h
    cases hr : R5.head s lim false x p e with
    | mk o z =>
      rw [hr] at h
      cases o with
      | none => simp at h
      | some t =>
        obtain ⟨n, q1⟩ := t
        simp only at h
        obtain ⟨h2, h3, h4, h5, h7, h8, h9, h10⟩ := head_facts hok hr
        refine leaf_sound 0 h2 h3 h4 h5 h7 h8 (head_sound hr hok.taken) h9 ?_ h
        cases hi : inner (s.getD p 0).toNat with
        | false => rfl
        | true => exact absurd (h10 hi) (by decide)
  | succ d ih =>
    intro x y p q e hok h
    unfold R5.elem at h
    cases hr : R5.head s lim true x p e with
    | mk o z =>
      rw [hr] at h
      cases o with
      | none => simp at h
      | some t =>
        obtain ⟨n, q1⟩ := t
        simp only at h
        obtain ⟨h2, h3, h4, h5, h7, h8, h9, h10⟩ := head_facts hok hr
        by_cases hin : inner (s.getD p 0).toNat = true
        · rw [if_pos hin] at h
          unfold R5.inside at h
          have hzo : z.out = x.out := by rw [h2]
          cases hi : R5.insideN s (fun x p => R5.elem s lim d x p (some (q1 + n))) (s.getD p 0).toNat z.out.length (q1 + n) (q1 + n - q1) { z with out := z.out ++ [⟨s.getD p 0, 0, []⟩], frames := z.frames + 1 } q1 [] with
          | mk o2 u =>
            rw [hi] at h
            cases o2 with
            | none => simp at h
            | some r =>
              simp only [Prod.mk.injEq, Option.some.injEq] at h
              obtain ⟨rfl, rfl⟩ := h
              obtain ⟨rfl, m, l, k1, k2, k3, k4, k5⟩ := inside_sound ih _ _ _ _ _ _ _ _ _ ⟨h3, h4, by rw [h2], by simp only [hzo, List.length_append, List.length_singleton]; omega⟩ (by omega) (Nat.le_refl _) (by simp) hi
              have hbl : ((s.take (q1 + n)).drop q1).length = n := by rw [part_len k3.ps]; omega
              have hwr : (s.take (q1 + n)).drop p = wrap (s.getD p 0) ((s.take (q1 + n)).drop q1) := by
                rw [take_split (show p ≤ q1 by omega) (show q1 ≤ q1 + n by omega), head_sound hr hok.taken]
                unfold wrap
                rw [hbl]
                rfl
              refine ⟨⟨s.getD p 0, (m : Nat), []⟩ :: l, ?_, ?_, by omega, ⟨k3.ps, k3.pb, k3.taken, k3.out⟩, h8, k4.trans (by rw [h2]), k5.trans (by rw [h2])⟩
              · rw [hwr]
                refine El.node (a := ⟨s.getD p 0, (m : Nat), []⟩) ?_ ?_ ?_
                · unfold right
                  have hlf : leaf ⟨s.getD p 0, (m : Nat), []⟩ = false := by unfold leaf; exact decide_eq_false (by simp only; omega)
                  simp only
                  rw [h9, hin, hlf, decide_eq_true (by omega)]
                  rfl
                · unfold leaf; exact decide_eq_false (by simp only; omega)
                · exact k1
              · show u.out = _
                rw [k2]
                show bumpN (z.out ++ [⟨s.getD p 0, 0, []⟩]) z.out.length m ++ l = _
                rw [bumpN_last, hzo, List.append_assoc]
                simp only
                rw [show (0 : Int) + (m : Nat) = (m : Nat) by omega]
                rfl
        · rw [if_neg hin] at h
          exact leaf_sound (d + 1) h2 h3 h4 h5 h7 h8 (head_sound hr hok.taken) h9 (by simpa using hin) h

/-! A reading that fails has an error -/
theorem want_err {s : Bytes} {lim : Lim} {x y : St} {p : Nat} (h : R5.want s lim x p = (false, y)) : y.err ≠ 0 := by
  unfold R5.want at h
  split at h
  · simp at h
  · split at h <;> (simp only [Prod.mk.injEq, true_and] at h; subst h; simp [R5.fault])
theorem lenN_err (s : Bytes) (lim : Lim) : ∀ (m : Nat) (x y : St) (p : Nat) (first : Bool) (a : Nat), R5.lenN s lim m x p first a = (none, y) → y.err ≠ 0
  | 0, x, y, p, first, a, h => by unfold R5.lenN at h; simp at h
  | m + 1, x, y, p, first, a, h => by
    unfold R5.lenN at h
    cases hw : R5.want s lim x p with
    | mk b z =>
      rw [hw] at h
      cases b with
      | false => simp only [Prod.mk.injEq, true_and] at h; rw [← h]; exact want_err hw
      | true =>
        simp only at h
        split at h
        · simp only [Prod.mk.injEq, true_and] at h; rw [← h]; simp [R5.fault]
        · exact lenN_err s lim m _ y _ _ _ h
theorem length_err {s : Bytes} {lim : Lim} {x y : St} {p : Nat} (h : R5.length s lim x p = (none, y)) : y.err ≠ 0 := by
  unfold R5.length at h
  cases hw : R5.want s lim x p with
  | mk b z =>
    rw [hw] at h
    cases b with
    | false => simp only [Prod.mk.injEq, true_and] at h; rw [← h]; exact want_err hw
    | true =>
      simp only at h
      split at h
      · simp at h
      · split at h
        · simp only [Prod.mk.injEq, true_and] at h; rw [← h]; simp [R5.fault]
        · cases hl : R5.lenN s lim ((s.getD p 0).toNat % 128) z (p + 1) true 0 with
          | mk o u =>
            rw [hl] at h
            cases o with
            | none => simp only [Prod.mk.injEq, true_and] at h; rw [← h]; exact lenN_err _ _ _ _ _ _ _ _ hl
            | some v =>
              simp only at h
              split at h
              · simp only [Prod.mk.injEq, true_and] at h; rw [← h]; simp [R5.fault]
              · simp at h
theorem head_err {s : Bytes} {lim : Lim} {room : Bool} {x y : St} {p : Nat} {e : Option Nat} (h : R5.head s lim room x p e = (none, y)) : y.err ≠ 0 := by
  unfold R5.head at h
  cases hw : R5.want s lim x p with
  | mk b z =>
    rw [hw] at h
    cases b with
    | false => simp only [Prod.mk.injEq, true_and] at h; rw [← h]; exact want_err hw
    | true =>
      simp only at h
      split at h
      · simp only [Prod.mk.injEq, true_and] at h; rw [← h]; simp [R5.fault]
      · split at h
        · rename_i hg
          simp only [Prod.mk.injEq, true_and] at h; rw [← h]; exact hg
        · split at h
          · simp only [Prod.mk.injEq, true_and] at h; rw [← h]; simp [R5.fault]
          · cases hl : R5.length s lim z (p + 1) with
            | mk o u =>
              rw [hl] at h
              cases o with
              | none => simp only [Prod.mk.injEq, true_and] at h; rw [← h]; exact length_err hl
              | some v =>
                obtain ⟨n', q'⟩ := v
                simp only at h
                split at h
                · simp only [Prod.mk.injEq, true_and] at h; rw [← h]; simp [R5.fault]
                · simp at h
theorem leaf_err {s : Bytes} {lim : Lim} {x y : St} {t : UInt8} {p q n : Nat} (h : R5.leaf s lim x t p q n = (none, y)) : y.err ≠ 0 := by
  unfold R5.leaf at h
  cases hw : (if n = 0 then (true, x) else R5.want s lim x (q + n - 1)) with
  | mk b u =>
    rw [hw] at h
    cases b with
    | false =>
      simp only [Prod.mk.injEq, true_and] at h
      rw [← h]
      split at hw
      · simp at hw
      · exact want_err hw
    | true =>
      simp only at h
      split at h
      · simp at h
      · simp only [Prod.mk.injEq, true_and] at h; rw [← h]; simp [R5.fault]
theorem inside_err {s : Bytes} {rc : St → Nat → Option Nat × St} (hR : ∀ x p y, rc x p = (none, y) → y.err ≠ 0) (tg me e : Nat) : ∀ (m : Nat) (x y : St) (p : Nat) (last : Bytes), R5.insideN s rc tg me e m x p last = (none, y) → y.err ≠ 0
  | 0, x, y, p, last, h => by unfold R5.insideN at h; simp at h
  | m + 1, x, y, p, last, h => by
    unfold R5.insideN at h
    split at h
    · cases hr : rc x p with
      | mk o z =>
        rw [hr] at h
        cases o with
        | none => simp only [Prod.mk.injEq, true_and] at h; rw [← h]; exact hR _ _ _ hr
        | some q =>
          simp only at h
          split at h
          · simp only [Prod.mk.injEq, true_and] at h; rw [← h]; simp [R5.fault]
          · exact inside_err hR tg me e m _ y _ _ h
    · simp at h
theorem elem_err (s : Bytes) (lim : Lim) : ∀ (d : Nat) (x y : St) (p : Nat) (e : Option Nat), R5.elem s lim d x p e = (none, y) → y.err ≠ 0 := by
  intro d
  induction d with
  | zero =>
    intro x y p e h
    unfold R5.elem at h
    cases hr : R5.head s lim false x p e with
    | mk o z =>
      rw [hr] at h
      cases o with
      | none => simp only [Prod.mk.injEq, true_and] at h; rw [← h]; exact head_err hr
      | some t => exact leaf_err h
  | succ d ih =>
    intro x y p e h
    unfold R5.elem at h
    cases hr : R5.head s lim true x p e with
    | mk o z =>
      rw [hr] at h
      cases o with
      | none => simp only [Prod.mk.injEq, true_and] at h; rw [← h]; exact head_err hr
      | some t =>
        obtain ⟨n, q⟩ := t
        simp only at h
        split at h
        · unfold R5.inside at h
          cases hi : R5.insideN s (fun x p => R5.elem s lim d x p (some (q + n))) (s.getD p 0).toNat z.out.length (q + n) (q + n - q) { z with out := z.out ++ [⟨s.getD p 0, 0, []⟩], frames := z.frames + 1 } q [] with
          | mk o2 u =>
            rw [hi] at h
            cases o2 with
            | none => simp only [Prod.mk.injEq, true_and] at h; rw [← h]; exact inside_err (fun x p y => ih x y p _) _ _ _ _ _ _ _ _ hi
            | some r => simp at h
        · exact leaf_err h

/-! Decode, by elements -/
theorem may_of {lim : Lim} (hm : lim.may = true) : 1 ≤ lim.d ∧ lim.d ≤ 32 ∧ 1 ≤ lim.i ∧ lim.i ≤ 4096 ∧ 1 ≤ lim.b ∧ lim.b ≤ 262144 ∧ 1 ≤ lim.r ∧ lim.r ≤ 4096 := by
  unfold Lim.may at hm
  simp only [Bool.and_eq_true, decide_eq_true_eq] at hm
  omega
theorem start_ok {s : Bytes} {lim : Lim} (hm : lim.may = true) : Ok s lim R5.start 0 := by
  have hmay := may_of hm
  exact ⟨Nat.zero_le _, by omega, rfl, by show ((0 : Nat) : Int) ≤ lim.i; omega⟩
theorem decode_no {s : Bytes} {lim : Lim} (h : lim.may = false) : R5.decode s lim = ([], 0, 2) := by unfold R5.decode; rw [h]; rfl
theorem decode_yes {s : Bytes} {lim : Lim} (h : lim.may = true) : R5.decode s lim = (R5.list (R5.read s lim), (R5.read s lim).place, (R5.read s lim).err) := by unfold R5.decode; rw [h]; rfl
theorem decode_of_el {l : List Node} {b : Bytes} {o : Bool} {lim : Lim} (hm : lim.may = true) (h : El lim.d.toNat l b o) (hi : (l.length : Int) ≤ lim.i) (hb : (b.length : Int) ≤ lim.b) :
    if o then (R5.decode b lim).2.2 = 9 else R5.decode b lim = (l, 0, 0) := by
  have hmay := may_of hm
  have hr := elem_reads b lim (by omega) lim.d.toNat R5.start 0 l b o [] none h rfl (Nat.zero_le _) (List.append_nil _).symm (by show ((0 + l.length : Nat) : Int) ≤ lim.i; omega) (by omega) (fun v hv => by cases hv)
  rw [decode_yes hm]
  unfold R5.read
  cases o with
  | true =>
    obtain ⟨y, e1, e2⟩ := hr
    rw [e1]
    exact e2
  | false =>
    have hr' : R5.elem b lim lim.d.toNat R5.start 0 none = (some (0 + b.length), { R5.start with out := R5.start.out ++ l, taken := 0 + b.length }) := hr
    rw [hr']
    simp only [Nat.zero_add, Nat.lt_irrefl, if_false]
    show (R5.list _, (0 : Int), (0 : Int)) = _
    unfold R5.list
    simp [R5.start]
theorem decode_sound {s : Bytes} {lim : Lim} (h : (R5.decode s lim).2.2 = 0) :
    lim.may = true ∧ (R5.decode s lim).2.1 = 0 ∧ El lim.d.toNat (R5.decode s lim).1 s false ∧ ((R5.decode s lim).1.length : Int) ≤ lim.i ∧ (s.length : Int) ≤ lim.b ∧
      ∃ y, R5.elem s lim lim.d.toNat R5.start 0 none = (some s.length, y) ∧ y.out = (R5.decode s lim).1 ∧ y.err = 0 ∧ y.place = 0 := by
  cases hm : lim.may with
  | false => rw [decode_no hm] at h; simp at h
  | true =>
    rw [decode_yes hm] at h ⊢
    simp only at h
    have hok := start_ok (s := s) hm
    unfold R5.read at h ⊢
    cases hr : R5.elem s lim lim.d.toNat R5.start 0 none with
    | mk o y =>
      rw [hr] at h
      cases o with
      | none => exact absurd h (elem_err _ _ _ _ _ _ _ hr)
      | some q =>
        obtain ⟨l, h2⟩ := elem_sound s lim lim.d.toNat R5.start y 0 q none hok hr
        simp only at h ⊢
        by_cases hlt : q < s.length
        · rw [if_pos hlt] at h
          exfalso
          cases hw : R5.want s lim y q with
          | mk b z =>
            rw [hw] at h
            cases b
            · exact want_err hw h
            · simp [R5.fault] at h
        · rw [if_neg hlt]
          have hq : q = s.length := by have := h2.ok.ps; omega
          subst hq
          have hout : y.out = l := h2.out
          have he : y.err = 0 := h2.err
          have hl : R5.list y = l := by unfold R5.list; rw [he]; simpa using hout
          have hp : y.place = 0 := h2.place
          simp only [hl]
          have hel := h2.el
          rw [List.take_length, List.drop_zero] at hel
          have ho := h2.ok.out
          rw [hout] at ho
          exact ⟨trivial, hp, hel, ho, h2.ok.pb, y, rfl, hout, he, hp⟩
theorem decode_nil {s : Bytes} {lim : Lim} (h : (R5.decode s lim).2.2 ≠ 0) : (R5.decode s lim).1 = [] := by
  cases hm : lim.may with
  | false => rw [decode_no hm]
  | true =>
    rw [decode_yes hm] at h ⊢
    show R5.list _ = []
    unfold R5.list
    rw [if_neg (by simpa using h)]
end Go.Px.E5

/-! The feed of layer 19 against the reference's reader of layer 16 (plain law): one byte, blanks, one byte that must stand there. No program is named here. -/
namespace Go.Px.J6
open R6 (at_ blank)

/-- The feed stands at a place of a text; nothing is wrong so far. -/
structure At (s : Bytes) (lim : Lim) (p : Nat) (f : Feed) : Prop where
  fl : f.lim = lim
  n : f.n = p
  ps : p ≤ s.length
  pb : (p : Int) ≤ lim.b
  err : f.err = 0
/-- The reader stands there; the byte there may have been looked at. -/
structure RAt (s : Bytes) (lim : Lim) (p : Nat) (x : R6.St) : Prop where
  lo : p ≤ x.r.taken
  hi : x.r.taken ≤ p + 1
  pk : x.r.taken = p + 1 → p < s.length ∧ (p : Int) < lim.b
  err : x.r.err = 0
  place : x.r.place = 0
  ended : x.r.ended = false
/-- What can be seen of a feed. -/
def obs (g : Feed) : Int × Nat × Nat × (List Val × Int × Int) := (g.err, g.n, g.stack.length, End g)
/-- What a reader that stopped says of it. -/
def told (y : R5.St) : Int × Nat × Nat × (List Val × Int × Int) := (if y.ended then 0 else y.err, y.taken, y.frames, ([], y.place, y.err))
variable {s : Bytes} {lim : Lim} {p : Nat} {f : Feed} {x y : R6.St}
theorem obs_wrong (g : Feed) (p e : Int) (he : e ≠ 0) (r : Bytes) : obs (write (wrong g p e) r) = (e, g.n, g.stack.length, ([], p, e)) := by
  rw [write_stop (by simpa [wrong] using he)]
  unfold obs End
  rw [if_pos (by simpa [wrong] using he)]
  rfl
theorem want_cases (s : Bytes) (lim : Lim) (x : R6.St) (p : Nat) :
    (p < s.length ∧ (p : Int) < lim.b ∧ R6.want s lim x p = (true, { x with r := R5.take x.r (p + 1) })) ∨
    (¬ (p < s.length ∧ (p : Int) < lim.b) ∧ lim.b < s.length ∧ R6.want s lim x p = (false, { x with r := R5.fault (R5.take x.r lim.b.toNat) lim.b 10 })) ∨
    (¬ (p < s.length ∧ (p : Int) < lim.b) ∧ ¬ lim.b < s.length ∧ R6.want s lim x p = (false, { x with r := { R5.fault (R5.take x.r s.length) s.length 9 with ended := true } })) := by
  unfold R6.want R5.want
  by_cases h1 : p < s.length ∧ (p : Int) < lim.b
  · exact .inl ⟨h1.1, h1.2, by rw [if_pos h1]⟩
  · by_cases h2 : lim.b < s.length
    · exact .inr (.inl ⟨h1, h2, by rw [if_neg h1, if_pos h2]⟩)
    · exact .inr (.inr ⟨h1, h2, by rw [if_neg h1, if_neg h2]⟩)
theorem want_no (h : At s lim p f) (hx : RAt s lim p x) (hfr : x.r.frames = f.stack.length) (hE : End f = ([], (f.n : Int), 9)) (hw : R6.want s lim x p = (false, y)) : obs (write f (s.drop p)) = told y.r := by
  have h1 := h.ps
  have h2 := h.pb
  have h3 := hx.lo
  have h4 := hx.hi
  have h5 := hx.pk
  rcases want_cases s lim x p with ⟨_, _, e⟩ | ⟨c1, c2, e⟩ | ⟨c1, c2, e⟩
  · rw [e] at hw; cases hw
  · rw [e] at hw
    cases hw
    have ht : x.r.taken = p := by
      by_cases ht : x.r.taken = p + 1
      · exact absurd (h5 ht) c1
      · omega
    have hp : (p : Int) = lim.b := by omega
    have hlt : p < s.length := by omega
    rw [List.drop_eq_getElem_cons hlt, write_cons, if_pos (by rw [h.err]; rfl)]
    have e1 : byte f s[p] = wrong f lim.b 10 := by
      unfold byte
      rw [if_pos (by rw [h.n, h.fl, hp]; simp), h.fl]
    rw [e1, obs_wrong _ _ _ (by decide)]
    unfold told
    show _ = (if x.r.ended = true then (0 : Int) else 10, max x.r.taken lim.b.toNat, x.r.frames, (([] : List Val), lim.b, (10 : Int)))
    rw [hx.ended, if_neg (by decide), hfr, h.n, ht]
    congr 2
    omega
  · rw [e] at hw
    cases hw
    have ht : x.r.taken = p := by
      by_cases ht : x.r.taken = p + 1
      · exact absurd (h5 ht) c1
      · omega
    have hp : p = s.length := by omega
    rw [List.drop_eq_nil_of_le (by omega)]
    show obs f = _
    unfold obs told
    rw [hE, h.err, h.n]
    show _ = (if true = true then (0 : Int) else 9, max x.r.taken s.length, x.r.frames, (([] : List Val), (s.length : Int), (9 : Int)))
    rw [if_pos rfl, hfr, ht, hp, Nat.max_self]
theorem want_yes (h : At s lim p f) (hx : RAt s lim p x) (hw : R6.want s lim x p = (true, y)) :
    p < s.length ∧ (p : Int) < lim.b ∧ y = { x with r := { x.r with taken := p + 1 } } ∧ write f (s.drop p) = write (takeC f (s.getD p 0)) (s.drop (p + 1)) := by
  rcases want_cases s lim x p with ⟨c1, c2, e⟩ | ⟨_, _, e⟩ | ⟨_, _, e⟩
  · rw [e] at hw
    simp only [Prod.mk.injEq, true_and] at hw
    refine ⟨c1, c2, ?_, ?_⟩
    · rw [← hw]
      unfold R5.take
      rw [Nat.max_eq_right (by have := hx.hi; omega)]
    · have hg : s.getD p 0 = s[p] := by simp [c1]
      rw [hg, List.drop_eq_getElem_cons c1, write_cons, if_pos (by rw [h.err]; rfl)]
      unfold byte
      rw [if_neg (by rw [h.n, h.fl]; simp; omega)]
  · rw [e] at hw; cases hw
  · rw [e] at hw; cases hw
/-- Behind a byte that was wanted. -/
theorem RAt.next (hx : RAt s lim p x) : RAt s lim (p + 1) { x with r := { x.r with taken := p + 1 } } :=
  ⟨Nat.le_refl _, Nat.le_succ _, fun h => absurd h (by show ¬ p + 1 = p + 1 + 1; omega), hx.err, hx.place, hx.ended⟩
/-- A byte that was wanted and is not passed yet. -/
theorem RAt.peek (hx : RAt s lim p x) (h1 : p < s.length) (h2 : (p : Int) < lim.b) : RAt s lim p { x with r := { x.r with taken := p + 1 } } :=
  ⟨Nat.le_succ _, Nat.le_refl _, fun _ => ⟨h1, h2⟩, hx.err, hx.place, hx.ended⟩
theorem At.on (h : At s lim p f) (h1 : p < s.length) (h2 : (p : Int) < lim.b) {g : Feed} (hl : g.lim = f.lim) (hn : g.n = f.n + 1) (he : g.err = f.err) : At s lim (p + 1) g :=
  ⟨hl.trans h.fl, by rw [hn, h.n], h1, by omega, he.trans h.err⟩
/-- A fault at the byte that was wanted last. -/
theorem fault_sim {y : R6.St} {g : Feed} {e : Int} (he : e ≠ 0) (hn : g.n = p + 1) (ht : y.r.taken = p + 1) (hend : y.r.ended = false) (hfr : y.r.frames = g.stack.length) (r : Bytes) :
    obs (write (wrong g (g.n - 1 : Nat) e) r) = told (R6.fault y p e).r := by
  rw [obs_wrong _ _ _ he]
  unfold told R6.fault R5.fault
  simp only [hend, ht, hfr, hn]
  rfl

/-! Blanks -/
theorem pass_sim : ∀ (m p : Nat) (x : R6.St) (f : Feed), s.length + 1 ≤ m + p → At s lim p f → RAt s lim p x → x.r.frames = f.stack.length → f.now = .none → f.next ≠ 6 →
    match R6.passN s lim m x p with
    | (none, y) => obs (write f (s.drop p)) = told y.r
    | (some q, y) => p ≤ q ∧ q < s.length ∧ (q : Int) < lim.b ∧ blank (at_ s q) = false ∧ y = { x with r := { x.r with taken := q + 1 } } ∧ At s lim q { f with n := q } ∧ write f (s.drop p) = write { f with n := q } (s.drop q) := by
  intro m
  induction m with
  | zero => intro p x f hm h; have := h.ps; omega
  | succ m ih =>
    intro p x f hm h hx hfr hnow hnext
    unfold R6.passN
    have hE : End f = ([], (f.n : Int), 9) := by
      unfold End
      rw [if_neg (by simp [h.err]), hnow]
      simp only
      rw [if_neg (by simpa using hnext)]
    cases hw : R6.want s lim x p with
    | mk b y =>
      cases b with
      | false => exact want_no h hx hfr hE hw
      | true =>
        obtain ⟨h1, h2, hy, hwr⟩ := want_yes h hx hw
        simp only
        by_cases hb : blank (at_ s p) = true
        · rw [if_pos hb]
          have e1 : takeC f (s.getD p 0) = { f with n := p + 1 } := by
            unfold takeC
            simp only [hnow, h.n]
            unfold structure_
            have hb' : blank (s.getD p 0).toNat = true := hb
            rw [if_pos hb']
          rw [hwr, e1]
          have k := ih (p + 1) y { f with n := p + 1 } (by omega) (h.on h1 h2 rfl (by rw [h.n]) rfl) (by rw [hy]; exact hx.next) (by rw [hy]; exact hfr) hnow hnext
          cases hr : R6.passN s lim m y (p + 1) with
          | mk o z =>
            rw [hr] at k
            cases o with
            | none => exact k
            | some q =>
              obtain ⟨k1, k2, k3, k4, k5, k6, k7⟩ := k
              refine ⟨by omega, k2, k3, k4, ?_, k6, k7⟩
              rw [k5, hy]
        · rw [if_neg hb]
          have ef : ({ f with n := p } : Feed) = f := by rw [← h.n]
          refine ⟨Nat.le_refl _, h1, h2, by simpa using hb, hy, ?_, ?_⟩
          · rw [ef]; exact h
          · rw [ef]
end Go.Px.J6

/-! What the reference's reader of layer 16 keeps, and where it ends (plain). No program is named here. -/
namespace Go.Px.R6
variable {s : Bytes} {lim : Lim} {x y z : St} {p q : Nat}

def Kept (x y : St) : Prop := y.out = x.out ∧ y.r.frames = x.r.frames
theorem Kept.refl (x : St) : Kept x x := ⟨rfl, rfl⟩
theorem Kept.trans (h : Kept x y) (k : Kept y z) : Kept x z := ⟨k.1.trans h.1, k.2.trans h.2⟩
theorem fault_kept (x : St) (p e : Int) : Kept x (fault x p e) := ⟨rfl, rfl⟩
theorem want_kept (s : Bytes) (lim : Lim) (x : St) (p : Nat) : Kept x (want s lim x p).2 := by
  rcases J6.want_cases s lim x p with ⟨_, _, e⟩ | ⟨_, _, e⟩ | ⟨_, _, e⟩ <;> rw [e] <;> exact ⟨rfl, rfl⟩
theorem want_ok (h : want s lim x p = (true, y)) : Kept x y ∧ p < s.length ∧ (p : Int) < lim.b := by
  rcases J6.want_cases s lim x p with ⟨h1, h2, e⟩ | ⟨_, _, e⟩ | ⟨_, _, e⟩
  · rw [e] at h; cases h; exact ⟨⟨rfl, rfl⟩, h1, h2⟩
  · rw [e] at h; cases h
  · rw [e] at h; cases h
theorem want_no_kept (h : want s lim x p = (false, y)) : Kept x y := by have := want_kept s lim x p; rw [h] at this; exact this
theorem passN_ok : ∀ (m : Nat) (x : St) (p : Nat), passN s lim m x p = (some q, y) → Kept x y ∧ p ≤ q ∧ q < s.length
  | 0, _, _, h => by cases h
  | m + 1, x, p, h => by
    unfold passN at h
    obtain ⟨⟨c, z⟩, hres⟩ : ∃ r, want s lim x p = r := ⟨_, rfl⟩
    rw [hres] at h
    cases c with
    | false => cases h
    | true =>
      obtain ⟨k1, k2, _⟩ := want_ok hres
      simp only at h
      split at h
      · obtain ⟨k3, k4, k5⟩ := passN_ok m z (p + 1) h
        exact ⟨k1.trans k3, by omega, k5⟩
      · cases h
        exact ⟨k1, Nat.le_refl _, k2⟩
theorem pass_ok (h : pass s lim x p = (some q, y)) : Kept x y ∧ p ≤ q ∧ q < s.length := passN_ok _ _ _ h
theorem is_ok {c : Nat} (h : is s lim x p c = (true, y)) : Kept x y ∧ p < s.length ∧ (p : Int) < lim.b ∧ at_ s p = c := by
  unfold is at h
  obtain ⟨⟨b, z⟩, hres⟩ : ∃ r, want s lim x p = r := ⟨_, rfl⟩
  rw [hres] at h
  cases b with
  | false => cases h
  | true =>
    obtain ⟨k1, k2, k3⟩ := want_ok hres
    simp only at h
    split at h
    · rename_i hc; cases h; exact ⟨k1, k2, k3, by simpa using hc⟩
    · cases h
theorem is_kept (s : Bytes) (lim : Lim) (x : St) (p c : Nat) : Kept x (is s lim x p c).2 := by
  unfold is
  have hk := want_kept s lim x p
  obtain ⟨⟨b, z⟩, hres⟩ : ∃ r, want s lim x p = r := ⟨_, rfl⟩
  rw [hres] at hk ⊢
  cases b with
  | false => exact hk
  | true =>
    simp only
    split
    · exact hk
    · exact hk.trans (fault_kept _ _ _)
theorem wordN_ok : ∀ (l : Bytes) (x : St) (p : Nat), p ≤ s.length → wordN s lim l x p = (some q, y) → Kept x y ∧ p ≤ q ∧ q ≤ s.length
  | [], x, p, hp, h => by cases h; exact ⟨Kept.refl _, Nat.le_refl _, hp⟩
  | c :: l, x, p, hp, h => by
    unfold wordN at h
    obtain ⟨⟨b, z⟩, hres⟩ : ∃ r, is s lim x p c.toNat = r := ⟨_, rfl⟩
    rw [hres] at h
    cases b with
    | false => cases h
    | true =>
      obtain ⟨k1, k2, _⟩ := is_ok hres
      obtain ⟨k3, k4, k5⟩ := wordN_ok l z (p + 1) k2 h
      exact ⟨k1.trans k3, by omega, k5⟩
theorem fourN_ok {r : Nat} : ∀ (m : Nat) (x : St) (p n : Nat), p ≤ s.length → fourN s lim m x p n = (some r, y) → Kept x y ∧ p + m ≤ s.length
  | 0, x, p, n, hp, h => by cases h; exact ⟨Kept.refl _, hp⟩
  | m + 1, x, p, n, hp, h => by
    unfold fourN at h
    obtain ⟨⟨b, z⟩, hres⟩ : ∃ r, want s lim x p = r := ⟨_, rfl⟩
    rw [hres] at h
    cases b with
    | false => cases h
    | true =>
      obtain ⟨k1, k2, _⟩ := want_ok hres
      simp only at h
      split at h
      · cases h
      · obtain ⟨k3, k4⟩ := fourN_ok m z (p + 1) _ k2 h
        exact ⟨k1.trans k3, by omega⟩
theorem second_ok {n : Nat} {b : Bytes} (h : second s lim x p n = (some (b, q), y)) : Kept x y ∧ p ≤ q ∧ q ≤ s.length := by
  unfold second at h
  obtain ⟨⟨c, u⟩, h1⟩ : ∃ r, is s lim x p 92 = r := ⟨_, rfl⟩
  rw [h1] at h
  cases c with
  | false => cases h
  | true =>
    simp only at h
    obtain ⟨⟨c, v⟩, h2⟩ : ∃ r, is s lim u (p + 1) 117 = r := ⟨_, rfl⟩
    rw [h2] at h
    cases c with
    | false => cases h
    | true =>
      simp only at h
      obtain ⟨k1, _⟩ := is_ok h1
      obtain ⟨k2, k3, _⟩ := is_ok h2
      obtain ⟨⟨c, t⟩, h3⟩ : ∃ r, four s lim v (p + 2) = r := ⟨_, rfl⟩
      rw [h3] at h
      cases c with
      | none => cases h
      | some m =>
        obtain ⟨k4, k5⟩ := fourN_ok 4 v (p + 2) 0 k3 h3
        simp only at h
        split at h
        · cases h
        · simp only [Prod.mk.injEq, Option.some.injEq] at h
          obtain ⟨⟨_, rfl⟩, rfl⟩ := h
          exact ⟨(k1.trans k2).trans k4, by omega, by omega⟩
theorem escape_ok {b : Bytes} (h : escape s lim x p = (some (b, q), y)) : Kept x y ∧ p ≤ q ∧ q ≤ s.length := by
  unfold escape at h
  obtain ⟨⟨c, u⟩, h1⟩ : ∃ r, want s lim x p = r := ⟨_, rfl⟩
  rw [h1] at h
  cases c with
  | false => cases h
  | true =>
    obtain ⟨k1, k2, _⟩ := want_ok h1
    simp only at h
    split at h
    · cases h
      exact ⟨k1, by omega, by omega⟩
    · split at h
      · cases h
      · obtain ⟨⟨c, t⟩, h3⟩ : ∃ r, four s lim u (p + 1) = r := ⟨_, rfl⟩
        rw [h3] at h
        cases c with
        | none => cases h
        | some n =>
          obtain ⟨k4, k5⟩ := fourN_ok 4 u (p + 1) 0 k2 h3
          simp only at h
          split at h
          · cases h
          · split at h
            · cases h
              exact ⟨k1.trans k4, by omega, by omega⟩
            · obtain ⟨k6, k7, k8⟩ := second_ok h
              exact ⟨(k1.trans k4).trans k6, by omega, k8⟩
theorem signN_ok {p : Nat} : ∀ (m : Nat) (x : St) (k : Nat), signN s lim p m x k = (some q, y) → Kept x y ∧ k ≤ q ∧ q ≤ s.length
  | 0, _, _, h => by cases h
  | m + 1, x, k, h => by
    unfold signN at h
    obtain ⟨⟨c, z⟩, hres⟩ : ∃ r, want s lim x k = r := ⟨_, rfl⟩
    rw [hres] at h
    cases c with
    | false => cases h
    | true =>
      obtain ⟨k1, k2, _⟩ := want_ok hres
      simp only at h
      split at h
      · cases h
        exact ⟨k1, by omega, k2⟩
      · split at h
        · cases h
        · obtain ⟨k3, k4, k5⟩ := signN_ok m z (k + 1) h
          exact ⟨k1.trans k3, by omega, k5⟩
theorem textN_ok {b : Bytes} : ∀ (m : Nat) (x : St) (p : Nat) (o : Bytes), textN s lim m x p o = (some (b, q), y) → Kept x y ∧ p ≤ q ∧ q ≤ s.length
  | 0, _, _, _, h => by cases h
  | m + 1, x, p, o, h => by
    unfold textN at h
    obtain ⟨⟨c, z⟩, hres⟩ : ∃ r, want s lim x p = r := ⟨_, rfl⟩
    rw [hres] at h
    cases c with
    | false => cases h
    | true =>
      obtain ⟨k1, k2, _⟩ := want_ok hres
      simp only at h
      split at h
      · cases h
        exact ⟨k1, by omega, by omega⟩
      · split at h
        · cases h
        · split at h
          · obtain ⟨⟨c, t⟩, h3⟩ : ∃ r, escape s lim z (p + 1) = r := ⟨_, rfl⟩
            rw [h3] at h
            cases c with
            | none => cases h
            | some v =>
              obtain ⟨b', q'⟩ := v
              obtain ⟨k3, k4, _⟩ := escape_ok h3
              obtain ⟨k5, k6, k7⟩ := textN_ok m t q' _ h
              exact ⟨(k1.trans k3).trans k5, by omega, k7⟩
          · split at h
            · obtain ⟨⟨c, t⟩, h3⟩ : ∃ r, sign s lim z p = r := ⟨_, rfl⟩
              rw [h3] at h
              cases c with
              | none => cases h
              | some q' =>
                obtain ⟨k3, k4, _⟩ := signN_ok _ _ _ h3
                obtain ⟨k5, k6, k7⟩ := textN_ok m t q' _ h
                exact ⟨(k1.trans k3).trans k5, by omega, k7⟩
            · obtain ⟨k5, k6, k7⟩ := textN_ok m z (p + 1) _ h
              exact ⟨k1.trans k5, by omega, k7⟩
theorem text_ok {b : Bytes} (h : text s lim x p = (some (b, q), y)) : Kept x y ∧ p + 1 ≤ q ∧ q ≤ s.length := textN_ok _ _ _ _ h

/-! Lists of values -/
theorem modify_mid (u l : List Val) (a : Val) (g : Val → Val) : (u ++ a :: l).modify u.length g = u ++ g a :: l := by
  induction u with
  | nil => rfl
  | cons b u ih => simp [ih]
theorem bump_mid (u l : List Val) (a : Val) (k : Int) : bump (u ++ a :: l) u.length k = u ++ { a with kids := a.kids + k } :: l := modify_mid u l a _
theorem setText_mid (u l : List Val) (a : Val) (t : Bytes) : setText (u ++ a :: l) u.length t = u ++ { a with text := t } :: l := modify_mid u l a _
theorem setKind_mid (u l : List Val) (a : Val) (k : Int) : setKind (u ++ a :: l) u.length k = u ++ { a with kind := k } :: l := modify_mid u l a _

/-- What a right value leaves. -/
structure Snd (s : Bytes) (x : St) (p q : Nat) (y : St) : Prop where
  le : p ≤ q
  ps : q ≤ s.length
  frames : y.r.frames = x.r.frames
  out : ∃ l, y.out = x.out ++ l
theorem Snd.trans {p q r : Nat} (h : Snd s x p q y) (k : Snd s y q r z) : Snd s x p r z := ⟨Nat.le_trans h.le k.le, k.ps, k.frames.trans h.frames, by
  obtain ⟨l, e⟩ := h.out
  obtain ⟨m, e2⟩ := k.out
  exact ⟨l ++ m, by rw [e2, e, List.append_assoc]⟩⟩
theorem Kept.snd (h : Kept x y) {q : Nat} (h1 : p ≤ q) (h2 : q ≤ s.length) : Snd s x p q y := ⟨h1, h2, h.2, [], by rw [h.1, List.append_nil]⟩
/-- The same behind the first value of a row. -/
structure Mid (s : Bytes) (x : St) (u : List Val) (p q : Nat) (y : St) : Prop where
  le : p ≤ q
  ps : q ≤ s.length
  frames : y.r.frames = x.r.frames
  out : ∃ a l, y.out = u ++ a :: l
theorem numN_len : ∀ (q : Nat) (l : Bytes), (numN q l).1 ≤ l.length
  | _, [] => Nat.le_refl _
  | q, c :: l => by
    unfold numN
    split
    · exact Nat.zero_le _
    · rename_i k _
      have := numN_len k l
      simp only [List.length_cons]
      omega
theorem number_le {e : Nat} (hpe : p ≤ e) (hes : e ≤ s.length) : p + (number ((s.take e).drop p)).1 ≤ e := by
  have := numN_len 0 ((s.take e).drop p)
  rw [List.length_drop, List.length_take, Nat.min_eq_left hes] at this
  unfold number
  omega
theorem numVal_ok {u : List Val} {a : Val} (hx : x.out = u ++ [a]) (h1 : p < s.length) (h2 : (p : Int) < lim.b) (h : numVal s lim x p u.length = (some q, y)) : Mid s x u p q y := by
  unfold numVal at h
  simp only at h
  have hle := number_le (s := s) (p := p) (e := min s.length lim.b.toNat) (by omega) (Nat.min_le_left _ _)
  split at h
  · cases h
    refine ⟨by omega, by omega, rfl, ?_⟩
    show ∃ a l, setText x.out _ _ = _
    rw [hx, setText_mid]
    exact ⟨_, _, rfl⟩
  · split at h <;> cases h
theorem plainV_ok {u : List Val} {a : Val} {c : Nat} (hx : x.out = u ++ [a]) (h1 : p < s.length) (h2 : (p : Int) < lim.b) (h : plainV s lim x c p u.length = (some q, y)) : Mid s x u p q y := by
  unfold plainV at h
  have hk : ∀ k, setKind x.out u.length k = u ++ [{ a with kind := k }] := fun k => by rw [hx]; exact setKind_mid _ _ _ _
  split at h
  · obtain ⟨⟨c, t⟩, h3⟩ : ∃ r, text s lim { x with out := setKind x.out u.length 4 } p = r := ⟨_, rfl⟩
    rw [h3] at h
    cases c with
    | none => cases h
    | some v =>
      obtain ⟨b', q'⟩ := v
      obtain ⟨k1, k2, k3⟩ := text_ok h3
      cases h
      refine ⟨by omega, k3, k1.2, ?_⟩
      show ∃ a l, setText t.out _ _ = _
      rw [k1.1]
      show ∃ a l, setText (setKind x.out _ _) _ _ = _
      rw [hk, setText_mid]
      exact ⟨_, _, rfl⟩
  · split at h
    · obtain ⟨k1, k2, k3⟩ := wordN_ok _ _ _ (Nat.le_of_lt h1) h
      exact ⟨k2, k3, k1.2, _, [], by rw [k1.1]; exact hk 2⟩
    · split at h
      · obtain ⟨k1, k2, k3⟩ := wordN_ok _ _ _ (Nat.le_of_lt h1) h
        exact ⟨k2, k3, k1.2, _, [], by rw [k1.1]; exact hk 1⟩
      · split at h
        · obtain ⟨k1, k2, k3⟩ := wordN_ok _ _ _ (Nat.le_of_lt h1) h
          exact ⟨k2, k3, k1.2, a, [], by rw [k1.1]; exact hx⟩
        · have := numVal_ok (x := { x with out := setKind x.out u.length 3 }) (hk 3) h1 h2 h
          exact ⟨this.le, this.ps, this.frames, this.out⟩
def RcOk (s : Bytes) (rc : St → Nat → Option Nat × St) : Prop := ∀ x p q y, rc x p = (some q, y) → Snd s x p q y
theorem arrayN_ok {rc : St → Nat → Option Nat × St} (hrc : RcOk s rc) {u : List Val} : ∀ (m : Nat) (x : St) (p : Nat), (∃ a l, x.out = u ++ a :: l) → 0 < x.r.frames → arrayN s lim rc u.length m x p = (some q, y) →
    p ≤ q ∧ q ≤ s.length ∧ y.r.frames + 1 = x.r.frames ∧ ∃ a l, y.out = u ++ a :: l
  | 0, _, _, _, _, h => by cases h
  | m + 1, x, p, hx, hf, h => by
    unfold arrayN at h
    obtain ⟨⟨c, t⟩, h1⟩ : ∃ r, rc x p = r := ⟨_, rfl⟩
    rw [h1] at h
    cases c with
    | none => cases h
    | some q1 =>
      have hs := hrc _ _ _ _ h1
      obtain ⟨a, l, hx⟩ := hx
      obtain ⟨l2, ho⟩ := hs.out
      have hb : bump t.out u.length 1 = u ++ { a with kids := a.kids + 1 } :: (l ++ l2) := by rw [ho, hx, List.append_assoc, List.cons_append]; exact bump_mid _ _ _ _
      simp only at h
      obtain ⟨⟨c, z⟩, h2⟩ : ∃ r, pass s lim { t with out := bump t.out u.length 1 } q1 = r := ⟨_, rfl⟩
      rw [h2] at h
      cases c with
      | none => cases h
      | some q2 =>
        obtain ⟨k1, k2, k3⟩ := pass_ok h2
        have hz : z.out = u ++ { a with kids := a.kids + 1 } :: (l ++ l2) := k1.1.trans hb
        have hzf : z.r.frames = x.r.frames := k1.2.trans hs.frames
        simp only at h
        have hsl := hs.le
        split at h
        · cases h
          refine ⟨by omega, by omega, ?_, _, _, hz⟩
          show ((z.r.frames : Int) + -1).toNat + 1 = x.r.frames
          omega
        · split at h
          · cases h
          · obtain ⟨⟨c, v⟩, h3⟩ : ∃ r, pass s lim z (q2 + 1) = r := ⟨_, rfl⟩
            rw [h3] at h
            cases c with
            | none => cases h
            | some q3 =>
              obtain ⟨k4, k5, k6⟩ := pass_ok h3
              obtain ⟨k7, k8, k9, k10⟩ := arrayN_ok hrc m v q3 ⟨_, _, k4.1.trans hz⟩ (by rw [k4.2]; omega) h
              exact ⟨by omega, k8, by rw [k9, k4.2]; exact hzf, k10⟩
theorem array_ok {rc : St → Nat → Option Nat × St} (hrc : RcOk s rc) {u : List Val} {a : Val} (hx : x.out = u ++ [a]) (h : array s lim rc u.length x p = (some q, y)) : Mid s x u p q y := by
  unfold array at h
  obtain ⟨⟨c, z⟩, h2⟩ : ∃ r, pass s lim (frame x 1) p = r := ⟨_, rfl⟩
  rw [h2] at h
  cases c with
  | none => cases h
  | some q2 =>
    obtain ⟨k1, k2, k3⟩ := pass_ok h2
    have hf : z.r.frames = x.r.frames + 1 := by rw [k1.2]; show ((x.r.frames : Int) + 1).toNat = _; omega
    simp only at h
    split at h
    · cases h
      refine ⟨by omega, by omega, ?_, a, [], k1.1.trans hx⟩
      show ((z.r.frames : Int) + -1).toNat = _
      omega
    · obtain ⟨k7, k8, k9, k10⟩ := arrayN_ok hrc _ z q2 ⟨a, [], k1.1.trans hx⟩ (by omega) h
      exact ⟨by omega, k8, by omega, k10⟩
theorem member_ok {rc : St → Nat → Option Nat × St} (hrc : RcOk s rc) {names : List Bytes} {b : Bytes} (h : member s lim rc x p names = (some (b, q), y)) : Snd s x p q y := by
  unfold member at h
  obtain ⟨⟨c, z⟩, h1⟩ : ∃ r, is s lim x p 34 = r := ⟨_, rfl⟩
  rw [h1] at h
  cases c with
  | false => cases h
  | true =>
    obtain ⟨k1, k2, _⟩ := is_ok h1
    simp only at h
    split at h
    · cases h
    · obtain ⟨⟨c, t⟩, h2⟩ : ∃ r, text s lim z p = r := ⟨_, rfl⟩
      rw [h2] at h
      cases c with
      | none => cases h
      | some v =>
        obtain ⟨b', q1⟩ := v
        obtain ⟨k3, k4, k5⟩ := text_ok h2
        simp only at h
        split at h
        · cases h
        · obtain ⟨⟨c, v⟩, h3⟩ : ∃ r, pass s lim { t with out := t.out ++ [⟨4, 0, b'⟩] } q1 = r := ⟨_, rfl⟩
          rw [h3] at h
          cases c with
          | none => cases h
          | some q2 =>
            obtain ⟨k6, k7, k8⟩ := pass_ok h3
            simp only at h
            obtain ⟨⟨c, v2⟩, h4⟩ : ∃ r, is s lim v q2 58 = r := ⟨_, rfl⟩
            rw [h4] at h
            cases c with
            | false => cases h
            | true =>
              obtain ⟨k9, _⟩ := is_ok h4
              simp only at h
              obtain ⟨⟨c, v3⟩, h5⟩ : ∃ r, pass s lim v2 (q2 + 1) = r := ⟨_, rfl⟩
              rw [h5] at h
              cases c with
              | none => cases h
              | some q3 =>
                obtain ⟨k10, k11, k12⟩ := pass_ok h5
                simp only at h
                obtain ⟨⟨c, v4⟩, h6⟩ : ∃ r, rc v3 q3 = r := ⟨_, rfl⟩
                rw [h6] at h
                cases c with
                | none => cases h
                | some q4 =>
                  have hs := hrc _ _ _ _ h6
                  cases h
                  have hk := k1.trans k3
                  have ho : v3.out = x.out ++ [⟨4, 0, b⟩] := by
                    rw [k10.1, k9.1, k6.1]
                    show t.out ++ [_] = _
                    rw [hk.1]
                  have hf : v3.r.frames = x.r.frames := by
                    rw [k10.2, k9.2, k6.2]
                    exact hk.2
                  have h0 : Snd s x p q3 v3 := ⟨by omega, by omega, hf, _, ho⟩
                  exact h0.trans hs
theorem objectN_ok {rc : St → Nat → Option Nat × St} (hrc : RcOk s rc) {u : List Val} : ∀ (m : Nat) (x : St) (p : Nat) (names : List Bytes), (∃ a l, x.out = u ++ a :: l) → 0 < x.r.frames → objectN s lim rc u.length m x p names = (some q, y) →
    p ≤ q ∧ q ≤ s.length ∧ y.r.frames + 1 = x.r.frames ∧ ∃ a l, y.out = u ++ a :: l
  | 0, _, _, _, _, _, h => by cases h
  | m + 1, x, p, names, hx, hf, h => by
    unfold objectN at h
    obtain ⟨⟨c, t⟩, h1⟩ : ∃ r, member s lim rc x p names = r := ⟨_, rfl⟩
    rw [h1] at h
    cases c with
    | none => cases h
    | some v =>
      obtain ⟨b', q1⟩ := v
      have hs := member_ok hrc h1
      obtain ⟨a, l, hx⟩ := hx
      obtain ⟨l2, ho⟩ := hs.out
      have hb : bump t.out u.length 2 = u ++ { a with kids := a.kids + 2 } :: (l ++ l2) := by rw [ho, hx, List.append_assoc, List.cons_append]; exact bump_mid _ _ _ _
      simp only at h
      obtain ⟨⟨c, z⟩, h2⟩ : ∃ r, pass s lim { t with out := bump t.out u.length 2 } q1 = r := ⟨_, rfl⟩
      rw [h2] at h
      cases c with
      | none => cases h
      | some q2 =>
        obtain ⟨k1, k2, k3⟩ := pass_ok h2
        have hz : z.out = u ++ { a with kids := a.kids + 2 } :: (l ++ l2) := k1.1.trans hb
        have hzf : z.r.frames = x.r.frames := k1.2.trans hs.frames
        simp only at h
        have hsl := hs.le
        split at h
        · cases h
          refine ⟨by omega, by omega, ?_, _, _, hz⟩
          show ((z.r.frames : Int) + -1).toNat + 1 = x.r.frames
          omega
        · split at h
          · cases h
          · obtain ⟨⟨c, v⟩, h3⟩ : ∃ r, pass s lim z (q2 + 1) = r := ⟨_, rfl⟩
            rw [h3] at h
            cases c with
            | none => cases h
            | some q3 =>
              obtain ⟨k4, k5, k6⟩ := pass_ok h3
              obtain ⟨k7, k8, k9, k10⟩ := objectN_ok hrc m v q3 _ ⟨_, _, k4.1.trans hz⟩ (by rw [k4.2]; omega) h
              exact ⟨by omega, k8, by rw [k9, k4.2]; exact hzf, k10⟩
theorem object_ok {rc : St → Nat → Option Nat × St} (hrc : RcOk s rc) {u : List Val} {a : Val} (hx : x.out = u ++ [a]) (h : object s lim rc u.length x p = (some q, y)) : Mid s x u p q y := by
  unfold object at h
  obtain ⟨⟨c, z⟩, h2⟩ : ∃ r, pass s lim (frame x 1) p = r := ⟨_, rfl⟩
  rw [h2] at h
  cases c with
  | none => cases h
  | some q2 =>
    obtain ⟨k1, k2, k3⟩ := pass_ok h2
    have hf : z.r.frames = x.r.frames + 1 := by rw [k1.2]; show ((x.r.frames : Int) + 1).toNat = _; omega
    simp only at h
    split at h
    · cases h
      refine ⟨by omega, by omega, ?_, a, [], k1.1.trans hx⟩
      show ((z.r.frames : Int) + -1).toNat = _
      omega
    · obtain ⟨k7, k8, k9, k10⟩ := objectN_ok hrc _ z q2 _ ⟨a, [], k1.1.trans hx⟩ (by omega) h
      exact ⟨by omega, k8, by omega, k10⟩
theorem value_ok (s : Bytes) (lim : Lim) : ∀ d, RcOk s (value s lim d) := by
  intro d
  induction d with
  | zero =>
    intro x p q y h
    unfold value at h
    obtain ⟨⟨c, z⟩, h1⟩ : ∃ r, want s lim x p = r := ⟨_, rfl⟩
    rw [h1] at h
    cases c with
    | false => cases h
    | true =>
      obtain ⟨k1, k2, k3⟩ := want_ok h1
      simp only at h
      split at h
      · cases h
      · split at h
        · cases h
        · have hm := plainV_ok (x := { z with out := z.out ++ [⟨0, 0, []⟩] }) rfl k2 k3 h
          rw [k1.1] at hm
          obtain ⟨a, l, ho⟩ := hm.out
          exact ⟨hm.le, hm.ps, hm.frames.trans k1.2, _, ho⟩
  | succ d ih =>
    intro x p q y h
    unfold value at h
    obtain ⟨⟨c, z⟩, h1⟩ : ∃ r, want s lim x p = r := ⟨_, rfl⟩
    rw [h1] at h
    cases c with
    | false => cases h
    | true =>
      obtain ⟨k1, k2, k3⟩ := want_ok h1
      simp only at h
      split at h
      · cases h
      · split at h
        · cases h
        · split at h
          · have hm := object_ok ih (x := { z with out := setKind (z.out ++ [⟨0, 0, []⟩]) z.out.length 6 }) (u := z.out) (setKind_mid z.out [] _ 6) h
            rw [k1.1] at hm
            obtain ⟨a, l, ho⟩ := hm.out
            have := hm.le
            exact ⟨by omega, hm.ps, hm.frames.trans k1.2, _, ho⟩
          · split at h
            · have hm := array_ok ih (x := { z with out := setKind (z.out ++ [⟨0, 0, []⟩]) z.out.length 5 }) (u := z.out) (setKind_mid z.out [] _ 5) h
              rw [k1.1] at hm
              obtain ⟨a, l, ho⟩ := hm.out
              have := hm.le
              exact ⟨by omega, hm.ps, hm.frames.trans k1.2, _, ho⟩
            · have hm := plainV_ok (x := { z with out := z.out ++ [⟨0, 0, []⟩] }) rfl k2 k3 h
              rw [k1.1] at hm
              obtain ⟨a, l, ho⟩ := hm.out
              exact ⟨hm.le, hm.ps, hm.frames.trans k1.2, _, ho⟩
end Go.Px.R6

/-! The feed of layer 19 against the reference's reader of layer 16 (plain law): words, four digits, what stands behind a backslash. No program is named here. -/
namespace Go.Px.J6
open R6 (at_ blank)
variable {s : Bytes} {lim : Lim} {p : Nat} {f : Feed} {x y : R6.St}
/-- What a string's step makes of the feed (the byte is counted). -/
def onStr (g : Feed) (r : Res × Txt) : Feed := match r.1 with
  | .takes => { g with now := .str r.2 }
  | .ends => finish { g with now := .str r.2 }
  | .refuses => wrong { g with now := .str r.2 } (g.n - 1 : Nat) 9
  | .ahead => { g with now := .str r.2 }
theorem signBegin_res (t : Txt) (c : Nat) : (signBegin t c).1 ≠ .ahead := by
  unfold signBegin
  simp only
  generalize (if decide (194 ≤ c) && decide (c < 224) then 1 else if decide (224 ≤ c) && decide (c < 240) then 2 else if decide (240 ≤ c) && decide (c < 245) then 3 else 0) = n
  split
  · exact fun h => by cases h
  · exact fun h => by cases h
theorem fourth_res (t : Txt) (n : Nat) : (fourth t n).1 ≠ .ahead := by
  unfold fourth
  simp only
  split
  · exact fun h => by cases h
  · split
    · exact fun h => by cases h
    · split
      · exact fun h => by cases h
      · exact fun h => by cases h
theorem txtTake_res (t : Txt) (c : UInt8) : (txtTake t c).1 ≠ .ahead := by
  unfold txtTake
  split
  · unfold escaped
    split
    · exact fun h => by cases h
    · split
      · exact fun h => by cases h
      · exact fun h => by cases h
  · split
    · unfold digitTake
      split
      · exact fun h => by cases h
      · split
        · exact fun h => by cases h
        · exact fourth_res _ _
    · split
      · split
        · exact fun h => by cases h
        · exact fun h => by cases h
      · split
        · split
          · exact fun h => by cases h
          · exact fun h => by cases h
        · split
          · split
            · exact fun h => by cases h
            · exact fun h => by cases h
          · split
            · exact fun h => by cases h
            · split
              · exact fun h => by cases h
              · split
                · exact fun h => by cases h
                · split
                  · exact signBegin_res _ _
                  · exact fun h => by cases h
theorem takeC_str {t : Txt} (h : f.now = .str t) (c : UInt8) : takeC f c = onStr { f with n := f.n + 1 } (txtTake t c) := by
  have hr := txtTake_res t c
  unfold takeC onStr
  simp only [h, tokTake]
  obtain ⟨r, hr'⟩ : ∃ r, r = (txtTake t c).1 := ⟨_, rfl⟩
  rw [← hr'] at hr ⊢
  cases r with
  | takes => rfl
  | ends => rfl
  | refuses => rfl
  | ahead => exact absurd rfl hr
theorem end_str {t : Txt} (h : f.now = .str t) (he : f.err = 0) : End f = ([], (f.n : Int), 9) := by
  unfold End
  rw [if_neg (by simp [he]), h]
theorem end_word {r : Bytes} (h : f.now = .word r) (he : f.err = 0) : End f = ([], (f.n : Int), 9) := by
  unfold End
  rw [if_neg (by simp [he]), h]
/-- The reader went on from x to y, over p bytes in all. -/
structure Went (s : Bytes) (lim : Lim) (x y : R6.St) (q : Nat) : Prop where
  r : RAt s lim q y
  tk : y.r.taken = q
  out : y.out = x.out
  fr : y.r.frames = x.r.frames
theorem is_cases (h : At s lim p f) (hx : RAt s lim p x) (hfr : x.r.frames = f.stack.length) (hE : End f = ([], (f.n : Int), 9)) (c : Nat) :
    match R6.is s lim x p c with
    | (true, y) => p < s.length ∧ (p : Int) < lim.b ∧ at_ s p = c ∧ y = { x with r := { x.r with taken := p + 1 } } ∧ write f (s.drop p) = write (takeC f (s.getD p 0)) (s.drop (p + 1))
    | (false, y) => (∃ z, y = R6.fault z p 9 ∧ at_ s p ≠ c ∧ z = { x with r := { x.r with taken := p + 1 } } ∧ p < s.length ∧ (p : Int) < lim.b ∧ write f (s.drop p) = write (takeC f (s.getD p 0)) (s.drop (p + 1))) ∨ obs (write f (s.drop p)) = told y.r := by
  unfold R6.is
  cases hw : R6.want s lim x p with
  | mk b y =>
    cases b with
    | false => exact .inr (want_no h hx hfr hE hw)
    | true =>
      obtain ⟨h1, h2, hy, hwr⟩ := want_yes h hx hw
      simp only
      by_cases hc : (at_ s p == c) = true
      · rw [if_pos hc]
        exact ⟨h1, h2, by simpa using hc, hy, hwr⟩
      · rw [if_neg hc]
        exact .inl ⟨y, rfl, by simpa using hc, hy, h1, h2, hwr⟩
theorem word_sim : ∀ (r : Bytes) (p : Nat) (x : R6.St) (f : Feed), r ≠ [] → At s lim p f → RAt s lim p x → x.r.frames = f.stack.length → f.now = .word r →
    match R6.wordN s lim r x p with
    | (none, y) => obs (write f (s.drop p)) = told y.r
    | (some q, y) => p < q ∧ Went s lim x y q ∧ At s lim q { f with n := q } ∧ write f (s.drop p) = write (finish { f with n := q, now := .word [] }) (s.drop q) := by
  intro r
  induction r with
  | nil => intro p x f h; exact absurd rfl h
  | cons b r ih =>
    intro p x f _ h hx hfr hnow
    unfold R6.wordN
    have hi := is_cases h hx hfr (end_word hnow h.err) b.toNat
    cases his : R6.is s lim x p b.toNat with
    | mk o y =>
      rw [his] at hi
      cases o with
      | false =>
        rcases hi with ⟨z, rfl, hne, hz, h1, h2, hwr⟩ | hi
        · simp only
          rw [hwr]
          have hcb : (s.getD p 0 != b) = true := by
            simp only [bne_iff_ne, ne_eq]
            intro e
            exact hne (congrArg UInt8.toNat e)
          have e1 : takeC f (s.getD p 0) = wrong { f with n := f.n + 1, now := .word (b :: r) } (({ f with n := f.n + 1, now := .word (b :: r) } : Feed).n - 1 : Nat) 9 := by
            unfold takeC
            simp only [hnow, tokTake, wordTake, hcb, if_true]
          rw [e1]
          exact fault_sim (e := 9) (p := p) (by decide) (by show f.n + 1 = p + 1; rw [h.n]) (by rw [hz]) (by rw [hz]; exact hx.ended) (by rw [hz]; exact hfr) _
        · exact hi
      | true =>
        obtain ⟨h1, h2, hc, hy, hwr⟩ := hi
        simp only
        rw [hwr]
        have hcb : ¬ (s.getD p 0 != b) = true := by
          simp only [bne_iff_ne, ne_eq, Decidable.not_not]
          exact UInt8.toNat_inj.1 hc
        have hRA : RAt s lim (p + 1) y := by rw [hy]; exact hx.next
        cases r with
        | nil =>
          have e1 : takeC f (s.getD p 0) = finish { f with n := p + 1, now := .word [] } := by
            unfold takeC
            simp only [hnow, tokTake, wordTake, hcb, if_false, Bool.false_eq_true, List.isEmpty_nil, if_true, h.n]
          rw [e1]
          unfold R6.wordN
          exact ⟨Nat.lt_succ_self p, ⟨hRA, by rw [hy], by rw [hy], by rw [hy]⟩, h.on h1 h2 rfl (by rw [h.n]) rfl, rfl⟩
        | cons b2 r2 =>
          have e1 : takeC f (s.getD p 0) = { f with n := p + 1, now := .word (b2 :: r2) } := by
            unfold takeC
            simp only [hnow, tokTake, wordTake, hcb, if_false, Bool.false_eq_true, List.isEmpty_cons, h.n]
          rw [e1]
          have k := ih (p + 1) y { f with n := p + 1, now := .word (b2 :: r2) } (by simp) (h.on h1 h2 rfl (by rw [h.n]) rfl) hRA (by rw [hy]; exact hfr) rfl
          cases hr : R6.wordN s lim (b2 :: r2) y (p + 1) with
          | mk o z =>
            rw [hr] at k
            cases o with
            | none => exact k
            | some q =>
              obtain ⟨k1, k2, k3, k4⟩ := k
              exact ⟨by omega, ⟨k2.r, k2.tk, by rw [k2.out, hy], by rw [k2.fr, hy]⟩, ⟨k3.fl, rfl, k3.ps, k3.pb, k3.err⟩, k4⟩
/-- Digits, one at least, are wanted still. -/
theorem four_sim : ∀ (m n p : Nat) (x : R6.St) (f : Feed) (t : Txt), At s lim p f → RAt s lim p x → x.r.frames = f.stack.length → f.now = .str t → t.mode = 2 → t.count = m + 1 → t.code = n →
    match R6.fourN s lim (m + 1) x p n with
    | (none, y) => obs (write f (s.drop p)) = told y.r
    | (some v, y) => Went s lim x y (p + (m + 1)) ∧ At s lim (p + (m + 1)) { f with n := p + (m + 1) } ∧ write f (s.drop p) = write (onStr { f with n := p + (m + 1) } (fourth t v)) (s.drop (p + (m + 1))) := by
  intro m
  induction m with
  | zero =>
    intro n p x f t h hx hfr hnow hmode hcount hcode
    unfold R6.fourN
    cases hw : R6.want s lim x p with
    | mk b y =>
      cases b with
      | false => exact want_no h hx hfr (end_str hnow h.err) hw
      | true =>
        obtain ⟨h1, h2, hy, hwr⟩ := want_yes h hx hw
        simp only
        rw [hwr, takeC_str hnow]
        have e0 : txtTake t (s.getD p 0) = digitTake t (at_ s p) := by
          unfold txtTake
          rw [if_neg (by simp [hmode]), if_pos (by simp [hmode])]
          rfl
        rw [e0]
        unfold digitTake
        cases hh : R6.hex (at_ s p) with
        | none =>
          simp only
          unfold onStr
          simp only
          exact fault_sim (e := 9) (p := p) (g := { f with n := f.n + 1, now := .str t }) (by decide) (by show f.n + 1 = p + 1; rw [h.n]) (by rw [hy]) (by rw [hy]; exact hx.ended) (by rw [hy]; exact hfr) _
        | some d =>
          simp only
          rw [if_neg (by omega)]
          unfold R6.fourN
          simp only
          rw [hcode, Nat.mul_comm n 16, h.n]
          exact ⟨⟨by rw [hy]; exact hx.next, by rw [hy], by rw [hy], by rw [hy]⟩, h.on h1 h2 rfl (by rw [h.n]) rfl, rfl⟩
  | succ m ih =>
    intro n p x f t h hx hfr hnow hmode hcount hcode
    unfold R6.fourN
    cases hw : R6.want s lim x p with
    | mk b y =>
      cases b with
      | false => exact want_no h hx hfr (end_str hnow h.err) hw
      | true =>
        obtain ⟨h1, h2, hy, hwr⟩ := want_yes h hx hw
        simp only
        rw [hwr, takeC_str hnow]
        have e0 : txtTake t (s.getD p 0) = digitTake t (at_ s p) := by
          unfold txtTake
          rw [if_neg (by simp [hmode]), if_pos (by simp [hmode])]
          rfl
        rw [e0]
        unfold digitTake
        cases hh : R6.hex (at_ s p) with
        | none =>
          simp only
          unfold onStr
          simp only
          exact fault_sim (e := 9) (p := p) (g := { f with n := f.n + 1, now := .str t }) (by decide) (by show f.n + 1 = p + 1; rw [h.n]) (by rw [hy]) (by rw [hy]; exact hx.ended) (by rw [hy]; exact hfr) _
        | some d =>
          simp only
          rw [if_pos (by omega)]
          have e1 : onStr { f with n := f.n + 1 } (.takes, { t with code := t.code * 16 + d, count := t.count - 1 }) = { f with n := p + 1, now := .str { t with code := 16 * n + d, count := m + 1 } } := by
            unfold onStr
            simp only
            rw [hcode, hcount, h.n, Nat.mul_comm n 16]
            rfl
          rw [e1]
          have k := ih (16 * n + d) (p + 1) y { f with n := p + 1, now := .str { t with code := 16 * n + d, count := m + 1 } } { t with code := 16 * n + d, count := m + 1 } (h.on h1 h2 rfl (by rw [h.n]) rfl) (by rw [hy]; exact hx.next) (by rw [hy]; exact hfr) rfl hmode rfl rfl
          rw [show p + (m + 1 + 1) = p + 1 + (m + 1) by omega]
          cases hr : R6.fourN s lim (m + 1) y (p + 1) (16 * n + d) with
          | mk o z =>
            rw [hr] at k
            cases o with
            | none => exact k
            | some v =>
              obtain ⟨k1, k2, k3⟩ := k
              exact ⟨⟨k1.r, k1.tk, by rw [k1.out, hy], by rw [k1.fr, hy]⟩, ⟨k2.fl, rfl, k2.ps, k2.pb, k2.err⟩, k3⟩
/-- A string goes on behind something that was read in it. -/
structure Goes (s : Bytes) (lim : Lim) (x y : R6.St) (p q : Nat) (f : Feed) (o : Bytes) : Prop where
  lt : p < q
  w : Went s lim x y q
  a : At s lim q { f with n := q }
  wr : ∃ t : Txt, t.mode = 0 ∧ t.high = 0 ∧ t.out = o ∧ write f (s.drop p) = write { f with n := q, now := .str t } (s.drop q)
theorem fourth_low {t : Txt} {n : Nat} (h : t.high = 0) (h1 : 56320 ≤ n) (h2 : n ≤ 57343) : fourth t n = (.refuses, { t with code := n, count := 0 }) := by
  unfold fourth
  rw [h, show (decide (56320 ≤ n) && decide (n < 57344)) = true by simp; omega]
  exact if_pos (by decide)
theorem fourth_one {t : Txt} {n : Nat} (h : t.high = 0) (h1 : n < 55296 ∨ 57343 < n) : fourth t n = (.takes, { t with code := n, count := 0, out := t.out ++ R6.sign8 n, mode := 0 }) := by
  unfold fourth
  rw [show (t.high != 0) = false by simp [h], show (decide (56320 ≤ n) && decide (n < 57344)) = false by simp; omega, show (decide (55296 ≤ n) && decide (n < 56320)) = false by simp; omega]
  rfl
theorem fourth_high {t : Txt} {n : Nat} (h : t.high = 0) (h1 : 55296 ≤ n) (h2 : n ≤ 56319) : fourth t n = (.takes, { t with code := n, count := 0, high := n, mode := 3 }) := by
  unfold fourth
  rw [h, show (decide (56320 ≤ n) && decide (n < 57344)) = false by simp; omega, show (decide (55296 ≤ n) && decide (n < 56320)) = true by simp; omega]
  rfl
theorem fourth_bad {t : Txt} {n : Nat} (h : t.high ≠ 0) (h1 : n < 56320 ∨ 57343 < n) : fourth t n = (.refuses, { t with code := n, count := 0 }) := by
  unfold fourth
  rw [show (decide (56320 ≤ n) && decide (n < 57344)) = false by simp; omega, show (t.high != 0) = true by simpa using h]
  rfl
theorem fourth_two {t : Txt} {n : Nat} (h : t.high ≠ 0) (h1 : 56320 ≤ n) (h2 : n ≤ 57343) : fourth t n = (.takes, { t with code := 65536 + (t.high - 55296) * 1024 + n - 56320, count := 0, high := 0, out := t.out ++ R6.sign8 (65536 + (t.high - 55296) * 1024 + n - 56320), mode := 0 }) := by
  unfold fourth
  rw [show (decide (56320 ≤ n) && decide (n < 57344)) = true by simp; omega, show (t.high != 0) = true by simpa using h]
  rfl
theorem second_sim {t : Txt} {n : Nat} (h : At s lim p f) (hx : RAt s lim p x) (hfr : x.r.frames = f.stack.length) (hnow : f.now = .str t) (hmode : t.mode = 3) (hhigh : t.high = n) (hn0 : n ≠ 0) :
    match R6.second s lim x p n with
    | (none, y) => obs (write f (s.drop p)) = told y.r
    | (some (b, q), y) => Goes s lim x y p q f (t.out ++ b) := by
  unfold R6.second
  have hi := is_cases h hx hfr (end_str hnow h.err) 92
  have e0 : txtTake t (s.getD p 0) = (if s.getD p 0 != 92 then .refuses else .takes, { t with mode := 4 }) := by
    unfold txtTake
    rw [if_neg (by simp [hmode]), if_neg (by simp [hmode]), if_pos (by simp [hmode])]
  cases his : R6.is s lim x p 92 with
  | mk o y =>
    rw [his] at hi
    cases o with
    | false =>
      rcases hi with ⟨z, rfl, hne, hz, h1, h2, hwr⟩ | hi
      · simp only
        have hcb : (s.getD p 0 != 92) = true := by
          simp only [bne_iff_ne, ne_eq]
          intro e
          exact hne (by unfold at_; rw [e]; rfl)
        rw [hwr, takeC_str hnow, e0, hcb, if_pos rfl]
        exact fault_sim (e := 9) (p := p) (g := { f with n := f.n + 1, now := .str { t with mode := 4 } }) (by decide) (by show f.n + 1 = p + 1; rw [h.n]) (by rw [hz]) (by rw [hz]; exact hx.ended) (by rw [hz]; exact hfr) _
      · exact hi
    | true =>
      obtain ⟨h1, h2, hc, hy, hwr⟩ := hi
      have hcb : (s.getD p 0 != 92) = false := by
        simp only [bne_eq_false_iff_eq]
        exact UInt8.toNat_inj.1 hc
      obtain ⟨t4, ht4⟩ : ∃ t4 : Txt, t4 = { t with mode := 4 } := ⟨_, rfl⟩
      have hwr : write f (s.drop p) = write { f with n := p + 1, now := .str t4 } (s.drop (p + 1)) := by
        rw [hwr, takeC_str hnow, e0, hcb, ht4, h.n]
        rfl
      rw [hwr]
      have hA : At s lim (p + 1) { f with n := p + 1, now := .str t4 } := h.on h1 h2 rfl (by rw [h.n]) rfl
      have hRA : RAt s lim (p + 1) y := by rw [hy]; exact hx.next
      have hfy : y.r.frames = f.stack.length := by rw [hy]; exact hfr
      have hi2 := is_cases hA hRA hfy (end_str rfl hA.err) 117
      have e1 : txtTake t4 (s.getD (p + 1) 0) = (if s.getD (p + 1) 0 != 117 then .refuses else .takes, { t4 with mode := 2, code := 0, count := 4 }) := by
        unfold txtTake
        have hm4 : t4.mode = 4 := by rw [ht4]
        rw [if_neg (by simp [hm4]), if_neg (by simp [hm4]), if_neg (by simp [hm4]), if_pos (by simp [hm4])]
      simp only
      cases his2 : R6.is s lim y (p + 1) 117 with
      | mk o z =>
        rw [his2] at hi2
        cases o with
        | false =>
          rcases hi2 with ⟨u, rfl, hne, hu, h3, h4, hwr2⟩ | hi2
          · simp only
            have hcb2 : (s.getD (p + 1) 0 != 117) = true := by
              simp only [bne_iff_ne, ne_eq]
              intro e
              exact hne (by unfold at_; rw [e]; rfl)
            rw [hwr2, takeC_str rfl, e1, hcb2, if_pos rfl]
            exact fault_sim (e := 9) (p := p + 1) (g := { f with n := p + 1 + 1, now := .str { t4 with mode := 2, code := 0, count := 4 } }) (by decide) rfl (by rw [hu]) (by rw [hu]; exact hRA.ended) (by rw [hu]; exact hfy) _
          · exact hi2
        | true =>
          obtain ⟨h3, h4, hc2, hz, hwr2⟩ := hi2
          have hcb2 : (s.getD (p + 1) 0 != 117) = false := by
            simp only [bne_eq_false_iff_eq]
            exact UInt8.toNat_inj.1 hc2
          obtain ⟨t5, ht5⟩ : ∃ t5 : Txt, t5 = { t4 with mode := 2, code := 0, count := 4 } := ⟨_, rfl⟩
          have hwr2 : write { f with n := p + 1, now := .str t4 } (s.drop (p + 1)) = write { f with n := p + 2, now := .str t5 } (s.drop (p + 2)) := by
            rw [hwr2, takeC_str rfl, e1, hcb2, ht5]
            rfl
          rw [hwr2]
          have hA2 : At s lim (p + 2) { f with n := p + 2, now := .str t5 } := hA.on h3 h4 rfl rfl rfl
          have hRA2 : RAt s lim (p + 2) z := by rw [hz]; exact hRA.next
          have hfz : z.r.frames = f.stack.length := by rw [hz]; exact hfy
          have k := four_sim (s := s) (lim := lim) 3 0 (p + 2) z { f with n := p + 2, now := .str t5 } t5 hA2 hRA2 hfz rfl (by rw [ht5]) (by rw [ht5]) (by rw [ht5])
          unfold R6.four
          simp only
          cases hr : R6.fourN s lim 4 z (p + 2) 0 with
          | mk o v =>
            rw [hr] at k
            cases o with
            | none => exact k
            | some m =>
              obtain ⟨k1, k2, k3⟩ := k
              simp only at k1 k2 k3 ⊢
              rw [show p + 2 + (3 + 1) = p + 6 by omega] at k1 k2 k3
              have h5 : t5.high = n := by rw [ht5, ht4]; exact hhigh
              have h6 : t5.out = t.out := by rw [ht5, ht4]
              rw [k3]
              have hfv : v.r.frames = f.stack.length := k1.fr.trans hfz
              have hn5 : t5.high ≠ 0 := by rw [h5]; exact hn0
              by_cases hlow : (decide (m < 56320) || decide (57343 < m)) = true
              · rw [if_pos hlow, fourth_bad hn5 (by simpa using hlow)]
                exact fault_sim (e := 9) (p := p + 5) (y := v) (g := { f with n := p + 6, now := .str { t5 with code := m, count := 0 } }) (by decide) rfl k1.tk k1.r.ended hfv _
              · rw [if_neg hlow]
                simp only [Bool.or_eq_true, decide_eq_true_eq] at hlow
                rw [fourth_two hn5 (by omega) (by omega), h5, h6]
                exact ⟨by omega, ⟨k1.r, k1.tk, by rw [k1.out, hz, hy], by rw [k1.fr, hz, hy]⟩, ⟨k2.fl, rfl, k2.ps, k2.pb, k2.err⟩, { t5 with code := 65536 + (n - 55296) * 1024 + m - 56320, count := 0, high := 0, out := t.out ++ R6.sign8 (65536 + (n - 55296) * 1024 + m - 56320), mode := 0 }, rfl, rfl, rfl, hwr.trans (hwr2.trans (k3.trans (by rw [fourth_two hn5 (by omega) (by omega), h5, h6]; rfl)))⟩
theorem escape_sim {t : Txt} (h : At s lim p f) (hx : RAt s lim p x) (hfr : x.r.frames = f.stack.length) (hnow : f.now = .str t) (hmode : t.mode = 1) (hhigh : t.high = 0) :
    match R6.escape s lim x p with
    | (none, y) => obs (write f (s.drop p)) = told y.r
    | (some (b, q), y) => Goes s lim x y p q f (t.out ++ b) := by
  unfold R6.escape
  cases hw : R6.want s lim x p with
  | mk b y =>
    cases b with
    | false => exact want_no h hx hfr (end_str hnow h.err) hw
    | true =>
      obtain ⟨h1, h2, hy, hwr⟩ := want_yes h hx hw
      have hRA : RAt s lim (p + 1) y := by rw [hy]; exact hx.next
      have hA : ∀ g : Tok, At s lim (p + 1) { f with n := p + 1, now := g } := fun g => h.on h1 h2 rfl (by rw [h.n]) rfl
      have hA0 : At s lim (p + 1) { f with n := p + 1 } := h.on h1 h2 rfl (by rw [h.n]) rfl
      have hfy : y.r.frames = f.stack.length := by rw [hy]; exact hfr
      simp only
      have e0 : txtTake t (s.getD p 0) = escaped t (at_ s p) := by
        unfold txtTake
        rw [if_pos (by simp [hmode])]
        rfl
      rw [takeC_str hnow, e0, h.n] at hwr
      unfold escaped at hwr
      cases hl : R6.letter (at_ s p) with
      | some b =>
        rw [hl] at hwr
        have hwr : write f (s.drop p) = write { f with n := p + 1, now := .str { t with mode := 0, out := t.out ++ [b] } } (s.drop (p + 1)) := hwr
        exact ⟨Nat.lt_succ_self p, ⟨hRA, by rw [hy], by rw [hy], by rw [hy]⟩, hA0, { t with mode := 0, out := t.out ++ [b] }, rfl, hhigh, rfl, hwr⟩
      | none =>
        rw [hl] at hwr
        simp only at hwr ⊢
        by_cases hu : at_ s p = 117
        · rw [if_neg (by simp [hu])]
          rw [if_pos (by simp [hu])] at hwr
          have hwr : write f (s.drop p) = write { f with n := p + 1, now := .str { t with mode := 2, code := 0, count := 4 } } (s.drop (p + 1)) := hwr
          have k := four_sim (s := s) (lim := lim) 3 0 (p + 1) y { f with n := p + 1, now := .str { t with mode := 2, code := 0, count := 4 } } { t with mode := 2, code := 0, count := 4 } (hA _) hRA hfy rfl rfl rfl rfl
          unfold R6.four
          rw [hwr]
          cases hr : R6.fourN s lim 4 y (p + 1) 0 with
          | mk o z =>
            rw [hr] at k
            cases o with
            | none => exact k
            | some n =>
              obtain ⟨k1, k2, k3⟩ := k
              simp only at k1 k2 k3 ⊢
              rw [show p + 1 + (3 + 1) = p + 5 by omega] at k1 k2 k3
              have hz := k1.r
              have hfz : z.r.frames = f.stack.length := k1.fr.trans hfy
              have htz : z.r.ended = false := hz.ended
              rw [k3]
              by_cases hlow : (decide (56320 ≤ n) && decide (n ≤ 57343)) = true
              · rw [if_pos hlow]
                simp only [Bool.and_eq_true, decide_eq_true_eq] at hlow
                rw [fourth_low (by exact hhigh) hlow.1 hlow.2]
                exact fault_sim (e := 9) (p := p + 4) (y := z) (g := { f with n := p + 5, now := .str { t with mode := 2, code := n, count := 0 } }) (by decide) rfl k1.tk htz hfz _
              · rw [if_neg hlow]
                simp only [Bool.and_eq_true, decide_eq_true_eq] at hlow
                by_cases hsur : (decide (n < 55296) || decide (56319 < n)) = true
                · rw [if_pos hsur]
                  simp only [Bool.or_eq_true, decide_eq_true_eq] at hsur
                  rw [fourth_one (by exact hhigh) (by omega)]
                  exact ⟨by omega, ⟨hz, k1.tk, k1.out.trans (by rw [hy]), k1.fr.trans (by rw [hy])⟩, ⟨k2.fl, rfl, k2.ps, k2.pb, k2.err⟩, { t with code := n, count := 0, out := t.out ++ R6.sign8 n, mode := 0 }, rfl, hhigh, rfl, hwr.trans (k3.trans (by rw [fourth_one (by exact hhigh) (by omega)]; rfl))⟩
                · rw [if_neg hsur]
                  simp only [Bool.or_eq_true, decide_eq_true_eq] at hsur
                  have hn0 : n ≠ 0 := by omega
                  rw [fourth_high (by exact hhigh) (by omega) (by omega)]
                  obtain ⟨t3, ht3⟩ : ∃ t3 : Txt, t3 = { t with mode := 3, code := n, count := 0, high := n } := ⟨_, rfl⟩
                  have e3 : onStr { f with n := p + 5, now := .str { t with mode := 2, code := 0, count := 4 } } (.takes, { t with mode := 3, code := n, count := 0, high := n }) = { f with n := p + 5, now := .str t3 } := by rw [ht3]; rfl
                  have k4 := second_sim (s := s) (lim := lim) (p := p + 5) (n := n) (x := z) (f := { f with n := p + 5, now := .str t3 }) (t := t3) ⟨k2.fl, rfl, k2.ps, k2.pb, k2.err⟩ hz hfz rfl (by rw [ht3]) (by rw [ht3]) hn0
                  have e4 : t3.out = t.out := by rw [ht3]
                  rw [e3]
                  cases hs2 : R6.second s lim z (p + 5) n with
                  | mk o u =>
                    rw [hs2] at k4
                    cases o with
                    | none => exact k4
                    | some v =>
                      obtain ⟨bb, q⟩ := v
                      obtain ⟨g1, g2, g3, t4, g4, g5, g6, g7⟩ := k4
                      exact ⟨by omega, ⟨g2.r, g2.tk, by rw [g2.out, k1.out, hy], by rw [g2.fr, k1.fr, hy]⟩, ⟨g3.fl, rfl, g3.ps, g3.pb, g3.err⟩, t4, g4, g5, by rw [g6, e4], by rw [hwr, k3, fourth_high (by exact hhigh) (by omega) (by omega), e3]; exact g7⟩
        · rw [if_pos (by simp [hu])]
          rw [if_neg (by simp [hu])] at hwr
          rw [hwr]
          exact fault_sim (e := 9) (p := p) (g := { f with n := p + 1, now := .str { t with mode := 0 } }) (by decide) rfl (by rw [hy]) (by rw [hy]; exact hx.ended) hfy _
end Go.Px.J6

/-! The feed of layer 19 against the reference's reader of layer 16 (plain law): signs of several bytes, strings. No program is named here. -/
namespace Go.Px.J6
open R6 (at_ blank)
variable {s : Bytes} {lim : Lim} {p : Nat} {f : Feed} {x y : R6.St}
/-- Of how many bytes more a sign is that begins so; 0: none begins so. -/
def need (c : Nat) : Nat := if decide (194 ≤ c) && decide (c < 224) then 1 else if decide (224 ≤ c) && decide (c < 240) then 2 else if decide (240 ≤ c) && decide (c < 245) then 3 else 0
def lo (c : Nat) : Nat := if c == 224 then 160 else if c == 240 then 144 else 128
def hi (c : Nat) : Nat := if c == 237 then 159 else if c == 244 then 143 else 191
def go (v : Nat) : Bool := decide (128 ≤ v) && decide (v ≤ 191)
def snd (c v : Nat) : Bool := decide (lo c ≤ v) && decide (v ≤ hi c)
theorem need_le (c : Nat) : need c ≤ 3 := by
  unfold need
  repeat' split
  all_goals omega
theorem snd_go {c v : Nat} (h : snd c v = true) : go v = true := by
  unfold snd lo hi at h
  unfold go
  simp only [Bool.and_eq_true, decide_eq_true_eq] at h ⊢
  obtain ⟨h1, h2⟩ := h
  constructor
  · split at h1
    · omega
    · split at h1 <;> omega
  · split at h2
    · omega
    · split at h2 <;> omega
theorem need0 {c : Nat} (h : c < 194 ∨ 244 < c) : need c = 0 := by
  unfold need
  rw [if_neg (show ¬ (decide (194 ≤ c) && decide (c < 224)) = true by simp; omega), if_neg (show ¬ (decide (224 ≤ c) && decide (c < 240)) = true by simp; omega), if_neg (show ¬ (decide (240 ≤ c) && decide (c < 245)) = true by simp; omega)]
theorem need1 {c : Nat} (h : 194 ≤ c ∧ c ≤ 223) : need c = 1 := by
  unfold need
  rw [if_pos (show (decide (194 ≤ c) && decide (c < 224)) = true by simp; omega)]
theorem need2 {c : Nat} (h : 224 ≤ c ∧ c ≤ 239) : need c = 2 := by
  unfold need
  rw [if_neg (show ¬ (decide (194 ≤ c) && decide (c < 224)) = true by simp; omega), if_pos (show (decide (224 ≤ c) && decide (c < 240)) = true by simp; omega)]
theorem need3 {c : Nat} (h : 240 ≤ c ∧ c ≤ 244) : need c = 3 := by
  unfold need
  rw [if_neg (show ¬ (decide (194 ≤ c) && decide (c < 224)) = true by simp; omega), if_neg (show ¬ (decide (224 ≤ c) && decide (c < 240)) = true by simp; omega), if_pos (show (decide (240 ≤ c) && decide (c < 245)) = true by simp; omega)]
theorem lo_eq (c : Nat) : lo c = if c = 224 then 160 else if c = 240 then 144 else 128 := by
  unfold lo
  simp only [beq_iff_eq]
theorem hi_eq (c : Nat) : hi c = if c = 237 then 159 else if c = 244 then 143 else 191 := by
  unfold hi
  simp only [beq_iff_eq]
theorem lo2 {c : Nat} (h : 224 ≤ c ∧ c ≤ 239) : lo c = if c == 224 then 160 else 128 := by
  rw [lo_eq]
  by_cases e : c = 224
  · rw [if_pos e, if_pos (by simpa using e)]
  · rw [if_neg e, if_neg (show ¬ c = 240 by omega), if_neg (by simpa using e)]
theorem hi2 {c : Nat} (h : 224 ≤ c ∧ c ≤ 239) : hi c = if c == 237 then 159 else 191 := by
  rw [hi_eq]
  by_cases e : c = 237
  · rw [if_pos e, if_pos (by simpa using e)]
  · rw [if_neg e, if_neg (show ¬ c = 244 by omega), if_neg (by simpa using e)]
theorem lo3 {c : Nat} (h : 240 ≤ c ∧ c ≤ 244) : lo c = if c == 240 then 144 else 128 := by
  rw [lo_eq, if_neg (show ¬ c = 224 by omega)]
  simp only [beq_iff_eq]
theorem hi3 {c : Nat} (h : 240 ≤ c ∧ c ≤ 244) : hi c = if c == 244 then 143 else 191 := by
  rw [hi_eq, if_neg (show ¬ c = 237 by omega)]
  simp only [beq_iff_eq]
theorem lo1 {c : Nat} (h : 194 ≤ c ∧ c ≤ 223) : lo c = 128 := by
  rw [lo_eq, if_neg (show ¬ c = 224 by omega), if_neg (show ¬ c = 240 by omega)]
theorem hi1 {c : Nat} (h : 194 ≤ c ∧ c ≤ 223) : hi c = 191 := by
  rw [hi_eq, if_neg (show ¬ c = 237 by omega), if_neg (show ¬ c = 244 by omega)]
/-- The reference's sign, by need. -/
theorem utf_need (b : Bytes) (hb : b ≠ []) (h : 128 ≤ at_ b 0) :
    R6.utf b = if need (at_ b 0) == 0 then 0 else if decide (need (at_ b 0) + 1 ≤ b.length) && snd (at_ b 0) (at_ b 1) && (decide (need (at_ b 0) < 2) || go (at_ b 2)) && (decide (need (at_ b 0) < 3) || go (at_ b 3)) then need (at_ b 0) + 1 else 0 := by
  have hl : ¬ b.length = 0 := fun e => hb (List.length_eq_zero_iff.1 e)
  have h128 : ¬ at_ b 0 < 128 := by omega
  have eu : R6.utf b = if decide (194 ≤ at_ b 0) && decide (at_ b 0 ≤ 223) then (if decide (2 ≤ b.length) && go (at_ b 1) then 2 else 0)
      else if decide (224 ≤ at_ b 0) && decide (at_ b 0 ≤ 239) then (if decide (3 ≤ b.length) && decide ((if at_ b 0 == 224 then 160 else 128) ≤ at_ b 1) && decide (at_ b 1 ≤ (if at_ b 0 == 237 then 159 else 191)) && go (at_ b 2) then 3 else 0)
      else if decide (240 ≤ at_ b 0) && decide (at_ b 0 ≤ 244) then (if decide (4 ≤ b.length) && decide ((if at_ b 0 == 240 then 144 else 128) ≤ at_ b 1) && decide (at_ b 1 ≤ (if at_ b 0 == 244 then 143 else 191)) && go (at_ b 2) && go (at_ b 3) then 4 else 0)
      else 0 := (if_neg hl).trans (if_neg h128)
  rw [eu]
  obtain ⟨c, hc⟩ : ∃ c, c = at_ b 0 := ⟨_, rfl⟩
  rw [← hc] at h ⊢
  clear eu hc h128
  by_cases h1 : 194 ≤ c ∧ c ≤ 223
  · rw [if_pos (show (decide (194 ≤ c) && decide (c ≤ 223)) = true by simp; omega), need1 h1]
    unfold snd go
    rw [lo1 h1, hi1 h1]
    simp
  · rw [if_neg (show ¬ (decide (194 ≤ c) && decide (c ≤ 223)) = true by simp; omega)]
    by_cases h2 : 224 ≤ c ∧ c ≤ 239
    · rw [if_pos (show (decide (224 ≤ c) && decide (c ≤ 239)) = true by simp; omega), need2 h2]
      unfold snd
      rw [lo2 h2, hi2 h2]
      simp [Bool.and_assoc]
    · rw [if_neg (show ¬ (decide (224 ≤ c) && decide (c ≤ 239)) = true by simp; omega)]
      by_cases h3 : 240 ≤ c ∧ c ≤ 244
      · rw [if_pos (show (decide (240 ≤ c) && decide (c ≤ 244)) = true by simp; omega), need3 h3]
        unfold snd
        rw [lo3 h3, hi3 h3]
        simp [Bool.and_assoc]
      · rw [if_neg (show ¬ (decide (240 ≤ c) && decide (c ≤ 244)) = true by simp; omega), need0 (by omega)]
        rfl
theorem at_app {b r : Bytes} {i : Nat} (h : i < b.length) : at_ (b ++ r) i = at_ b i := by
  unfold R6.at_
  simp only [List.getD_eq_getElem?_getD]
  rw [List.getElem?_append_left h]
theorem at_rep {b : Bytes} {k i : Nat} {v : UInt8} (h : b.length ≤ i) (h2 : i < b.length + k) : at_ (b ++ List.replicate k v) i = v.toNat := by
  unfold R6.at_
  simp only [List.getD_eq_getElem?_getD]
  rw [List.getElem?_append_right h, List.getElem?_replicate, if_pos (by omega)]
  rfl
/-- Does a sign begin with these bytes: by need. -/
theorem begins_need (b : Bytes) (hb : b ≠ []) (h4 : b.length ≤ 4) (h : 128 ≤ at_ b 0) :
    R6.begins b = (decide (need (at_ b 0) ≠ 0) && decide (b.length ≤ need (at_ b 0) + 1) && (decide (b.length < 2) || snd (at_ b 0) (at_ b 1)) && (decide (b.length < 3) || go (at_ b 2)) && (decide (b.length < 4) || go (at_ b 3))) := by
  have hl : 1 ≤ b.length := by
    have : b.length ≠ 0 := fun e => hb (List.length_eq_zero_iff.1 e)
    omega
  obtain ⟨c, hc⟩ : ∃ c, c = at_ b 0 := ⟨_, rfl⟩
  have hn3 := need_le c
  have key : R6.begins b = true ↔ (need c ≠ 0 ∧ b.length ≤ need c + 1 ∧ (b.length < 2 ∨ snd c (at_ b 1) = true) ∧ (b.length < 3 ∨ go (at_ b 2) = true) ∧ (b.length < 4 ∨ go (at_ b 3) = true)) := by
    unfold R6.begins
    simp only [List.any_eq_true, List.mem_range, beq_iff_eq]
    constructor
    · rintro ⟨k, hk, v, _, hu⟩
      have e0 : at_ (b ++ List.replicate k v) 0 = c := by rw [at_app (by omega), hc]
      rw [utf_need _ (by simp [hb]) (by rw [e0, hc]; exact h), e0] at hu
      by_cases hz : need c = 0
      · rw [if_pos (by simp [hz])] at hu
        omega
      · rw [if_neg (by simpa using hz)] at hu
        split at hu
        · rename_i hcond
          simp only [Bool.and_eq_true, Bool.or_eq_true, decide_eq_true_eq, List.length_append, List.length_replicate] at hcond
          obtain ⟨⟨⟨q1, q2⟩, q3⟩, q4⟩ := hcond
          refine ⟨hz, by omega, ?_, ?_, ?_⟩
          · by_cases e : b.length < 2
            · exact .inl e
            · rw [at_app (by omega)] at q2; exact .inr q2
          · by_cases e : b.length < 3
            · exact .inl e
            · rw [at_app (by omega)] at q3
              rcases q3 with q3 | q3
              · omega
              · exact .inr q3
          · by_cases e : b.length < 4
            · exact .inl e
            · rw [at_app (by omega)] at q4
              rcases q4 with q4 | q4
              · omega
              · exact .inr q4
        · omega
    · rintro ⟨hz, h1, h2, h3, h5⟩
      have hlo : lo c = 128 ∨ lo c = 144 ∨ lo c = 160 := by
        rw [lo_eq]
        by_cases e1 : c = 224
        · rw [if_pos e1]; exact .inr (.inr rfl)
        · rw [if_neg e1]
          by_cases e2 : c = 240
          · rw [if_pos e2]; exact .inr (.inl rfl)
          · rw [if_neg e2]; exact .inl rfl
      have hlc : snd c (lo c) = true := by
        unfold snd lo hi
        by_cases e1 : c = 224
        · subst e1; decide
        · by_cases e2 : c = 240
          · subst e2; decide
          · rw [if_neg (by simpa using e1), if_neg (by simpa using e2)]
            by_cases e3 : c = 237
            · subst e3; decide
            · by_cases e4 : c = 244
              · subst e4; decide
              · rw [if_neg (by simpa using e3), if_neg (by simpa using e4)]; decide
      have hgo : go (lo c) = true := snd_go hlc
      refine ⟨need c + 1 - b.length, by omega, UInt8.ofNat (lo c), ?_, ?_⟩
      · rcases hlo with e | e | e <;> rw [e] <;> decide
      · have hv : (UInt8.ofNat (lo c)).toNat = lo c := by rcases hlo with e | e | e <;> rw [e] <;> rfl
        have e0 : at_ (b ++ List.replicate (need c + 1 - b.length) (UInt8.ofNat (lo c))) 0 = c := by rw [at_app (by omega), hc]
        rw [utf_need _ (by simp [hb]) (by rw [e0, hc]; exact h), e0, if_neg (by simpa using hz), if_pos]
        · omega
        · simp only [Bool.and_eq_true, Bool.or_eq_true, decide_eq_true_eq, List.length_append, List.length_replicate]
          refine ⟨⟨⟨by omega, ?_⟩, ?_⟩, ?_⟩
          · by_cases e : b.length < 2
            · rw [at_rep (by omega) (by omega), hv]; exact hlc
            · rw [at_app (by omega)]; rcases h2 with h2 | h2; · omega
              · exact h2
          · by_cases e2 : need c < 2
            · exact .inl e2
            · right
              by_cases e : b.length < 3
              · rw [at_rep (by omega) (by omega), hv]; exact hgo
              · rw [at_app (by omega)]; rcases h3 with h3 | h3; · omega
                · exact h3
          · by_cases e2 : need c < 3
            · exact .inl e2
            · right
              by_cases e : b.length < 4
              · rw [at_rep (by omega) (by omega), hv]; exact hgo
              · rw [at_app (by omega)]; rcases h5 with h5 | h5; · omega
                · exact h5
  rw [← hc]
  rw [Bool.eq_iff_iff, key]
  simp only [Bool.and_eq_true, Bool.or_eq_true, decide_eq_true_eq, and_assoc]
/-! A sign of several bytes -/
theorem part_at {p q i : Nat} (h1 : p + i < q) (_h2 : q ≤ s.length) : at_ ((s.take q).drop p) i = at_ s (p + i) := by
  unfold R6.at_
  simp only [List.getD_eq_getElem?_getD, List.getElem?_drop, List.getElem?_take]
  rw [if_pos h1]
theorem part_len {p q : Nat} (h : q ≤ s.length) : ((s.take q).drop p).length = q - p := by
  rw [List.length_drop, List.length_take, Nat.min_eq_left h]
theorem part_snoc {p q : Nat} (h1 : p ≤ q) (h2 : q < s.length) : (s.take (q + 1)).drop p = (s.take q).drop p ++ [s.getD q 0] := by
  have e : s.take (q + 1) = s.take q ++ [s[q]] := (List.take_append_getElem h2).symm
  rw [e, List.drop_append_of_le_length (by rw [List.length_take]; omega)]
  congr 1
  simp [h2]
/-- The bytes of a sign from its second on: those that are there are right. -/
def Right (s : Bytes) (p q : Nat) : Prop := (p + 1 < q → snd (at_ s p) (at_ s (p + 1)) = true) ∧ (p + 2 < q → go (at_ s (p + 2)) = true) ∧ (p + 3 < q → go (at_ s (p + 3)) = true)
/-- Is the byte at q right behind those from p on? -/
def rightB (s : Bytes) (p q : Nat) : Bool := if q = p + 1 then snd (at_ s p) (at_ s q) else go (at_ s q)
theorem Right.succ {p q : Nat} (h : Right s p q) (hq : p < q) (h4 : q ≤ p + 3) (hb : rightB s p q = true) : Right s p (q + 1) := by
  unfold rightB at hb
  have h3 : q = p + 1 ∨ q = p + 2 ∨ q = p + 3 := by omega
  rcases h3 with e | e | e <;> subst e
  · rw [if_pos rfl] at hb
    exact ⟨fun _ => hb, fun w => by omega, fun w => by omega⟩
  · rw [if_neg (by omega)] at hb
    exact ⟨fun _ => h.1 (by omega), fun _ => hb, fun w => by omega⟩
  · rw [if_neg (by omega)] at hb
    exact ⟨fun _ => h.1 (by omega), fun _ => h.2.1 (by omega), fun _ => hb⟩
/-- What the reference says of the bytes from p up to q, q with them. -/
theorem sign_step {p q : Nat} (h : 128 ≤ at_ s p) (hn : need (at_ s p) ≠ 0) (hr : Right s p q) (hq : p < q) (hqn : q ≤ p + need (at_ s p)) (hl : q < s.length) :
    (R6.utf ((s.take (q + 1)).drop p) == ((s.take (q + 1)).drop p).length) = (rightB s p q && q == p + need (at_ s p)) ∧
    R6.begins ((s.take (q + 1)).drop p) = rightB s p q := by
  have hn3 := need_le (at_ s p)
  have hlen : ((s.take (q + 1)).drop p).length = q + 1 - p := part_len (by omega)
  have hne : (s.take (q + 1)).drop p ≠ [] := by intro e; rw [e] at hlen; simp at hlen; omega
  have e0 : at_ ((s.take (q + 1)).drop p) 0 = at_ s p := by have := part_at (s := s) (p := p) (q := q + 1) (i := 0) (by omega) (by omega); rw [this]; rfl
  have e1 : at_ ((s.take (q + 1)).drop p) 1 = at_ s (p + 1) := part_at (by omega) (by omega)
  have h3 : q = p + 1 ∨ q = p + 2 ∨ q = p + 3 := by omega
  constructor
  · rw [utf_need _ hne (by rw [e0]; exact h), e0, e1, if_neg (by simpa using hn), hlen]
    by_cases he : q = p + need (at_ s p)
    · have hd : decide (need (at_ s p) + 1 ≤ q + 1 - p) = true := by simp; omega
      rw [hd, Bool.true_and]
      have hqq : (q == p + need (at_ s p)) = true := by simpa using he
      rw [hqq, Bool.and_true]
      have hw : (snd (at_ s p) (at_ s (p + 1)) && (decide (need (at_ s p) < 2) || go (at_ ((s.take (q + 1)).drop p) 2)) && (decide (need (at_ s p) < 3) || go (at_ ((s.take (q + 1)).drop p) 3))) = rightB s p q := by
        unfold rightB
        rcases h3 with e | e | e
        · rw [if_pos e, show decide (need (at_ s p) < 2) = true by simp; omega, show decide (need (at_ s p) < 3) = true by simp; omega, e]
          simp
        · rw [if_neg (by omega), show decide (need (at_ s p) < 2) = false by simp; omega, show decide (need (at_ s p) < 3) = true by simp; omega, hr.1 (by omega), part_at (by omega) (by omega), e]
          simp
        · rw [if_neg (by omega), show decide (need (at_ s p) < 2) = false by simp; omega, show decide (need (at_ s p) < 3) = false by simp; omega, hr.1 (by omega), part_at (by omega) (by omega), part_at (by omega) (by omega), hr.2.1 (by omega), e]
          simp
      rw [hw]
      cases rightB s p q
      · rw [if_neg (by decide)]; simp; omega
      · rw [if_pos rfl]; simp; omega
    · have hd : decide (need (at_ s p) + 1 ≤ q + 1 - p) = false := by simp; omega
      have hqq : (q == p + need (at_ s p)) = false := by simpa using he
      rw [hd, hqq, Bool.and_false, Bool.false_and, Bool.false_and, Bool.false_and, if_neg (by decide)]
      simp; omega
  · rw [begins_need _ hne (by rw [hlen]; omega) (by rw [e0]; exact h), e0, e1, hlen]
    have d0 : decide (need (at_ s p) ≠ 0) = true := by simpa using hn
    have d1 : decide (q + 1 - p ≤ need (at_ s p) + 1) = true := by simp; omega
    have d2 : decide (q + 1 - p < 2) = false := by simp; omega
    rw [d0, d1, d2]
    unfold rightB
    rcases h3 with e | e | e
    · rw [if_pos e, show decide (q + 1 - p < 3) = true by simp; omega, show decide (q + 1 - p < 4) = true by simp; omega, e]
      simp
    · rw [if_neg (by omega), show decide (q + 1 - p < 3) = false by simp; omega, show decide (q + 1 - p < 4) = true by simp; omega, hr.1 (by omega), part_at (by omega) (by omega), e]
      simp
    · rw [if_neg (by omega), show decide (q + 1 - p < 3) = false by simp; omega, show decide (q + 1 - p < 4) = false by simp; omega, hr.1 (by omega), part_at (by omega) (by omega), part_at (by omega) (by omega), hr.2.1 (by omega), e]
      simp
theorem sign_loop (hp : 128 ≤ at_ s p) (hn : need (at_ s p) ≠ 0) : ∀ (m q : Nat) (x : R6.St) (f : Feed) (t : Txt), s.length + 1 ≤ m + q → At s lim q f → RAt s lim q x → x.r.frames = f.stack.length → f.now = .str t →
    p < q → q ≤ p + need (at_ s p) → Right s p q → t.mode = 5 → t.high = 0 → t.count = p + need (at_ s p) + 1 - q → t.least.toNat = (if q = p + 1 then lo (at_ s p) else 128) → t.most.toNat = (if q = p + 1 then hi (at_ s p) else 191) →
    match R6.signN s lim p m x q with
    | (none, y) => obs (write f (s.drop q)) = told y.r
    | (some r, y) => Goes s lim x y q r f (t.out ++ (s.take r).drop q) ∧ r ≤ s.length := by
  intro m
  induction m with
  | zero => intro q x f t hm h; have := h.ps; omega
  | succ m ih =>
    intro q x f t hm h hx hfr hnow hpq hqn hr hmode hhigh hcount hleast hmost
    unfold R6.signN
    cases hw : R6.want s lim x q with
    | mk b y =>
      cases b with
      | false => exact want_no h hx hfr (end_str hnow h.err) hw
      | true =>
        obtain ⟨h1, h2, hy, hwr⟩ := want_yes h hx hw
        obtain ⟨k1, k2⟩ := sign_step hp hn hr hpq hqn h1
        simp only
        rw [k1, k2]
        have hRA : RAt s lim (q + 1) y := by rw [hy]; exact hx.next
        have hfy : y.r.frames = f.stack.length := by rw [hy]; exact hfr
        have hA : ∀ g : Tok, At s lim (q + 1) { f with n := q + 1, now := g } := fun g => h.on h1 h2 rfl (by rw [h.n]) rfl
        have hA0 : At s lim (q + 1) { f with n := q + 1 } := h.on h1 h2 rfl (by rw [h.n]) rfl
        have hin : rightB s p q = !(decide (s.getD q 0 < t.least) || decide (t.most < s.getD q 0)) := by
          have e1 : decide (s.getD q 0 < t.least) = decide (at_ s q < t.least.toNat) := rfl
          have e2 : decide (t.most < s.getD q 0) = decide (t.most.toNat < at_ s q) := rfl
          rw [e1, e2, hleast, hmost]
          unfold rightB
          by_cases e : q = p + 1
          · rw [if_pos e, if_pos e, if_pos e]
            unfold snd
            rw [Bool.not_or, ← decide_not, ← decide_not]
            congr 1 <;> simp
          · rw [if_neg e, if_neg e, if_neg e]
            unfold go
            rw [Bool.not_or, ← decide_not, ← decide_not]
            congr 1 <;> simp
        have e0 : txtTake t (s.getD q 0) = if decide (s.getD q 0 < t.least) || decide (t.most < s.getD q 0) then (.refuses, t) else (.takes, { t with out := t.out ++ [s.getD q 0], least := 128, most := 191, count := t.count - 1, mode := if t.count - 1 == 0 then 0 else 5 }) := by
          unfold txtTake
          rw [if_neg (by simp [hmode]), if_neg (by simp [hmode]), if_neg (by simp [hmode]), if_neg (by simp [hmode]), if_pos (by simp [hmode])]
        rw [takeC_str hnow, e0, h.n] at hwr
        cases hrb : rightB s p q with
        | false =>
          rw [hrb] at hin
          have hin' : (decide (s.getD q 0 < t.least) || decide (t.most < s.getD q 0)) = true := by
            cases hz : (decide (s.getD q 0 < t.least) || decide (t.most < s.getD q 0))
            · rw [hz] at hin; cases hin
            · rfl
          rw [if_pos hin'] at hwr
          rw [Bool.false_and, if_neg (by decide), Bool.not_false, if_pos rfl]
          simp only
          rw [hwr]
          exact fault_sim (p := q) (g := { f with n := q + 1, now := .str t }) (by decide) rfl (by rw [hy]) (by rw [hy]; exact hx.ended) hfy _
        | true =>
          rw [hrb] at hin
          have hin' : (decide (s.getD q 0 < t.least) || decide (t.most < s.getD q 0)) = false := by
            cases hz : (decide (s.getD q 0 < t.least) || decide (t.most < s.getD q 0))
            · rfl
            · rw [hz] at hin; cases hin
          rw [hin', if_neg (by decide)] at hwr
          obtain ⟨t2, ht2⟩ : ∃ t2 : Txt, t2 = { t with out := t.out ++ [s.getD q 0], least := 128, most := 191, count := t.count - 1, mode := if t.count - 1 == 0 then 0 else 5 } := ⟨_, rfl⟩
          rw [← ht2] at hwr
          have hwr : write f (s.drop q) = write { f with n := q + 1, now := .str t2 } (s.drop (q + 1)) := hwr
          rw [Bool.true_and]
          have hout : t2.out = t.out ++ (s.take (q + 1)).drop q := by
            rw [ht2, part_snoc (Nat.le_refl q) h1, E5.drop_take_self, List.nil_append]
          by_cases he : q = p + need (at_ s p)
          · rw [if_pos (by simpa using he)]
            have hc1 : t.count - 1 = 0 := by omega
            exact ⟨⟨Nat.lt_succ_self q, ⟨hRA, by rw [hy], by rw [hy], by rw [hy]⟩, hA0, t2, by rw [ht2]; simp [hc1], by rw [ht2]; exact hhigh, hout, hwr⟩, h1⟩
          · rw [if_neg (by simpa using he), Bool.not_true, if_neg (by decide)]
            have hc1 : ¬ t.count - 1 = 0 := by omega
            have k := ih (q + 1) y { f with n := q + 1, now := .str t2 } t2 (by omega) (hA _) hRA hfy rfl (by omega) (by omega) (hr.succ hpq (by have := need_le (at_ s p); omega) hrb) (by rw [ht2]; simp [hc1]) (by rw [ht2]; exact hhigh) (by rw [ht2]; show t.count - 1 = _; omega) (by rw [ht2, if_neg (show ¬ q + 1 = p + 1 by omega)]; rfl) (by rw [ht2, if_neg (show ¬ q + 1 = p + 1 by omega)]; rfl)
            rw [hwr]
            cases hs : R6.signN s lim p m y (q + 1) with
            | mk o z =>
              rw [hs] at k
              cases o with
              | none => exact k
              | some r =>
                obtain ⟨⟨g1, g2, g3, t3, g4, g5, g6, g7⟩, g8⟩ := k
                refine ⟨⟨by omega, ⟨g2.r, g2.tk, by rw [g2.out, hy], by rw [g2.fr, hy]⟩, ⟨g3.fl, rfl, g3.ps, g3.pb, g3.err⟩, t3, g4, g5, ?_, hwr.trans g7⟩, g8⟩
                rw [g6, hout, List.append_assoc]
                congr 1
                exact (E5.take_split (Nat.le_succ q) (by omega)).symm
/-- A sign of several bytes, its first byte looked at. -/
theorem sign_sim {t : Txt} (h : At s lim p f) (hx : RAt s lim p x) (hfr : x.r.frames = f.stack.length) (hhigh : t.high = 0) (h1 : p < s.length) (h2 : (p : Int) < lim.b) (htk : x.r.taken = p + 1) (hc : 128 ≤ at_ s p)
    (hwr : write f (s.drop p) = write (onStr { f with n := p + 1 } (signBegin t (at_ s p))) (s.drop (p + 1))) :
    match R6.sign s lim x p with
    | (none, y) => obs (write f (s.drop p)) = told y.r
    | (some q, y) => Goes s lim x y p q f (t.out ++ (s.take q).drop p) ∧ q ≤ s.length := by
  unfold R6.sign
  obtain ⟨m, hm⟩ : ∃ m, s.length + 1 - p = m + 1 := ⟨s.length - p, by omega⟩
  rw [hm]
  unfold R6.signN
  have hw : R6.want s lim x p = (true, x) := by
    rcases want_cases s lim x p with ⟨_, _, e⟩ | ⟨c1, _, _⟩ | ⟨c1, _, _⟩
    · rw [e]
      unfold R5.take
      rw [Nat.max_eq_left (by omega)]
    · exact absurd ⟨h1, h2⟩ c1
    · exact absurd ⟨h1, h2⟩ c1
  rw [hw]
  simp only
  have hb : (s.take (p + 1)).drop p = [s.getD p 0] := by rw [part_snoc (Nat.le_refl p) h1, E5.drop_take_self, List.nil_append]
  have hb0 : at_ [s.getD p 0] 0 = at_ s p := rfl
  rw [hb, utf_need _ (by simp) (by rw [hb0]; exact hc), begins_need _ (by simp) (by simp) (by rw [hb0]; exact hc), hb0]
  unfold signBegin at hwr
  have hnd : (if decide (194 ≤ at_ s p) && decide (at_ s p < 224) then 1 else if decide (224 ≤ at_ s p) && decide (at_ s p < 240) then 2 else if decide (240 ≤ at_ s p) && decide (at_ s p < 245) then 3 else 0) = need (at_ s p) := rfl
  simp only at hwr
  rw [hnd] at hwr
  by_cases hn : need (at_ s p) = 0
  · rw [hn] at hwr ⊢
    rw [if_pos (by decide)] at hwr
    rw [if_neg (show ¬ ((if ((0 : Nat) == 0) = true then 0 else _) == [s.getD p 0].length) = true from fun w => Bool.noConfusion w), if_pos (show (!(decide ((0 : Nat) ≠ 0) && _ && _ && _ && _)) = true from rfl)]
    simp only
    rw [hwr]
    exact fault_sim (e := 9) (p := p) (g := { f with n := p + 1, now := .str { t with mode := 5, least := 128, most := 191 } }) (by decide) rfl htk hx.ended hfr _
  · rw [if_neg (by simpa using hn)] at hwr
    have hn3 := need_le (at_ s p)
    have e1 : ((if (need (at_ s p) == 0) = true then 0 else if (decide (need (at_ s p) + 1 ≤ [s.getD p 0].length) && snd (at_ s p) (at_ [s.getD p 0] 1) && (decide (need (at_ s p) < 2) || go (at_ [s.getD p 0] 2)) && (decide (need (at_ s p) < 3) || go (at_ [s.getD p 0] 3))) = true then need (at_ s p) + 1 else 0) == [s.getD p 0].length) = false := by
      rw [if_neg (by simpa using hn), if_neg]
      · rfl
      · have : decide (need (at_ s p) + 1 ≤ [s.getD p 0].length) = false := by simp; omega
        rw [this]
        simp
    rw [e1, if_neg (by decide)]
    have e2 : (decide (need (at_ s p) ≠ 0) && decide ([s.getD p 0].length ≤ need (at_ s p) + 1) && (decide ([s.getD p 0].length < 2) || snd (at_ s p) (at_ [s.getD p 0] 1)) && (decide ([s.getD p 0].length < 3) || go (at_ [s.getD p 0] 2)) && (decide ([s.getD p 0].length < 4) || go (at_ [s.getD p 0] 3))) = true := by
      have : decide (need (at_ s p) ≠ 0) = true := by simpa using hn
      rw [this]
      simp
    rw [e2, Bool.not_true, if_neg (by decide)]
    obtain ⟨t2, ht2⟩ : ∃ t2 : Txt, t2 = { t with mode := 5, count := need (at_ s p), least := (if at_ s p == 224 then 160 else if at_ s p == 240 then 144 else 128), most := (if at_ s p == 237 then 159 else if at_ s p == 244 then 143 else 191), out := t.out ++ [UInt8.ofNat (at_ s p)] } := ⟨_, rfl⟩
    have hwr : write f (s.drop p) = write { f with n := p + 1, now := .str t2 } (s.drop (p + 1)) := by rw [hwr, ht2]; rfl
    have hA : At s lim (p + 1) { f with n := p + 1, now := .str t2 } := h.on h1 h2 rfl (by rw [h.n]) rfl
    have hRA : RAt s lim (p + 1) x := ⟨by omega, by omega, fun e => by omega, hx.err, hx.place, hx.ended⟩
    have hl1 : t2.least.toNat = lo (at_ s p) := by
      rw [ht2]
      show (if (at_ s p == 224) = true then (160 : UInt8) else if (at_ s p == 240) = true then 144 else 128).toNat = lo (at_ s p)
      unfold lo
      cases at_ s p == 224
      · cases at_ s p == 240 <;> rfl
      · rfl
    have hl2 : t2.most.toNat = hi (at_ s p) := by
      rw [ht2]
      show (if (at_ s p == 237) = true then (159 : UInt8) else if (at_ s p == 244) = true then 143 else 191).toNat = hi (at_ s p)
      unfold hi
      cases at_ s p == 237
      · cases at_ s p == 244 <;> rfl
      · rfl
    have hb3 : UInt8.ofNat (at_ s p) = s.getD p 0 := UInt8.toNat_inj.1 (by unfold R6.at_; simp)
    have k := sign_loop (s := s) (lim := lim) hc hn m (p + 1) x { f with n := p + 1, now := .str t2 } t2 (by omega) hA hRA hfr rfl (by omega) (by omega) ⟨fun w => by omega, fun w => by omega, fun w => by omega⟩ (by rw [ht2]) (by rw [ht2]; exact hhigh) (by rw [ht2]; show need (at_ s p) = _; omega) (by rw [if_pos rfl]; exact hl1) (by rw [if_pos rfl]; exact hl2)
    rw [hwr]
    cases hs : R6.signN s lim p m x (p + 1) with
    | mk o z =>
      rw [hs] at k
      cases o with
      | none => exact k
      | some r =>
        obtain ⟨⟨g1, g2, g3, t3, g4, g5, g6, g7⟩, g8⟩ := k
        refine ⟨⟨by omega, g2, ⟨g3.fl, rfl, g3.ps, g3.pb, g3.err⟩, t3, g4, g5, ?_, hwr.trans g7⟩, g8⟩
        rw [g6, ht2, E5.take_split (show p ≤ p + 1 by omega) (show p + 1 ≤ r by omega), hb, hb3, List.append_assoc]
/-! Strings -/
theorem text_sim : ∀ (m p : Nat) (x : R6.St) (f : Feed) (t : Txt), s.length + 1 ≤ m + p → At s lim p f → RAt s lim p x → x.r.frames = f.stack.length → f.now = .str t → t.mode = 0 → t.high = 0 →
    match R6.textN s lim m x p t.out with
    | (none, y) => obs (write f (s.drop p)) = told y.r
    | (some (b, q), y) => p < q ∧ Went s lim x y q ∧ At s lim q { f with n := q } ∧ ∃ t' : Txt, t'.out = b ∧ write f (s.drop p) = write (finish { f with n := q, now := .str t' }) (s.drop q) := by
  intro m
  induction m with
  | zero => intro p x f t hm h; have := h.ps; omega
  | succ m ih =>
    intro p x f t hm h hx hfr hnow hmode hhigh
    unfold R6.textN
    cases hw : R6.want s lim x p with
    | mk b y =>
      cases b with
      | false => exact want_no h hx hfr (end_str hnow h.err) hw
      | true =>
        obtain ⟨h1, h2, hy, hwr⟩ := want_yes h hx hw
        have hRA : RAt s lim (p + 1) y := by rw [hy]; exact hx.next
        have hfy : y.r.frames = f.stack.length := by rw [hy]; exact hfr
        have hA : ∀ g : Tok, At s lim (p + 1) { f with n := p + 1, now := g } := fun g => h.on h1 h2 rfl (by rw [h.n]) rfl
        have hA0 : At s lim (p + 1) { f with n := p + 1 } := h.on h1 h2 rfl (by rw [h.n]) rfl
        rw [takeC_str hnow, h.n] at hwr
        have e0 : txtTake t (s.getD p 0) = if s.getD p 0 == 34 then (.ends, t) else if s.getD p 0 < 32 then (.refuses, t) else if s.getD p 0 == 92 then (.takes, { t with mode := 1 }) else if 128 ≤ s.getD p 0 then signBegin t (at_ s p) else (.takes, { t with out := t.out ++ [s.getD p 0] }) := by
          unfold txtTake
          rw [if_neg (by simp [hmode]), if_neg (by simp [hmode]), if_neg (by simp [hmode]), if_neg (by simp [hmode]), if_neg (by simp [hmode])]
          rfl
        rw [e0] at hwr
        simp only
        by_cases c1 : at_ s p = 34
        · rw [if_pos (by simpa using c1)]
          have c1' : s.getD p 0 = 34 := UInt8.toNat_inj.1 c1
          rw [if_pos (by rw [c1']; decide)] at hwr
          exact ⟨Nat.lt_succ_self p, ⟨hRA, by rw [hy], by rw [hy], by rw [hy]⟩, hA0, t, rfl, hwr⟩
        · have c1' : ¬ (s.getD p 0 == 34) = true := by
            rw [beq_iff_eq]
            intro e
            exact c1 (by unfold R6.at_; rw [e]; rfl)
          rw [if_neg (by simpa using c1)]
          rw [if_neg c1'] at hwr
          by_cases c2 : at_ s p < 32
          · rw [if_pos c2]
            rw [if_pos (show s.getD p 0 < 32 from c2)] at hwr
            simp only
            rw [hwr]
            exact fault_sim (e := 9) (p := p) (g := { f with n := p + 1, now := .str t }) (by decide) rfl (by rw [hy]) (by rw [hy]; exact hx.ended) hfy _
          · rw [if_neg c2]
            rw [if_neg (show ¬ s.getD p 0 < 32 from c2)] at hwr
            by_cases c3 : at_ s p = 92
            · rw [if_pos (by simpa using c3)]
              have c3' : s.getD p 0 = 92 := UInt8.toNat_inj.1 c3
              rw [if_pos (by rw [c3']; decide)] at hwr
              have hwr : write f (s.drop p) = write { f with n := p + 1, now := .str { t with mode := 1 } } (s.drop (p + 1)) := hwr
              have k := escape_sim (s := s) (lim := lim) (p := p + 1) (x := y) (f := { f with n := p + 1, now := .str { t with mode := 1 } }) (t := { t with mode := 1 }) (hA _) hRA hfy rfl rfl hhigh
              rw [hwr]
              cases hs : R6.escape s lim y (p + 1) with
              | mk o z =>
                rw [hs] at k
                cases o with
                | none => exact k
                | some v =>
                  obtain ⟨b, q⟩ := v
                  obtain ⟨g1, g2, g3, t3, g4, g5, g6, g7⟩ := k
                  have k2 := ih q z { f with n := q, now := .str t3 } t3 (by omega) ⟨g3.fl, rfl, g3.ps, g3.pb, g3.err⟩ g2.r (g2.fr.trans hfy) rfl g4 g5
                  rw [g6] at k2
                  have g7 : write { f with n := p + 1, now := .str { t with mode := 1 } } (s.drop (p + 1)) = write { f with n := q, now := .str t3 } (s.drop q) := g7
                  simp only at k2 ⊢
                  rw [g7]
                  cases hs2 : R6.textN s lim m z q (t.out ++ b) with
                  | mk o u =>
                    rw [hs2] at k2
                    cases o with
                    | none => exact k2
                    | some v =>
                      obtain ⟨b2, q2⟩ := v
                      obtain ⟨i1, i2, i3, t4, i4, i5⟩ := k2
                      exact ⟨by omega, ⟨i2.r, i2.tk, by rw [i2.out, g2.out, hy], by rw [i2.fr, g2.fr, hy]⟩, ⟨i3.fl, rfl, i3.ps, i3.pb, i3.err⟩, t4, i4, i5⟩
            · have c3' : ¬ (s.getD p 0 == 92) = true := by
                rw [beq_iff_eq]
                intro e
                exact c3 (by unfold R6.at_; rw [e]; rfl)
              rw [if_neg (by simpa using c3)]
              rw [if_neg c3'] at hwr
              by_cases c4 : 128 ≤ at_ s p
              · rw [if_pos c4]
                rw [if_pos (show 128 ≤ s.getD p 0 from c4)] at hwr
                have k := sign_sim (s := s) (lim := lim) (p := p) (x := y) (f := f) (t := t) h (by rw [hy]; exact hx.peek h1 h2) hfy hhigh h1 h2 (by rw [hy]) c4 hwr
                cases hs : R6.sign s lim y p with
                | mk o z =>
                  rw [hs] at k
                  cases o with
                  | none => exact k
                  | some q =>
                    obtain ⟨⟨g1, g2, g3, t3, g4, g5, g6, g7⟩, _⟩ := k
                    have k2 := ih q z { f with n := q, now := .str t3 } t3 (by omega) ⟨g3.fl, rfl, g3.ps, g3.pb, g3.err⟩ g2.r (g2.fr.trans hfy) rfl g4 g5
                    rw [g6] at k2
                    simp only at k2 ⊢
                    rw [g7]
                    cases hs2 : R6.textN s lim m z q (t.out ++ (s.take q).drop p) with
                    | mk o u =>
                      rw [hs2] at k2
                      cases o with
                      | none => exact k2
                      | some v =>
                        obtain ⟨b2, q2⟩ := v
                        obtain ⟨i1, i2, i3, t4, i4, i5⟩ := k2
                        exact ⟨by omega, ⟨i2.r, i2.tk, by rw [i2.out, g2.out, hy], by rw [i2.fr, g2.fr, hy]⟩, ⟨i3.fl, rfl, i3.ps, i3.pb, i3.err⟩, t4, i4, i5⟩
              · rw [if_neg c4]
                rw [if_neg (show ¬ 128 ≤ s.getD p 0 from c4)] at hwr
                have hwr : write f (s.drop p) = write { f with n := p + 1, now := .str { t with out := t.out ++ [s.getD p 0] } } (s.drop (p + 1)) := hwr
                have k2 := ih (p + 1) y { f with n := p + 1, now := .str { t with out := t.out ++ [s.getD p 0] } } { t with out := t.out ++ [s.getD p 0] } (by omega) (hA _) hRA hfy rfl hmode hhigh
                rw [hwr]
                simp only at k2 ⊢
                cases hs2 : R6.textN s lim m y (p + 1) (t.out ++ [s.getD p 0]) with
                | mk o u =>
                  rw [hs2] at k2
                  cases o with
                  | none => exact k2
                  | some v =>
                    obtain ⟨b2, q2⟩ := v
                    obtain ⟨i1, i2, i3, t4, i4, i5⟩ := k2
                    exact ⟨by omega, ⟨i2.r, i2.tk, by rw [i2.out, hy], by rw [i2.fr, hy]⟩, ⟨i3.fl, rfl, i3.ps, i3.pb, i3.err⟩, t4, i4, i5⟩
end Go.Px.J6

/-! The feed of layer 19 against the reference's reader of layer 16 (plain law): numbers. No program is named here. -/
namespace Go.Px.J6
open R6 (at_ blank numNext numEnd setText)
variable {s : Bytes} {lim : Lim} {p : Nat} {f : Feed} {x y : R6.St}
/-- What may be read. -/
def upTo (s : Bytes) (lim : Lim) : Nat := min s.length lim.b.toNat
theorem takeC_num {q : Nat} {t : Bytes} (h : f.now = .num q t) (c : UInt8) : takeC f c = match numNext q c.toNat with
    | some k => { f with n := f.n + 1, now := .num k (t ++ [c]) }
    | none => if numEnd q then structure_ (finish { f with n := f.n + 1, now := .num q t }) c else wrong { f with n := f.n + 1, now := .num q t } (f.n : Nat) 9 := by
  unfold takeC
  simp only [h, tokTake, numTake]
  cases numNext q c.toNat with
  | some k => rfl
  | none =>
    simp only
    by_cases he : numEnd q = true
    · rw [if_pos he, if_pos he]
    · rw [if_neg he, if_neg he]
      rfl
theorem num_sim (hb : 0 ≤ lim.b) : ∀ (k p q : Nat) (f : Feed) (t : Bytes), upTo s lim = p + k → At s lim p f → f.now = .num q t →
    ∃ q' r, r = p + (R6.numN q ((s.take (upTo s lim)).drop p)).1 ∧ numEnd q' = (R6.numN q ((s.take (upTo s lim)).drop p)).2 ∧ r ≤ upTo s lim ∧ (r < upTo s lim → numNext q' (at_ s r) = none) ∧
      At s lim r { f with n := r } ∧ write f (s.drop p) = write { f with n := r, now := .num q' (t ++ (s.take r).drop p) } (s.drop r) := by
  intro k
  induction k with
  | zero =>
    intro p q f t hk h hnow
    have e0 : (s.take (upTo s lim)).drop p = [] := List.drop_eq_nil_of_le (by rw [List.length_take]; omega)
    rw [e0]
    refine ⟨q, p, rfl, rfl, by omega, fun w => by omega, ?_, ?_⟩
    · exact ⟨h.fl, rfl, h.ps, h.pb, h.err⟩
    · rw [E5.drop_take_self, List.append_nil, ← hnow, ← h.n]
  | succ k ih =>
    intro p q f t hk h hnow
    have hpl : p < s.length := by unfold upTo at hk; omega
    have hpb : (p : Int) < lim.b := by unfold upTo at hk; omega
    have e0 : (s.take (upTo s lim)).drop p = s.getD p 0 :: (s.take (upTo s lim)).drop (p + 1) := E5.drop_take_cons hpl (by omega)
    rw [e0]
    have hwr : write f (s.drop p) = write (takeC f (s.getD p 0)) (s.drop (p + 1)) := by
      have hg : s.getD p 0 = s[p] := by simp [hpl]
      rw [hg, List.drop_eq_getElem_cons hpl, write_cons, if_pos (by rw [h.err]; rfl)]
      unfold byte
      rw [if_neg (by rw [h.n, h.fl]; simp; omega)]
    unfold R6.numN
    cases hn : numNext q (s.getD p 0).toNat with
    | none =>
      refine ⟨q, p, rfl, rfl, by omega, fun _ => hn, ?_, ?_⟩
      · exact ⟨h.fl, rfl, h.ps, h.pb, h.err⟩
      · rw [E5.drop_take_self, List.append_nil, ← hnow, ← h.n]
    | some j =>
      have e1 : takeC f (s.getD p 0) = { f with n := p + 1, now := .num j (t ++ [s.getD p 0]) } := by
        rw [takeC_num hnow, hn, h.n]
      obtain ⟨q', r, r1, r2, r3, r4, r5, r6⟩ := ih (p + 1) j { f with n := p + 1, now := .num j (t ++ [s.getD p 0]) } (t ++ [s.getD p 0]) (by omega) (h.on hpl hpb rfl (by rw [h.n]) rfl) rfl
      simp only
      refine ⟨q', r, by omega, r2, r3, r4, ⟨r5.fl, rfl, r5.ps, r5.pb, r5.err⟩, ?_⟩
      rw [hwr, e1, r6]
      have hr : p + 1 ≤ r := by omega
      rw [E5.take_split (show p ≤ p + 1 by omega) hr, part_snoc (Nat.le_refl p) hpl, E5.drop_take_self, List.nil_append, List.append_assoc]
theorem finish_num {q : Nat} {t : Bytes} (h : f.now = .num q t) : finish f = over { f with now := .none, out := setText f.out (f.out.length - 1) t } := by
  unfold finish
  rw [h]
/-- A whole number that does not go on is as one that has ended. -/
theorem finish_alike {q : Nat} {t : Bytes} (h : At s lim p f) (hnow : f.now = .num q t) (he : numEnd q = true) (hn : p < upTo s lim → numNext q (at_ s p) = none) (hb : 0 ≤ lim.b) :
    obs (write f (s.drop p)) = obs (write (finish f) (s.drop p)) := by
  have hps := h.ps
  have hpb := h.pb
  have hf := finish_num hnow
  have hferr : (finish f).err = 0 := by rw [hf]; exact h.err
  have hfn : (finish f).n = p := by rw [hf]; exact h.n
  have hfl : (finish f).lim = lim := by rw [hf]; exact h.fl
  by_cases hlt : p < s.length
  · have hg : s.getD p 0 = s[p] := by simp [hlt]
    rw [List.drop_eq_getElem_cons hlt, write_cons, write_cons, if_pos (by rw [h.err]; rfl), if_pos (by rw [hferr]; rfl)]
    unfold byte
    by_cases hpl : (p : Int) = lim.b
    · rw [if_pos (by rw [h.n, h.fl, hpl]; simp), if_pos (by rw [hfn, hfl, hpl]; simp), h.fl, hfl, obs_wrong _ _ _ (by decide), obs_wrong _ _ _ (by decide), hfn, h.n]
      congr 3
      rw [hf]
      rfl
    · rw [if_neg (by rw [h.n, h.fl]; simpa using hpl), if_neg (by rw [hfn, hfl]; simpa using hpl)]
      have hn' := hn (by unfold upTo; omega)
      have e1 : takeC f s[p] = takeC (finish f) s[p] := by
        rw [← hg, takeC_num hnow, show numNext q (s.getD p 0).toNat = none from hn']
        simp only
        rw [if_pos he]
        have hnow2 : (finish f).now = .none := by rw [hf]; rfl
        unfold takeC
        simp only [hnow2]
        congr 1
        rw [hf, finish_num (f := { f with n := f.n + 1, now := .num q t }) rfl]
        rfl
      rw [e1]
  · rw [List.drop_eq_nil_of_le (by omega)]
    show obs f = obs (finish f)
    have e1 : End f = if numEnd q && f.stack.isEmpty then (setText f.out (f.out.length - 1) t, 0, 0) else ([], (f.n : Int), 9) := by
      unfold End
      rw [if_neg (show ¬ (f.err != 0) = true by simp [h.err]), hnow]
    have e2 : End (finish f) = if (if f.stack.isEmpty then 6 else 5) == 6 then (setText f.out (f.out.length - 1) t, 0, 0) else ([], (f.n : Int), 9) := by
      rw [hf]
      exact if_neg (show ¬ (f.err != 0) = true by simp [h.err])
    unfold obs
    rw [e1, e2, hf, he, Bool.true_and]
    cases hs : f.stack.isEmpty with
    | true => rfl
    | false => rfl
end Go.Px.J6

/-! The feed of layer 19 against the reference's reader of layer 16 (plain law): values without elements. No program is named here. -/
namespace Go.Px.J6
open R6 (at_ blank numNext numEnd setText setKind bump)
variable {s : Bytes} {lim : Lim} {p : Nat} {f : Feed} {x y : R6.St}
def v0 : Val := ⟨0, 0, []⟩
theorem vbump_len (l : List Val) (i : Nat) (k : Int) : (bump l i k).length = l.length := List.length_modify _ _ _
theorem bump_app : ∀ (l r : List Val) (i : Nat) (k : Int), i < l.length → bump (l ++ r) i k = bump l i k ++ r
  | [], _, _, _, h => by simp at h
  | a :: l, r, 0, k, _ => rfl
  | a :: l, r, i + 1, k, h => by
    have := bump_app l r i k (by simpa using h)
    unfold R6.bump at *
    simp only [List.cons_append, List.modify_succ_cons, this]
theorem bump_comm : ∀ (l : List Val) (i j : Nat) (k m : Int), bump (bump l i k) j m = bump (bump l j m) i k
  | [], _, _, _, _ => by unfold R6.bump; simp
  | a :: l, 0, 0, k, m => by
    unfold R6.bump
    simp only [List.modify_zero_cons]
    congr 2
    omega
  | a :: l, 0, j + 1, _, _ => rfl
  | a :: l, i + 1, 0, _, _ => rfl
  | a :: l, i + 1, j + 1, k, m => by
    have := bump_comm l i j k m
    unfold R6.bump at *
    simp only [List.modify_succ_cons, this]
theorem bump_two : ∀ (l : List Val) (i : Nat), bump (bump l i 1) i 1 = bump l i 2
  | [], _ => by unfold R6.bump; simp
  | a :: l, 0 => by
    unfold R6.bump
    simp only [List.modify_zero_cons]
    congr 2
    omega
  | a :: l, i + 1 => by
    have := bump_two l i
    unfold R6.bump at *
    simp only [List.modify_succ_cons, this]
theorem bump_kind (l : List Val) (i j : Nat) (k : Int) : ((bump l i k).getD j v0).kind = (l.getD j v0).kind := by
  unfold R6.bump
  simp only [List.getD_eq_getElem?_getD, List.getElem?_modify]
  cases l[j]? with
  | none => split <;> rfl
  | some a => split <;> rfl
/-- Kids that are counted by the feed and not by the reader yet. -/
def bl : List Nat → List Val → List Val
  | [], l => l
  | i :: P, l => bump (bl P l) i 1
theorem bl_len (l : List Val) : ∀ P, (bl P l).length = l.length
  | [] => rfl
  | i :: P => by unfold bl; rw [vbump_len, bl_len l P]
theorem bl_app (l r : List Val) : ∀ P : List Nat, (∀ i ∈ P, i < l.length) → bl P (l ++ r) = bl P l ++ r
  | [], _ => rfl
  | i :: P, h => by
    unfold bl
    rw [bl_app l r P (fun k hk => h k (List.mem_cons_of_mem _ hk)), bump_app _ _ _ _ (by rw [bl_len]; exact h i (List.mem_cons_self ..))]
theorem bl_bump (l : List Val) (i : Nat) (k : Int) : ∀ P : List Nat, bl P (bump l i k) = bump (bl P l) i k
  | [] => rfl
  | n :: P => by unfold bl; rw [bl_bump l i k P, bump_comm]
theorem bl_kind (l : List Val) (j : Nat) : ∀ P : List Nat, ((bl P l).getD j v0).kind = (l.getD j v0).kind
  | [] => rfl
  | i :: P => by unfold bl; rw [bump_kind, bl_kind l j P]
def hold (st : List Fm) (P : List Nat) : List Nat := match st with
  | [] => P
  | h :: _ => h.no :: P
theorem setText_last (l : List Val) (a : Val) (t : Bytes) (i : Nat) (hi : i = l.length) : setText (l ++ [a]) i t = l ++ [{ a with text := t }] := by
  subst hi
  unfold R6.setText
  induction l with
  | nil => rfl
  | cons b l ih => simp only [List.cons_append, List.length_cons, List.modify_succ_cons, ih]
theorem setKind_last (l : List Val) (a : Val) (k : Int) : setKind (l ++ [a]) l.length k = l ++ [{ a with kind := k }] := by
  unfold R6.setKind
  induction l with
  | nil => rfl
  | cons b l ih => simp only [List.cons_append, List.length_cons, List.modify_succ_cons, ih]
theorem setText_bl (l : List Val) (a : Val) (t : Bytes) (P : List Nat) (h : ∀ i ∈ P, i < l.length) : setText (bl P (l ++ [a])) ((bl P (l ++ [a])).length - 1) t = bl P (l ++ [{ a with text := t }]) := by
  rw [bl_len, bl_app _ _ _ h, bl_app _ _ _ h]
  exact setText_last _ _ _ _ (by rw [bl_len, List.length_append]; simp)
/-- The list goes on; kinds stay. -/
def Ext (l m : List Val) : Prop := l.length ≤ m.length ∧ ∀ i, i < l.length → (m.getD i v0).kind = (l.getD i v0).kind
theorem Ext.refl (l : List Val) : Ext l l := ⟨Nat.le_refl _, fun _ _ => rfl⟩
theorem Ext.trans {a b c : List Val} (h : Ext a b) (k : Ext b c) : Ext a c := ⟨Nat.le_trans h.1 k.1, fun i hi => (k.2 i (Nat.lt_of_lt_of_le hi h.1)).trans (h.2 i hi)⟩
theorem Ext.snoc (l : List Val) (a : Val) : Ext l (l ++ [a]) := ⟨by simp, fun i hi => by simp only [List.getD_eq_getElem?_getD]; rw [List.getElem?_append_left hi]⟩
theorem Ext.bump (l : List Val) (i : Nat) (k : Int) : Ext l (bump l i k) := ⟨by rw [vbump_len]; exact Nat.le_refl _, fun j _ => bump_kind l i j k⟩
/-- Ahead of a value whose first byte was looked at. -/
structure VIn (s : Bytes) (lim : Lim) (d : Nat) (x : R6.St) (p : Nat) (f : Feed) (P : List Nat) : Prop where
  a : At s lim p f
  r : RAt s lim p x
  tk : x.r.taken = p + 1
  nb : blank (at_ s p) = false
  fr : x.r.frames = f.stack.length
  now : f.now = .none
  nx : f.next = 0 ∨ (f.next = 1 ∧ object f = false ∧ at_ s p ≠ 93)
  out : f.out = bl P x.out
  ix : ∀ i ∈ P, i < x.out.length
  hx : ∀ h, f.stack.head? = some h → h.no < x.out.length
  dep : ((f.stack.length + d : Nat) : Int) = lim.d
  oi : (x.out.length : Int) ≤ lim.i
/-- Behind a value. -/
structure VOut (s : Bytes) (lim : Lim) (x y : R6.St) (p q : Nat) (f : Feed) (P : List Nat) (g : Feed) : Prop where
  lt : p < q
  r : RAt s lim q y
  tk : y.r.taken = q
  fr : y.r.frames = x.r.frames
  ext : Ext x.out y.out
  oi : (y.out.length : Int) ≤ lim.i
  a : At s lim q g
  now : g.now = .none
  st : g.stack = f.stack
  nx : g.next = if f.stack.isEmpty then 6 else 5
  out : g.out = bl (hold f.stack P) y.out
  ob : obs (write f (s.drop p)) = obs (write g (s.drop q))
def VSim (s : Bytes) (lim : Lim) (d : Nat) (rc : R6.St → Nat → Option Nat × R6.St) : Prop := ∀ x p f P, VIn s lim d x p f P →
  match rc x p with
  | (none, y) => obs (write f (s.drop p)) = told y.r
  | (some q, y) => ∃ g, VOut s lim x y p q f P g
theorem peek_want {p : Nat} (hr : RAt s lim p x) (htk : x.r.taken = p + 1) : R6.want s lim x p = (true, x) ∧ p < s.length ∧ (p : Int) < lim.b := by
  obtain ⟨h1, h2⟩ := hr.pk htk
  refine ⟨?_, h1, h2⟩
  rcases want_cases s lim x p with ⟨_, _, e⟩ | ⟨c1, _, _⟩ | ⟨c1, _, _⟩
  · rw [e]
    unfold R5.take
    rw [Nat.max_eq_left (by omega)]
  · exact absurd ⟨h1, h2⟩ c1
  · exact absurd ⟨h1, h2⟩ c1
theorem peek_next {p : Nat} (hr : RAt s lim p x) (htk : x.r.taken = p + 1) : RAt s lim (p + 1) x :=
  ⟨by omega, by omega, fun e => by omega, hr.err, hr.place, hr.ended⟩
theorem write_one (h : At s lim p f) (h1 : p < s.length) (h2 : (p : Int) < lim.b) : write f (s.drop p) = write (takeC f (s.getD p 0)) (s.drop (p + 1)) := by
  have hg : s.getD p 0 = s[p] := by simp [h1]
  rw [hg, List.drop_eq_getElem_cons h1, write_cons, if_pos (by rw [h.err]; rfl)]
  unfold byte
  rw [if_neg (by rw [h.n, h.fl]; simp; omega)]
theorem takeC_none (h : f.now = .none) (c : UInt8) : takeC f c = structure_ { f with n := f.n + 1 } c := by
  unfold takeC
  simp only [h]
/-- A byte that begins a value. -/
theorem vin_write {d : Nat} {P : List Nat} (h : VIn s lim d x p f P) : write f (s.drop p) = write (value { f with n := p + 1 } (s.getD p 0)) (s.drop (p + 1)) := by
  obtain ⟨_, h1, h2⟩ := peek_want h.r h.tk
  rw [write_one h.a h1 h2, takeC_none h.now, h.a.n]
  congr 1
  unfold structure_
  rw [if_neg (by rw [show blank (s.getD p 0).toNat = false from h.nb]; decide)]
  have hob : object ({ f with n := p + 1 } : Feed) = object f := rfl
  simp only [hob]
  rcases h.nx with hn | ⟨hn, ho, hc⟩
  · rw [hn, if_neg (by simp), if_pos (by rfl)]
  · have hne : ¬ (s.getD p 0 == (93 : UInt8)) = true := by
      rw [beq_iff_eq]
      intro e
      exact hc (by unfold R6.at_; rw [e]; rfl)
    rw [hn, ho, if_neg (by
      intro w
      simp only [Bool.false_eq_true, if_false, Bool.and_eq_true] at w
      exact hne w.1), if_pos (by rfl)]
/-- A value is counted. -/
theorem one_ok {d : Nat} {P : List Nat} (h : VIn s lim d x p f P) (v : Val) (hl : ¬ (x.out.length : Int) = lim.i) : one { f with n := p + 1 } v = (true, { f with n := p + 1, out := bl (hold f.stack P) (x.out ++ [v]) }) := by
  have hix : ∀ i ∈ hold f.stack P, i < x.out.length := by
    intro i hi
    unfold hold at hi
    cases hs : f.stack with
    | nil => rw [hs] at hi; exact h.ix i hi
    | cons a r =>
      rw [hs] at hi
      rcases List.mem_cons.1 hi with e | e
      · rw [e]; exact h.hx a (by rw [hs]; rfl)
      · exact h.ix i e
  rw [bl_app _ _ _ hix]
  unfold one
  have hol : f.out.length = x.out.length := by rw [h.out, bl_len]
  rw [if_neg (by
    show ¬ ((f.out.length : Int) == f.lim.i) = true
    rw [hol, h.a.fl]
    simpa using hl)]
  unfold hold
  cases hs : f.stack with
  | nil => simp only [h.out]
  | cons a r => simp only [h.out]; rfl
theorem hold_ix {d : Nat} {P : List Nat} (h : VIn s lim d x p f P) : ∀ i ∈ hold f.stack P, i < x.out.length := by
  intro i hi
  unfold hold at hi
  cases hs : f.stack with
  | nil => rw [hs] at hi; exact h.ix i hi
  | cons a r =>
    rw [hs] at hi
    rcases List.mem_cons.1 hi with e | e
    · rw [e]; exact h.hx a (by rw [hs]; rfl)
    · exact h.ix i e
theorem one_full {d : Nat} {P : List Nat} (h : VIn s lim d x p f P) (v : Val) (hl : (x.out.length : Int) = lim.i) : one { f with n := p + 1 } v = (false, wrong { f with n := p + 1 } (p + 1 - 1 : Nat) 10) := by
  unfold one
  have hol : f.out.length = x.out.length := by rw [h.out, bl_len]
  rw [if_pos (by
    show ((f.out.length : Int) == f.lim.i) = true
    rw [hol, h.a.fl]
    simpa using hl)]
/-- A fault at the byte that was looked at. -/
theorem peek_fault {e : Int} (he : e ≠ 0) (hr : RAt s lim p x) (htk : x.r.taken = p + 1) (hfr : x.r.frames = f.stack.length) (r : Bytes) :
    obs (write (wrong { f with n := p + 1 } (p + 1 - 1 : Nat) e) r) = told (R6.fault x p e).r :=
  fault_sim (e := e) (p := p) (g := { f with n := p + 1 }) he rfl htk hr.ended hfr r
/-- A token begins. -/
theorem begin_tok {d : Nat} {P : List Nat} (h : VIn s lim d x p f P) (v : Val) (t : Tok) (ht : t ≠ .none) (hl : ¬ (x.out.length : Int) = lim.i) (c : Nat) :
    valueOn { f with n := p + 1 } c v t = { f with n := p + 1, out := bl (hold f.stack P) (x.out ++ [v]), now := t } := by
  unfold valueOn
  cases t with
  | none => exact absurd rfl ht
  | word r =>
    simp only
    rw [if_neg (by simp), one_ok h v hl]
    rfl
  | num q b =>
    simp only
    rw [if_neg (by simp), one_ok h v hl]
    rfl
  | str u =>
    simp only
    rw [if_neg (by simp), one_ok h v hl]
    rfl
theorem full_tok {d : Nat} {P : List Nat} (h : VIn s lim d x p f P) (v : Val) (t : Tok) (hl : (x.out.length : Int) = lim.i) (c : Nat) :
    valueOn { f with n := p + 1 } c v t = wrong { f with n := p + 1 } (p + 1 - 1 : Nat) 10 := by
  unfold valueOn
  cases t with
  | none =>
    simp only
    by_cases hc : (true && (f.stack.length : Int) == f.lim.d) = true
    · rw [if_pos hc]
    · rw [if_neg hc, one_full h v hl]
  | word r =>
    simp only
    rw [if_neg (by simp), one_full h v hl]
  | num q b =>
    simp only
    rw [if_neg (by simp), one_full h v hl]
  | str u =>
    simp only
    rw [if_neg (by simp), one_full h v hl]
/-- A value's end: behind the token. -/
theorem vout_tok {d : Nat} {P : List Nat} {q : Nat} {y : R6.St} {t : Tok} {v w : Val} (h : VIn s lim d x p f P) (hl : ¬ (x.out.length : Int) = lim.i) (hlt : p < q) (hr : RAt s lim q y) (htk : y.r.taken = q) (hfr : y.r.frames = x.r.frames) (hout : y.out = x.out ++ [w])
    (ha : At s lim q { f with n := q }) (hfin : finish { f with n := q, out := bl (hold f.stack P) (x.out ++ [v]), now := t } = { over { f with n := q } with now := .none, out := bl (hold f.stack P) (x.out ++ [w]) })
    (hob : obs (write f (s.drop p)) = obs (write (finish { f with n := q, out := bl (hold f.stack P) (x.out ++ [v]), now := t }) (s.drop q))) :
    ∃ g, VOut s lim x y p q f P g := by
  refine ⟨{ over { f with n := q } with now := .none, out := bl (hold f.stack P) (x.out ++ [w]) }, hlt, hr, htk, hfr, ?_, ?_, ⟨ha.fl, rfl, ha.ps, ha.pb, ha.err⟩, rfl, rfl, rfl, ?_, ?_⟩
  · rw [hout]; exact Ext.snoc _ _
  · have := h.oi
    rw [hout, List.length_append]
    simp
    omega
  · rw [hout]
  · rw [hob, hfin]
theorem finish_word {r : Bytes} (h : f.now = .word r) : finish f = over { f with now := .none } := by
  unfold finish
  rw [h]
theorem finish_str {t : Txt} (h : f.now = .str t) (hn : f.next ≠ 2) : finish f = over { f with now := .none, out := setText f.out (f.out.length - 1) t.out } := by
  unfold finish
  rw [h]
  simp only
  rw [if_neg (by simpa using hn)]
theorem VIn.nx2 {d : Nat} {P : List Nat} (h : VIn s lim d x p f P) : f.next ≠ 2 := by
  rcases h.nx with e | ⟨e, _⟩ <;> omega
/-- A value of one byte and no elements: words. -/
theorem word_val {d : Nat} {P : List Nat} (h : VIn s lim d x p f P) (hl : ¬ (x.out.length : Int) = lim.i) (k : Int) (b : UInt8) (r : Bytes) (hr : r ≠ []) (hb : s.getD p 0 = b)
    (hv : value { f with n := p + 1 } b = valueOn { f with n := p + 1 } b.toNat ⟨k, 0, []⟩ (.word r)) :
    match R6.wordN s lim (b :: r) { x with out := x.out ++ [⟨k, 0, []⟩] } p with
    | (none, y) => obs (write f (s.drop p)) = told y.r
    | (some q, y) => ∃ g, VOut s lim x y p q f P g := by
  obtain ⟨hw, h1, h2⟩ := peek_want h.r h.tk
  have hwr := vin_write h
  rw [hb, hv, begin_tok h _ _ (by simp) hl] at hwr
  have hx2 : RAt s lim (p + 1) { x with out := x.out ++ [⟨k, 0, []⟩] } := by
    have := peek_next h.r h.tk
    exact ⟨this.lo, this.hi, this.pk, this.err, this.place, this.ended⟩
  have ha : At s lim (p + 1) { f with n := p + 1, out := bl (hold f.stack P) (x.out ++ [⟨k, 0, []⟩]), now := .word r } := h.a.on h1 h2 rfl (by rw [h.a.n]) rfl
  have kk := word_sim (s := s) (lim := lim) r (p + 1) { x with out := x.out ++ [⟨k, 0, []⟩] } { f with n := p + 1, out := bl (hold f.stack P) (x.out ++ [⟨k, 0, []⟩]), now := .word r } hr ha hx2 h.fr rfl
  have e1 : R6.wordN s lim (b :: r) { x with out := x.out ++ [⟨k, 0, []⟩] } p = R6.wordN s lim r { x with out := x.out ++ [⟨k, 0, []⟩] } (p + 1) := by
    have e2 : R6.want s lim { x with out := x.out ++ [⟨k, 0, []⟩] } p = (true, { x with out := x.out ++ [⟨k, 0, []⟩] }) := (peek_want (x := { x with out := x.out ++ [⟨k, 0, []⟩] }) ⟨h.r.lo, h.r.hi, h.r.pk, h.r.err, h.r.place, h.r.ended⟩ h.tk).1
    have e3 : R6.is s lim { x with out := x.out ++ [⟨k, 0, []⟩] } p b.toNat = (true, { x with out := x.out ++ [⟨k, 0, []⟩] }) := by
      unfold R6.is
      rw [e2]
      simp only
      rw [if_pos (by unfold R6.at_; rw [hb]; simp)]
    rw [R6.wordN, e3]
  rw [e1, hwr]
  cases hs : R6.wordN s lim r { x with out := x.out ++ [⟨k, 0, []⟩] } (p + 1) with
  | mk o y =>
    rw [hs] at kk
    cases o with
    | none => exact kk
    | some q =>
      obtain ⟨k1, k2, k3, k4⟩ := kk
      refine vout_tok (v := ⟨k, 0, []⟩) (w := ⟨k, 0, []⟩) (t := .word []) h hl (by omega) k2.r k2.tk k2.fr k2.out ⟨k3.fl, rfl, k3.ps, k3.pb, k3.err⟩ ?_ ?_
      · rw [finish_word rfl]
        rfl
      · rw [hwr, k4]
/-- A string. -/
theorem str_val {d : Nat} {P : List Nat} (h : VIn s lim d x p f P) (hl : ¬ (x.out.length : Int) = lim.i) (hb : s.getD p 0 = 34) :
    match R6.text s lim { x with out := x.out ++ [⟨4, 0, []⟩] } p with
    | (none, y) => obs (write f (s.drop p)) = told y.r
    | (some (b, q), y) => y.out = x.out ++ [⟨4, 0, []⟩] ∧ ∃ g, VOut s lim x { y with out := x.out ++ [⟨4, 0, b⟩] } p q f P g := by
  obtain ⟨hw, h1, h2⟩ := peek_want h.r h.tk
  have hwr := vin_write h
  have hv : value { f with n := p + 1 } 34 = valueOn { f with n := p + 1 } 34 ⟨4, 0, []⟩ (.str txt0) := rfl
  rw [hb, hv, begin_tok h _ _ (by simp) hl] at hwr
  have hx2 : RAt s lim (p + 1) { x with out := x.out ++ [⟨4, 0, []⟩] } := by
    have := peek_next h.r h.tk
    exact ⟨this.lo, this.hi, this.pk, this.err, this.place, this.ended⟩
  have ha : At s lim (p + 1) { f with n := p + 1, out := bl (hold f.stack P) (x.out ++ [⟨4, 0, []⟩]), now := .str txt0 } := h.a.on h1 h2 rfl (by rw [h.a.n]) rfl
  have kk := text_sim (s := s) (lim := lim) (s.length + 1 - p) (p + 1) { x with out := x.out ++ [⟨4, 0, []⟩] } { f with n := p + 1, out := bl (hold f.stack P) (x.out ++ [⟨4, 0, []⟩]), now := .str txt0 } txt0 (by omega) ha hx2 h.fr rfl rfl rfl
  unfold R6.text
  rw [hwr]
  have e0 : txt0.out = [] := rfl
  rw [e0] at kk
  cases hs : R6.textN s lim (s.length + 1 - p) { x with out := x.out ++ [⟨4, 0, []⟩] } (p + 1) [] with
  | mk o y =>
    rw [hs] at kk
    cases o with
    | none => exact kk
    | some v =>
      obtain ⟨b, q⟩ := v
      obtain ⟨k1, k2, k3, t', k4, k5⟩ := kk
      refine ⟨k2.out, vout_tok (v := ⟨4, 0, []⟩) (w := ⟨4, 0, b⟩) (t := .str t') h hl (by omega) ⟨k2.r.lo, k2.r.hi, k2.r.pk, k2.r.err, k2.r.place, k2.r.ended⟩ k2.tk k2.fr rfl ⟨k3.fl, rfl, k3.ps, k3.pb, k3.err⟩ ?_ ?_⟩
      · rw [finish_str (f := { f with n := q, out := bl (hold f.stack P) (x.out ++ [⟨4, 0, []⟩]), now := .str t' }) rfl h.nx2]
        simp only
        rw [setText_bl _ _ _ _ (hold_ix h), k4]
        rfl
      · rw [hwr, k5]
end Go.Px.J6

/-! The feed of layer 19 against the reference's reader of layer 16 (plain law): numbers as values, values without elements, what opens and closes. No program is named here. -/
namespace Go.Px.J6
open R6 (at_ blank numNext numEnd setText setKind bump)
variable {s : Bytes} {lim : Lim} {p : Nat} {f : Feed} {x y : R6.St}
theorem at_byte {k : UInt8} (h : at_ s p = k.toNat) : s.getD p 0 = k := UInt8.toNat_inj.1 h
theorem byte_ne {k : UInt8} (h : at_ s p ≠ k.toNat) : ¬ (s.getD p 0 == k) = true := by
  rw [beq_iff_eq]
  intro e
  exact h (by unfold R6.at_; rw [e])
theorem num_begins {c : Nat} (h : c = 45 ∨ R6.digit c = true) : ∃ k, numNext 0 c = some k := by
  unfold numNext
  rcases h with e | e
  · subst e; exact ⟨1, rfl⟩
  · by_cases e1 : c = 45
    · subst e1; exact ⟨1, rfl⟩
    · by_cases e2 : c = 48
      · subst e2; exact ⟨2, rfl⟩
      · rw [if_neg (by simpa using e1), if_neg (by simpa using e2), if_pos (by simp [e])]
        exact ⟨3, rfl⟩
/-- A number. -/
theorem num_val {d : Nat} {P : List Nat} (hb : 0 ≤ lim.b) (h : VIn s lim d x p f P) (hl : ¬ (x.out.length : Int) = lim.i) (hc : at_ s p = 45 ∨ R6.digit (at_ s p) = true)
    (hv : value { f with n := p + 1 } (s.getD p 0) = valueOn { f with n := p + 1 } (at_ s p) ⟨3, 0, []⟩ (.num (numTake 0 [] (s.getD p 0)).2.1 (numTake 0 [] (s.getD p 0)).2.2)) :
    match R6.numVal s lim { x with out := x.out ++ [⟨3, 0, []⟩] } p x.out.length with
    | (none, y) => obs (write f (s.drop p)) = told y.r
    | (some q, y) => ∃ g, VOut s lim x y p q f P g := by
  obtain ⟨hw, h1, h2⟩ := peek_want h.r h.tk
  obtain ⟨k, hk⟩ := num_begins hc
  have hnt : numTake 0 [] (s.getD p 0) = (.takes, k, [s.getD p 0]) := by
    unfold numTake
    rw [show numNext 0 (s.getD p 0).toNat = some k from hk]
    rfl
  have hwr := vin_write h
  rw [hv, begin_tok h _ _ (by simp) hl, hnt] at hwr
  have hu : upTo s lim = p + 1 + (upTo s lim - (p + 1)) := by unfold upTo; omega
  have ha : At s lim (p + 1) { f with n := p + 1, out := bl (hold f.stack P) (x.out ++ [⟨3, 0, []⟩]), now := .num k [s.getD p 0] } := h.a.on h1 h2 rfl (by rw [h.a.n]) rfl
  obtain ⟨q', r, r1, r2, r3, r4, r5, r6⟩ := num_sim (s := s) (lim := lim) hb (upTo s lim - (p + 1)) (p + 1) k { f with n := p + 1, out := bl (hold f.stack P) (x.out ++ [⟨3, 0, []⟩]), now := .num k [s.getD p 0] } [s.getD p 0] hu ha rfl
  have e0 : (s.take (upTo s lim)).drop p = s.getD p 0 :: (s.take (upTo s lim)).drop (p + 1) := E5.drop_take_cons h1 (by omega)
  have hnum : R6.number ((s.take (upTo s lim)).drop p) = (r - p, numEnd q') := by
    rw [e0]
    unfold R6.number R6.numN
    rw [show numNext 0 (s.getD p 0).toNat = some k from hk]
    simp only
    rw [← r2]
    congr 1
    omega
  have hbytes : [s.getD p 0] ++ (s.take r).drop (p + 1) = (s.take r).drop p := by
    rw [E5.take_split (show p ≤ p + 1 by omega) (show p + 1 ≤ r by omega), part_snoc (Nat.le_refl p) h1, E5.drop_take_self, List.nil_append]
  rw [hbytes] at r6
  have hrs : r ≤ s.length := by unfold upTo at r3; omega
  obtain ⟨f2, hf2⟩ : ∃ f2 : Feed, f2 = { f with n := r, out := bl (hold f.stack P) (x.out ++ [⟨3, 0, []⟩]), now := .num q' ((s.take r).drop p) } := ⟨_, rfl⟩
  have hwr2 : write f (s.drop p) = write f2 (s.drop r) := by rw [hwr, r6, hf2]
  have ha2 : At s lim r f2 := by rw [hf2]; exact ⟨r5.fl, rfl, r5.ps, r5.pb, r5.err⟩
  have hnow2 : f2.now = .num q' ((s.take r).drop p) := by rw [hf2]
  have eN : R6.numVal s lim { x with out := x.out ++ [⟨3, 0, []⟩] } p x.out.length = (if numEnd q' then (some r, { R6.take { x with out := x.out ++ [⟨3, 0, []⟩] } r with out := setText (x.out ++ [⟨3, 0, []⟩]) x.out.length ((s.take r).drop p) })
      else match R6.want s lim (R6.take { x with out := x.out ++ [⟨3, 0, []⟩] } r) r with
        | (true, z) => (none, R6.fault z (r : Nat) 9)
        | (false, z) => (none, z)) := by
    unfold R6.numVal
    have hpr : p + (r - p) = r := by omega
    simp only
    rw [show min s.length lim.b.toNat = upTo s lim from rfl, hnum, hpr]
    rfl
  rw [eN]
  have htk : (R6.take { x with out := x.out ++ [⟨3, 0, []⟩] } r).r.taken = r := by
    show max x.r.taken r = r
    have := h.tk
    omega
  have hRr : RAt s lim r (R6.take { x with out := x.out ++ [⟨3, 0, []⟩] } r) := ⟨by rw [htk]; exact Nat.le_refl _, by omega, fun e => by omega, h.r.err, h.r.place, h.r.ended⟩
  by_cases he : numEnd q' = true
  · rw [if_pos he]
    simp only
    refine vout_tok (v := ⟨3, 0, []⟩) (w := ⟨3, 0, (s.take r).drop p⟩) (t := .num q' ((s.take r).drop p)) h hl (by omega) ⟨hRr.lo, hRr.hi, hRr.pk, hRr.err, hRr.place, hRr.ended⟩ htk rfl (setText_last _ _ _ _ rfl) ⟨r5.fl, rfl, r5.ps, r5.pb, r5.err⟩ ?_ ?_
    · rw [finish_num (f := { f with n := r, out := bl (hold f.stack P) (x.out ++ [⟨3, 0, []⟩]), now := .num q' ((s.take r).drop p) }) rfl]
      simp only
      rw [setText_bl _ _ _ _ (hold_ix h)]
      rfl
    · rw [hwr2, finish_alike ha2 hnow2 he r4 hb, hf2]
  · rw [if_neg he]
    have hE : End f2 = ([], (f2.n : Int), 9) := by
      unfold End
      rw [if_neg (by simp [ha2.err]), hnow2]
      simp only
      rw [if_neg (by simp [he])]
    have hfr2 : (R6.take { x with out := x.out ++ [⟨3, 0, []⟩] } r).r.frames = f2.stack.length := by rw [hf2]; exact h.fr
    cases hww : R6.want s lim (R6.take { x with out := x.out ++ [⟨3, 0, []⟩] } r) r with
    | mk b z =>
      cases b with
      | false =>
        simp only
        rw [hwr2]
        exact want_no ha2 hRr hfr2 hE hww
      | true =>
        obtain ⟨g1, g2, g3, g4⟩ := want_yes ha2 hRr hww
        simp only
        rw [hwr2, g4, takeC_num hnow2, show numNext q' (s.getD r 0).toNat = none from r4 (by unfold upTo; omega)]
        simp only
        rw [if_neg he]
        have := fault_sim (e := 9) (p := r) (y := z) (g := { f2 with n := f2.n + 1, now := .num q' ((s.take r).drop p) }) (by decide) (by show f2.n + 1 = r + 1; rw [ha2.n]) (by rw [g3]) (by rw [g3]; exact hRr.ended) (by rw [g3]; exact hfr2) (s.drop (r + 1))
        exact this
/-- Values without elements. -/
theorem plain_val {d : Nat} {P : List Nat} (hb : 0 ≤ lim.b) (h : VIn s lim d x p f P) (hl : ¬ (x.out.length : Int) = lim.i) (hf : R6.firsts (at_ s p) = true) (h123 : at_ s p ≠ 123) (h91 : at_ s p ≠ 91) :
    match R6.plainV s lim { x with out := x.out ++ [⟨0, 0, []⟩] } (at_ s p) p x.out.length with
    | (none, y) => obs (write f (s.drop p)) = told y.r
    | (some q, y) => ∃ g, VOut s lim x y p q f P g := by
  have n1 : ¬ (s.getD p 0 == 123) = true := byte_ne (k := 123) h123
  have n2 : ¬ (s.getD p 0 == 91) = true := byte_ne (k := 91) h91
  unfold R6.plainV
  simp only [setKind_last]
  by_cases c1 : at_ s p = 34
  · rw [if_pos (by simpa using c1)]
    have k := str_val h hl (at_byte (k := 34) c1)
    cases hs : R6.text s lim { x with out := x.out ++ [⟨4, 0, []⟩] } p with
    | mk o z =>
      rw [hs] at k
      cases o with
      | none => exact k
      | some v =>
        obtain ⟨b, q⟩ := v
        obtain ⟨k1, g, k2⟩ := k
        simp only
        refine ⟨g, ?_⟩
        rw [k1, setText_last _ _ _ _ rfl]
        exact k2
  · rw [if_neg (by simpa using c1)]
    have n3 : ¬ (s.getD p 0 == 34) = true := byte_ne (k := 34) c1
    by_cases c2 : at_ s p = 116
    · rw [if_pos (by simpa using c2)]
      exact word_val h hl 2 116 [114, 117, 101] (by simp) (at_byte (k := 116) c2) rfl
    · rw [if_neg (by simpa using c2)]
      have n4 : ¬ (s.getD p 0 == 116) = true := byte_ne (k := 116) c2
      by_cases c3 : at_ s p = 102
      · rw [if_pos (by simpa using c3)]
        exact word_val h hl 1 102 [97, 108, 115, 101] (by simp) (at_byte (k := 102) c3) rfl
      · rw [if_neg (by simpa using c3)]
        have n5 : ¬ (s.getD p 0 == 102) = true := byte_ne (k := 102) c3
        by_cases c4 : at_ s p = 110
        · rw [if_pos (by simpa using c4)]
          exact word_val h hl 0 110 [117, 108, 108] (by simp) (at_byte (k := 110) c4) rfl
        · rw [if_neg (by simpa using c4)]
          have n6 : ¬ (s.getD p 0 == 110) = true := byte_ne (k := 110) c4
          have hc : at_ s p = 45 ∨ R6.digit (at_ s p) = true := by
            unfold R6.firsts at hf
            simp only [Bool.or_eq_true, beq_iff_eq] at hf
            rcases hf with ((((((w | w) | w) | w) | w) | w) | w) | w
            · exact absurd w h123
            · exact absurd w h91
            · exact absurd w c1
            · exact .inl w
            · exact absurd w c2
            · exact absurd w c3
            · exact absurd w c4
            · exact .inr w
          refine num_val hb h hl hc ?_
          unfold value
          rw [if_neg n1, if_neg n2, if_neg n3, if_neg n4, if_neg n5, if_neg n6, if_pos]
          · rfl
          · rcases hc with e | e
            · rw [at_byte (k := 45) e]; rfl
            · have : R6.digit (s.getD p 0).toNat = true := e
              rw [this, Bool.or_true]
theorem plain_full {d : Nat} {P : List Nat} (h : VIn s lim d x p f P) (hl : (x.out.length : Int) = lim.i) (hf : R6.firsts (at_ s p) = true) : obs (write f (s.drop p)) = told (R6.fault x p 10).r := by
  have hv : value { f with n := p + 1 } (s.getD p 0) = wrong { f with n := p + 1 } (p + 1 - 1 : Nat) 10 := by
    unfold value
    repeat' (split; exact full_tok h _ _ hl _)
    rename_i a1 a2 a3 a4 a5 a6 a7
    exfalso
    unfold R6.firsts at hf
    simp only [Bool.or_eq_true, beq_iff_eq, not_or] at hf a1 a2 a3 a4 a5 a6 a7
    have e : ∀ k : UInt8, ¬ s.getD p 0 = k → at_ s p ≠ k.toNat := fun k hk e => hk (at_byte e)
    have b1 := e _ a1
    have b2 := e _ a2
    have b3 := e _ a3
    have b4 := e _ a4
    have b5 := e _ a5
    have b6 := e _ a6
    have b7 := e _ a7.1
    have b8 : ¬ R6.digit (at_ s p) = true := a7.2
    rcases hf with ((((((w | w) | w) | w) | w) | w) | w) | w
    · exact b1 w
    · exact b2 w
    · exact b3 w
    · exact b7 w
    · exact b4 w
    · exact b5 w
    · exact b6 w
    · exact b8 w
  rw [vin_write h, hv]
  exact peek_fault (by decide) h.r h.tk h.fr _
theorem plain_bad {d : Nat} {P : List Nat} (h : VIn s lim d x p f P) (hf : R6.firsts (at_ s p) = false) : obs (write f (s.drop p)) = told (R6.fault x p 9).r := by
  have hv : value { f with n := p + 1 } (s.getD p 0) = wrong { f with n := p + 1 } (p + 1 - 1 : Nat) 9 := by
    unfold R6.firsts at hf
    simp only [Bool.or_eq_false_iff, beq_eq_false_iff_ne] at hf
    obtain ⟨⟨⟨⟨⟨⟨⟨w1, w2⟩, w3⟩, w4⟩, w5⟩, w6⟩, w7⟩, w8⟩ := hf
    unfold value
    rw [if_neg (byte_ne (k := 123) w1), if_neg (byte_ne (k := 91) w2), if_neg (byte_ne (k := 34) w3), if_neg (byte_ne (k := 116) w5), if_neg (byte_ne (k := 102) w6), if_neg (byte_ne (k := 110) w7), if_neg]
    have e1 := byte_ne (s := s) (p := p) (k := 45) w4
    intro w
    simp only [Bool.or_eq_true] at w
    rcases w with w | w
    · exact e1 w
    · rw [show R6.digit (s.getD p 0).toNat = false from w8] at w; cases w
  rw [vin_write h, hv]
  exact peek_fault (by decide) h.r h.tk h.fr _
end Go.Px.J6

/-! The feed of layer 19 against the reference's reader of layer 16 (plain law): arrays. No program is named here. -/
namespace Go.Px.J6
open R6 (at_ blank numNext numEnd setText setKind bump)
variable {s : Bytes} {lim : Lim} {p : Nat} {f : Feed} {x y : R6.St}
theorem object_eq {a : Fm} {st : List Fm} (hs : f.stack = a :: st) : object f = ((f.out.getD a.no v0).kind == 6) := by
  unfold object
  rw [hs]
  rfl
/-- A byte between tokens that is looked at. -/
theorem struct_write (h : At s lim p f) (hr : RAt s lim p x) (htk : x.r.taken = p + 1) (hnow : f.now = .none) : write f (s.drop p) = write (structure_ { f with n := p + 1 } (s.getD p 0)) (s.drop (p + 1)) := by
  obtain ⟨_, h1, h2⟩ := peek_want hr htk
  rw [write_one h h1 h2, takeC_none hnow, h.n]
theorem close_struct {a : Fm} {st : List Fm} {n : Nat} {c : UInt8} (hs : f.stack = a :: st) (hb : blank c.toNat = false) (hc : c = if object f then 125 else 93) (hn : f.next = 1 ∨ f.next = 3 ∨ f.next = 5) :
    structure_ { f with n := n } c = { f with n := n, stack := st, next := if st.isEmpty then 6 else 5 } := by
  unfold structure_
  rw [if_neg (by rw [hb]; decide)]
  have hob : object ({ f with n := n } : Feed) = object f := rfl
  simp only [hob]
  rw [if_pos]
  · unfold over
    simp only [hs, List.tail_cons]
  · rw [← hc]
    rcases hn with e | e | e <;> simp [e]
theorem comma_struct {n : Nat} (hn : f.next = 5) : structure_ { f with n := n } 44 = { f with n := n, next := if object f then 2 else 0 } := by
  unfold structure_
  rw [if_neg (by decide)]
  simp only [show object ({ f with n := n } : Feed) = object f from rfl]
  have h1 : ((44 : UInt8) == (if object f then 125 else 93)) = false := by cases object f <;> rfl
  rw [h1, Bool.false_and, if_neg (by decide), if_neg (by simp [hn]), if_neg (by simp [hn]), if_neg (by simp [hn]), if_pos (by simp [hn])]
theorem behind_bad {n : Nat} {c : UInt8} (hn : f.next = 5) (hb : blank c.toNat = false) (hc : ¬ c = if object f then 125 else 93) (h44 : ¬ c = 44) : structure_ { f with n := n } c = wrong { f with n := n } (n - 1 : Nat) 9 := by
  unfold structure_
  rw [if_neg (by rw [hb]; decide)]
  simp only [show object ({ f with n := n } : Feed) = object f from rfl]
  have h1 : (c == (if object f then 125 else 93)) = false := by rw [beq_eq_false_iff_ne]; exact hc
  rw [h1, Bool.false_and, if_neg (by decide), if_neg (by simp [hn]), if_neg (by simp [hn]), if_neg (by simp [hn]), if_neg (by simp [h44])]
/-- What opens is counted. -/
theorem open_ok {d : Nat} {P : List Nat} (h : VIn s lim (d + 1) x p f P) (hl : ¬ (x.out.length : Int) = lim.i) (k : Int) (c : Nat) :
    valueOn { f with n := p + 1 } c ⟨k, 0, []⟩ .none = { f with n := p + 1, out := bl (hold f.stack P) (x.out ++ [⟨k, 0, []⟩]), now := .none, stack := ⟨x.out.length, 0, []⟩ :: f.stack, next := if c == 123 then 3 else 1 } := by
  have hd : ¬ ((f.stack.length : Int) == f.lim.d) = true := by
    have := h.dep
    rw [h.a.fl]
    simp
    omega
  have hol : f.out.length = x.out.length := by rw [h.out, bl_len]
  unfold valueOn
  simp only
  rw [if_neg (by rw [Bool.true_and]; exact hd), one_ok h _ hl]
  simp only
  rw [if_pos trivial, hol]
theorem open_deep {P : List Nat} (h : VIn s lim 0 x p f P) (v : Val) (c : Nat) : valueOn { f with n := p + 1 } c v .none = wrong { f with n := p + 1 } (p + 1 - 1 : Nat) 10 := by
  have hd : ((f.stack.length : Int) == f.lim.d) = true := by
    have := h.dep
    rw [h.a.fl]
    simp
    omega
  unfold valueOn
  simp only
  rw [if_pos (by rw [Bool.true_and]; exact hd)]
/-- Behind what closes. -/
structure COut (s : Bytes) (lim : Lim) (x y : R6.St) (p q : Nat) (f : Feed) (st0 : List Fm) (Q : List Nat) (g : Feed) : Prop where
  lt : p < q
  r : RAt s lim q y
  tk : y.r.taken = q
  fr : y.r.frames = x.r.frames - 1
  ext : Ext x.out y.out
  oi : (y.out.length : Int) ≤ lim.i
  a : At s lim q g
  now : g.now = .none
  st : g.stack = st0
  nx : g.next = if st0.isEmpty then 6 else 5
  out : g.out = bl Q y.out
  ob : obs (write f (s.drop p)) = obs (write g (s.drop q))
theorem frame_next {z : R6.St} {q : Nat} (h : RAt s lim q z) (htk : z.r.taken = q + 1) : RAt s lim (q + 1) (R6.frame z (-1)) :=
  ⟨by show q + 1 ≤ z.r.taken; omega, by show z.r.taken ≤ _; omega, fun e => by have : z.r.taken = q + 1 + 1 := e; omega, h.err, h.place, h.ended⟩
theorem array_loop {d me : Nat} {Q : List Nat} {st : List Fm} {rc : R6.St → Nat → Option Nat × R6.St} (hrc : VSim s lim d rc) : ∀ (m p : Nat) (x : R6.St) (f : Feed) (a : Fm), s.length + 1 ≤ m + p → VIn s lim d x p f Q → f.stack = a :: st → a.no = me → me < x.out.length → (x.out.getD me v0).kind = 5 →
    match R6.arrayN s lim rc me m x p with
    | (none, y) => obs (write f (s.drop p)) = told y.r
    | (some q, y) => ∃ g, COut s lim x y p q f st Q g := by
  intro m
  induction m with
  | zero => intro p x f a hm h; have := h.a.ps; omega
  | succ m ih =>
    intro p x f a hm h hst hme hml hk
    unfold R6.arrayN
    have hv := hrc x p f Q h
    cases hr : rc x p with
    | mk o y =>
      rw [hr] at hv
      cases o with
      | none => exact hv
      | some q =>
        obtain ⟨g, hg⟩ := hv
        have hgo : g.out = bl Q (bump y.out me 1) := by
          rw [hg.out, hst, bl_bump]
          show bl (a.no :: Q) y.out = _
          rw [hme]
          rfl
        have hgs : g.stack = a :: st := hg.st.trans hst
        have hgn : g.next = 5 := by rw [hg.nx, hst]; rfl
        have hyl : me < y.out.length := Nat.lt_of_lt_of_le hml hg.ext.1
        have hyk : (y.out.getD me v0).kind = 5 := (hg.ext.2 me hml).trans hk
        have hob : ∀ n : Nat, object ({ g with n := n } : Feed) = false := by
          intro n
          rw [object_eq (f := { g with n := n }) hgs]
          show ((g.out.getD a.no v0).kind == 6) = false
          rw [hgo, bl_kind, bump_kind, hme, hyk]
          rfl
        obtain ⟨y1, hy1⟩ : ∃ y1 : R6.St, y1 = { y with out := bump y.out me 1 } := ⟨_, rfl⟩
        have hy1r : RAt s lim q y1 := by rw [hy1]; exact ⟨hg.r.lo, hg.r.hi, hg.r.pk, hg.r.err, hg.r.place, hg.r.ended⟩
        have hfr1 : y1.r.frames = g.stack.length := by rw [hy1]; show y.r.frames = _; rw [hg.fr, h.fr, hg.st]
        have hps := pass_sim (s := s) (lim := lim) (s.length + 1 - q) q y1 g (by have := hg.a.ps; omega) hg.a hy1r hfr1 hg.now (by omega)
        simp only
        rw [← hy1]
        unfold R6.pass
        cases hp : R6.passN s lim (s.length + 1 - q) y1 q with
        | mk o z =>
          rw [hp] at hps
          cases o with
          | none => exact hg.ob.trans hps
          | some q1 =>
            obtain ⟨i1, i2, i3, i4, i5, i6, i7⟩ := hps
            have htz : z.r.taken = q1 + 1 := by rw [i5]
            have hzr : RAt s lim q1 z := ⟨by omega, by omega, fun _ => ⟨i2, i3⟩, by rw [i5]; exact hy1r.err, by rw [i5]; exact hy1r.place, by rw [i5]; exact hy1r.ended⟩
            have hzo : z.out = bump y.out me 1 := by rw [i5, hy1]
            have hzf : z.r.frames = g.stack.length := by rw [i5]; exact hfr1
            have hxf : x.r.frames = g.stack.length := by rw [h.fr, hg.st]
            have hext : Ext x.out z.out := by rw [hzo]; exact hg.ext.trans (Ext.bump _ _ _)
            have hoi : (z.out.length : Int) ≤ lim.i := by rw [hzo, vbump_len]; exact hg.oi
            have hgn1 : ({ g with n := q1 } : Feed).next = 5 := hgn
            have hob1 := hob q1
            have hsw := struct_write (f := { g with n := q1 }) i6 hzr htz hg.now
            simp only
            by_cases c1 : at_ s q1 = 93
            · rw [if_pos (by simpa using c1)]
              have e1 : structure_ { g with n := q1 + 1 } (s.getD q1 0) = { g with n := q1 + 1, stack := st, next := if st.isEmpty then 6 else 5 } :=
                close_struct hgs i4 (by rw [hob g.n]; exact at_byte (k := 93) c1) (.inr (.inr hgn))
              refine ⟨{ g with n := q1 + 1, stack := st, next := if st.isEmpty then 6 else 5 }, by have := hg.lt; omega, frame_next hzr htz, htz, ?_, hext, hoi, ⟨i6.fl, rfl, i2, by show ((q1 + 1 : Nat) : Int) ≤ lim.b; omega, i6.err⟩, hg.now, rfl, rfl, ?_, ?_⟩
              · show ((z.r.frames : Int) + -1).toNat = x.r.frames - 1
                rw [hzf, hxf]
                omega
              · show g.out = bl Q z.out
                rw [hgo, hzo]
              · rw [hg.ob, i7, hsw]
                exact congrArg (fun w => obs (write w (s.drop (q1 + 1)))) e1
            · rw [if_neg (by simpa using c1)]
              by_cases c2 : at_ s q1 = 44
              · rw [if_neg (by simp [c2])]
                have e1 : structure_ { g with n := q1 + 1 } (s.getD q1 0) = { g with n := q1 + 1, next := 0 } := by
                  rw [at_byte (k := 44) c2, comma_struct hgn, hob g.n]
                  rfl
                obtain ⟨g2, hg2⟩ : ∃ g2 : Feed, g2 = { g with n := q1 + 1, next := 0 } := ⟨_, rfl⟩
                have hwr : obs (write f (s.drop p)) = obs (write g2 (s.drop (q1 + 1))) := by
                  rw [hg.ob, i7, hsw, hg2]
                  exact congrArg (fun w => obs (write w (s.drop (q1 + 1)))) e1
                have hz2 : RAt s lim (q1 + 1) z := peek_next hzr htz
                have hg2a : At s lim (q1 + 1) g2 := by rw [hg2]; exact ⟨i6.fl, rfl, i2, by show ((q1 + 1 : Nat) : Int) ≤ lim.b; omega, i6.err⟩
                have hps2 := pass_sim (s := s) (lim := lim) (s.length + 1 - (q1 + 1)) (q1 + 1) z g2 (by omega) hg2a hz2 (by rw [hg2]; exact hzf) (by rw [hg2]; exact hg.now) (by rw [hg2]; show (0 : Nat) ≠ 6; decide)
                cases hp2 : R6.passN s lim (s.length + 1 - (q1 + 1)) z (q1 + 1) with
                | mk o u =>
                  rw [hp2] at hps2
                  cases o with
                  | none => exact hwr.trans hps2
                  | some q2 =>
                    obtain ⟨j1, j2, j3, j4, j5, j6, j7⟩ := hps2
                    have hlt2 := hg.lt
                    have hu : VIn s lim d u q2 { g2 with n := q2 } Q := by
                      refine ⟨j6, ⟨by rw [j5]; exact Nat.le_succ _, by rw [j5]; exact Nat.le_refl _, fun _ => ⟨j2, j3⟩, by rw [j5]; exact hz2.err, by rw [j5]; exact hz2.place, by rw [j5]; exact hz2.ended⟩, by rw [j5], j4, ?_, by rw [hg2]; exact hg.now, .inl (by rw [hg2]), ?_, ?_, ?_, ?_, by rw [j5]; exact hoi⟩
                      · rw [j5, hg2]; exact hzf
                      · rw [j5, hg2]; show g.out = bl Q z.out; rw [hgo, hzo]
                      · intro i hi; rw [j5]; exact Nat.lt_of_lt_of_le (h.ix i hi) hext.1
                      · intro b hb
                        rw [hg2] at hb
                        have hb : g.stack.head? = some b := hb
                        rw [hgs] at hb
                        simp only [List.head?_cons, Option.some.injEq] at hb
                        rw [← hb, hme, j5]
                        exact Nat.lt_of_lt_of_le hml hext.1
                      · rw [hg2]; show ((g.stack.length + d : Nat) : Int) = lim.d; rw [hg.st]; exact h.dep
                    have hk2 : (u.out.getD me v0).kind = 5 := by rw [j5]; exact (hext.2 me hml).trans hk
                    have hml2 : me < u.out.length := by rw [j5]; exact Nat.lt_of_lt_of_le hml hext.1
                    have hi := ih q2 u { g2 with n := q2 } a (by omega) hu (by rw [hg2]; exact hgs) hme hml2 hk2
                    simp only
                    cases hl2 : R6.arrayN s lim rc me m u q2 with
                    | mk o v =>
                      rw [hl2] at hi
                      cases o with
                      | none => exact hwr.trans ((congrArg obs j7).trans hi)
                      | some q3 =>
                        obtain ⟨g3, hg3⟩ := hi
                        refine ⟨g3, by have := hg3.lt; omega, hg3.r, hg3.tk, ?_, ?_, hg3.oi, hg3.a, hg3.now, hg3.st, hg3.nx, hg3.out, hwr.trans ((congrArg obs j7).trans hg3.ob)⟩
                        · rw [hg3.fr, j5]
                          show z.r.frames - 1 = _
                          rw [hzf, hxf]
                        · have := hg3.ext
                          rw [j5] at this
                          exact hext.trans this
              · rw [if_pos (by simpa using c2)]
                have e1 : structure_ { g with n := q1 + 1 } (s.getD q1 0) = wrong { g with n := q1 + 1 } (q1 + 1 - 1 : Nat) 9 :=
                  behind_bad hgn i4 (by rw [hob g.n]; exact fun e => c1 (by unfold R6.at_; rw [e]; rfl)) (fun e => c2 (by unfold R6.at_; rw [e]; rfl))
                rw [hg.ob, i7, hsw]
                refine (congrArg (fun w => obs (write w (s.drop (q1 + 1)))) e1).trans ?_
                exact fault_sim (e := 9) (p := q1) (g := { g with n := q1 + 1 }) (by decide) rfl htz hzr.ended hzf _
/-- A whole array, its first sign looked at. -/
theorem array_val {d : Nat} {P : List Nat} {rc : R6.St → Nat → Option Nat × R6.St} (hrc : VSim s lim d rc) (h : VIn s lim (d + 1) x p f P) (hl : ¬ (x.out.length : Int) = lim.i) (hc : at_ s p = 91) :
    match R6.array s lim rc x.out.length { x with out := x.out ++ [⟨5, 0, []⟩] } (p + 1) with
    | (none, y) => obs (write f (s.drop p)) = told y.r
    | (some q, y) => ∃ g, VOut s lim x y p q f P g := by
  obtain ⟨hw, h1, h2⟩ := peek_want h.r h.tk
  obtain ⟨Q, hQ⟩ : ∃ Q, Q = hold f.stack P := ⟨_, rfl⟩
  obtain ⟨f1, hf1⟩ : ∃ f1 : Feed, f1 = { f with n := p + 1, out := bl Q (x.out ++ [⟨5, 0, []⟩]), now := .none, stack := ⟨x.out.length, 0, []⟩ :: f.stack, next := 1 } := ⟨_, rfl⟩
  have hwr : write f (s.drop p) = write f1 (s.drop (p + 1)) := by
    rw [vin_write h, at_byte (k := 91) hc, hf1, hQ]
    have hv : value { f with n := p + 1 } 91 = valueOn { f with n := p + 1 } 91 ⟨5, 0, []⟩ .none := rfl
    rw [hv, open_ok h hl]
    rfl
  obtain ⟨x1, hx1⟩ : ∃ x1 : R6.St, x1 = R6.frame { x with out := x.out ++ [⟨5, 0, []⟩] } 1 := ⟨_, rfl⟩
  have hx1r : RAt s lim (p + 1) x1 := by
    have := peek_next h.r h.tk
    rw [hx1]
    exact ⟨this.lo, this.hi, this.pk, this.err, this.place, this.ended⟩
  have hx1f : x1.r.frames = f1.stack.length := by
    rw [hx1, hf1]
    show ((x.r.frames : Int) + 1).toNat = f.stack.length + 1
    rw [h.fr]
    omega
  have hx1o : x1.out = x.out ++ [⟨5, 0, []⟩] := by rw [hx1]; rfl
  have hf1a : At s lim (p + 1) f1 := by rw [hf1]; exact h.a.on h1 h2 rfl (by rw [h.a.n]) rfl
  have hQix : ∀ i ∈ Q, i < x.out.length := by rw [hQ]; exact hold_ix h
  have hk1 : (x1.out.getD x.out.length v0).kind = 5 := by
    rw [hx1o]
    simp [List.getD_eq_getElem?_getD]
  have hext1 : Ext x.out x1.out := by rw [hx1o]; exact Ext.snoc _ _
  have hl1 : x1.out.length = x.out.length + 1 := by rw [hx1o, List.length_append]; rfl
  have hoi1 : (x1.out.length : Int) ≤ lim.i := by have := h.oi; rw [hl1]; omega
  have hob : ∀ n : Nat, object ({ f1 with n := n } : Feed) = false := by
    intro n
    rw [object_eq (f := { f1 with n := n }) (a := ⟨x.out.length, 0, []⟩) (st := f.stack) (by rw [hf1])]
    show ((f1.out.getD x.out.length v0).kind == 6) = false
    rw [hf1]
    show (((bl Q (x.out ++ [⟨5, 0, []⟩])).getD x.out.length v0).kind == 6) = false
    rw [bl_kind, ← hx1o, hk1]
    rfl
  have hps := pass_sim (s := s) (lim := lim) (s.length + 1 - (p + 1)) (p + 1) x1 f1 (by omega) hf1a hx1r hx1f (by rw [hf1]) (by rw [hf1]; show (1 : Nat) ≠ 6; decide)
  unfold R6.array R6.pass
  rw [← hx1, hwr]
  cases hp : R6.passN s lim (s.length + 1 - (p + 1)) x1 (p + 1) with
  | mk o z =>
    rw [hp] at hps
    cases o with
    | none => exact hps
    | some q =>
      obtain ⟨i1, i2, i3, i4, i5, i6, i7⟩ := hps
      have htz : z.r.taken = q + 1 := by rw [i5]
      have hzr : RAt s lim q z := ⟨by omega, by omega, fun _ => ⟨i2, i3⟩, by rw [i5]; exact hx1r.err, by rw [i5]; exact hx1r.place, by rw [i5]; exact hx1r.ended⟩
      have hzf : z.r.frames = f1.stack.length := by rw [i5]; exact hx1f
      have hf1l : f1.stack.length = f.stack.length + 1 := by rw [hf1]; rfl
      have hob1 := hob q
      have hsw := struct_write (f := { f1 with n := q }) i6 hzr htz (by rw [hf1])
      simp only
      by_cases c1 : at_ s q = 93
      · rw [if_pos (by simpa using c1)]
        have e1 : structure_ { f1 with n := q + 1 } (s.getD q 0) = { f1 with n := q + 1, stack := f.stack, next := if f.stack.isEmpty then 6 else 5 } :=
          close_struct (a := ⟨x.out.length, 0, []⟩) (by rw [hf1]) i4 (by rw [hob f1.n]; exact at_byte (k := 93) c1) (.inl (by rw [hf1]))
        refine ⟨{ f1 with n := q + 1, stack := f.stack, next := if f.stack.isEmpty then 6 else 5 }, by omega, frame_next hzr htz, htz, ?_, ?_, ?_, ⟨i6.fl, rfl, i2, by show ((q + 1 : Nat) : Int) ≤ lim.b; omega, i6.err⟩, by rw [hf1], rfl, rfl, ?_, ?_⟩
        · show ((z.r.frames : Int) + -1).toNat = x.r.frames
          rw [hzf, hf1l, h.fr]
          omega
        · show Ext x.out z.out; rw [i5]; exact hext1
        · show (z.out.length : Int) ≤ _; rw [i5]; exact hoi1
        · show f1.out = bl (hold f.stack P) z.out
          rw [i5, hx1o, hf1, hQ]
        · rw [hwr, i7, hsw]
          exact congrArg (fun w => obs (write w (s.drop (q + 1)))) e1
      · rw [if_neg (by simpa using c1)]
        have hu : VIn s lim d z q { f1 with n := q } Q := by
          refine ⟨i6, hzr, htz, i4, hzf, by rw [hf1], .inr ⟨by rw [hf1], hob1, c1⟩, ?_, ?_, ?_, ?_, by rw [i5]; exact hoi1⟩
          · show f1.out = bl Q z.out; rw [i5, hx1o, hf1]
          · intro i hi; rw [i5]; have := hQix i hi; show i < x1.out.length; omega
          · intro b hb
            have hb : f1.stack.head? = some b := hb
            rw [hf1] at hb
            simp only [List.head?_cons, Option.some.injEq] at hb
            rw [← hb, i5]
            show x.out.length < x1.out.length
            omega
          · show ((f1.stack.length + d : Nat) : Int) = lim.d
            have := h.dep
            rw [hf1l]
            omega
        have hi := array_loop (st := f.stack) (me := x.out.length) hrc (s.length + 1 - q) q z { f1 with n := q } ⟨x.out.length, 0, []⟩ (by omega) hu (by rw [hf1]) rfl (by rw [i5]; show _ < x1.out.length; omega) (by rw [i5]; exact hk1)
        rw [i7]
        cases hl2 : R6.arrayN s lim rc x.out.length (s.length + 1 - q) z q with
        | mk o v =>
          rw [hl2] at hi
          cases o with
          | none => exact hi
          | some q3 =>
            obtain ⟨g3, hg3⟩ := hi
            refine ⟨g3, by have := hg3.lt; omega, hg3.r, hg3.tk, ?_, ?_, hg3.oi, hg3.a, hg3.now, hg3.st, hg3.nx, ?_, ?_⟩
            · rw [hg3.fr, hzf, hf1l, h.fr]
              rfl
            · have e := hg3.ext
              rw [i5] at e
              exact hext1.trans e
            · rw [hg3.out, hQ]
            · rw [hwr, i7]; exact hg3.ob
end Go.Px.J6

/-! The feed of layer 19 against the reference's reader of layer 16 (plain law): objects. No program is named here. -/
namespace Go.Px.J6
open R6 (at_ blank numNext numEnd setText setKind bump)
variable {s : Bytes} {lim : Lim} {p : Nat} {f : Feed} {x y : R6.St}
/-- Ahead of a name whose first byte was looked at. -/
structure NIn (s : Bytes) (lim : Lim) (d me : Nat) (x : R6.St) (p : Nat) (f : Feed) (names : List Bytes) (st0 : List Fm) (Q : List Nat) : Prop where
  a : At s lim p f
  r : RAt s lim p x
  tk : x.r.taken = p + 1
  nb : blank (at_ s p) = false
  fr : x.r.frames = f.stack.length
  now : f.now = .none
  nx : f.next = 2 ∨ (f.next = 3 ∧ at_ s p ≠ 125)
  sk : ∃ a0, f.stack = ⟨me, a0, names⟩ :: st0
  out : f.out = bl Q x.out
  ix : ∀ i ∈ Q, i < x.out.length
  ml : me < x.out.length
  kd : (x.out.getD me v0).kind = 6
  dep : ((f.stack.length + d : Nat) : Int) = lim.d
  oi : (x.out.length : Int) ≤ lim.i
theorem obj_true {a : Fm} {st : List Fm} {l : List Val} {Q : List Nat} (hs : f.stack = a :: st) (ho : f.out = bl Q l) (hk : (l.getD a.no v0).kind = 6) : object f = true := by
  rw [object_eq hs, ho, bl_kind, hk]
  rfl
theorem name_struct {n : Nat} {c : UInt8} (hn : f.next = 2 ∨ (f.next = 3 ∧ c ≠ 125)) (hb : blank c.toNat = false) (ho : object f = true) :
    structure_ { f with n := n } c = if c == 34 then
      (match one { f with n := n } ⟨4, 0, []⟩ with
       | (false, g) => g
       | (true, g) => match g.stack with
         | [] => g
         | x :: rest => { g with stack := { x with at_ := n - 1 } :: rest, now := .str txt0, next := 2 })
      else wrong { f with n := n } (n - 1 : Nat) 9 := by
  unfold structure_
  rw [if_neg (by rw [hb]; decide)]
  simp only [show object ({ f with n := n } : Feed) = object f from rfl, ho, if_true]
  have h1 : (c == 125 && (f.next == 1 || f.next == 3 || f.next == 5)) = false := by
    rcases hn with e | ⟨e, hc⟩
    · simp [e]
    · rw [show (c == 125) = false by simpa using hc]; rfl
  have h2 : (f.next == 2 || f.next == 3) = true := by rcases hn with e | ⟨e, _⟩ <;> simp [e]
  have h3 : ¬ (f.next == 0 || f.next == 1) = true := by rcases hn with e | ⟨e, _⟩ <;> simp [e]
  have h4 : ¬ (f.next == 4 && c == 58) = true := by rcases hn with e | ⟨e, _⟩ <;> simp [e]
  have h5 : ¬ (f.next == 5 && c == 44) = true := by rcases hn with e | ⟨e, _⟩ <;> simp [e]
  rw [h1, if_neg (by decide), if_neg h3, h2, Bool.true_and, if_neg h4, if_neg h5]
  rfl
theorem colon_struct {n : Nat} {c : UInt8} (hn : f.next = 4) (hb : blank c.toNat = false) : structure_ { f with n := n } c = if c == 58 then { f with n := n, next := 0 } else wrong { f with n := n } (n - 1 : Nat) 9 := by
  unfold structure_
  rw [if_neg (by rw [hb]; decide)]
  simp only
  rw [if_neg (by simp [hn]), if_neg (by simp [hn]), if_neg (by simp [hn])]
  by_cases h : c = 58
  · rw [if_pos (by simp [hn, h]), if_pos (by simp [h])]
  · rw [if_neg (by simp [h]), if_neg (by simp [hn]), if_neg (by simp [h])]
/-- A fault at some place behind bytes that were read. -/
theorem fault_at {y : R6.St} {g : Feed} {a e : Int} (he : e ≠ 0) (ht : y.r.taken = g.n) (hend : y.r.ended = false) (hfr : y.r.frames = g.stack.length) (r : Bytes) :
    obs (write (wrong g a e) r) = told (R6.fault y a e).r := by
  rw [obs_wrong _ _ _ he]
  unfold told R6.fault R5.fault
  simp only [hend, ht, hfr]
  rfl
/-- A name, what names it, and its value. -/
theorem member_sim {d me : Nat} {names : List Bytes} {st0 : List Fm} {Q : List Nat} {rc : R6.St → Nat → Option Nat × R6.St} (hrc : VSim s lim d rc) (h : NIn s lim d me x p f names st0 Q) :
    match R6.member s lim rc x p names with
    | (none, y) => obs (write f (s.drop p)) = told y.r
    | (some (b, q), y) => p < q ∧ RAt s lim q y ∧ y.r.taken = q ∧ y.r.frames = x.r.frames ∧ Ext x.out y.out ∧ (y.out.length : Int) ≤ lim.i ∧
        ∃ g a1, At s lim q g ∧ g.now = .none ∧ g.stack = ⟨me, a1, names ++ [b]⟩ :: st0 ∧ g.next = 5 ∧ g.out = bl Q (bump y.out me 2) ∧ obs (write f (s.drop p)) = obs (write g (s.drop q)) := by
  obtain ⟨hw, h1, h2⟩ := peek_want h.r h.tk
  obtain ⟨a0, hsk⟩ := h.sk
  have hobj : object f = true := obj_true hsk h.out h.kd
  have hsw := struct_write h.a h.r h.tk h.now
  have hns := name_struct (f := f) (n := p + 1) (c := s.getD p 0) (by
    rcases h.nx with e | ⟨e, hc⟩
    · exact .inl e
    · exact .inr ⟨e, fun w => hc (by unfold R6.at_; rw [w]; rfl)⟩) h.nb hobj
  rw [hns] at hsw
  unfold R6.member R6.is
  rw [hw]
  simp only
  by_cases c1 : at_ s p = 34
  · rw [if_pos (show (at_ s p == 34) = true by simpa using c1)]
    rw [at_byte (k := 34) c1, if_pos (by decide)] at hsw
    simp only
    have hol : f.out.length = x.out.length := by rw [h.out, bl_len]
    by_cases hl : lim.i ≤ x.out.length
    · rw [if_pos hl]
      have hfull : one { f with n := p + 1 } ⟨4, 0, []⟩ = (false, wrong { f with n := p + 1 } (p + 1 - 1 : Nat) 10) := by
        unfold one
        rw [if_pos (by
          show ((f.out.length : Int) == f.lim.i) = true
          rw [hol, h.a.fl]
          have := h.oi
          simp
          omega)]
      rw [hfull] at hsw
      simp only
      rw [hsw]
      exact peek_fault (by decide) h.r h.tk h.fr _
    · rw [if_neg hl]
      obtain ⟨R, hR⟩ : ∃ R, R = me :: Q := ⟨_, rfl⟩
      have hRix : ∀ i ∈ R, i < x.out.length := by
        intro i hi
        rw [hR] at hi
        rcases List.mem_cons.1 hi with e | e
        · rw [e]; exact h.ml
        · exact h.ix i e
      obtain ⟨f1, hf1⟩ : ∃ f1 : Feed, f1 = { f with n := p + 1, out := bl R (x.out ++ [⟨4, 0, []⟩]), stack := ⟨me, p, names⟩ :: st0, now := .str txt0, next := 2 } := ⟨_, rfl⟩
      have hone : one { f with n := p + 1 } ⟨4, 0, []⟩ = (true, { f with n := p + 1, out := bl R (x.out ++ [⟨4, 0, []⟩]) }) := by
        rw [bl_app _ _ _ hRix, hR]
        unfold one
        rw [if_neg (by
          show ¬ ((f.out.length : Int) == f.lim.i) = true
          rw [hol, h.a.fl]
          simp
          omega)]
        simp only [hsk, h.out]
        rfl
      have hwr : write f (s.drop p) = write f1 (s.drop (p + 1)) := by
        rw [hsw, hone, hf1]
        simp only [hsk]
        rfl
      have hf1a : At s lim (p + 1) f1 := by rw [hf1]; exact h.a.on h1 h2 rfl (by rw [h.a.n]) rfl
      have hfl1 : f1.stack.length = f.stack.length := by rw [hf1, hsk]; rfl
      have hx1 : RAt s lim (p + 1) x := peek_next h.r h.tk
      have kk := text_sim (s := s) (lim := lim) (s.length + 1 - p) (p + 1) x f1 txt0 (by omega) hf1a hx1 (by rw [hfl1]; exact h.fr) (by rw [hf1]) rfl rfl
      rw [show txt0.out = [] from rfl] at kk
      unfold R6.text
      rw [hwr]
      cases hs : R6.textN s lim (s.length + 1 - p) x (p + 1) [] with
      | mk o z =>
        rw [hs] at kk
        cases o with
        | none => exact kk
        | some v =>
          obtain ⟨b, q⟩ := v
          obtain ⟨k1, k2, k3, t', k4, k5⟩ := kk
          simp only
          have hfin : finish { f1 with n := q, now := .str t' } = if names.contains b then wrong { f1 with n := q, now := .none, out := bl R (x.out ++ [⟨4, 0, b⟩]) } p 9 else { f1 with n := q, now := .none, out := bl R (x.out ++ [⟨4, 0, b⟩]), stack := ⟨me, p, names ++ [b]⟩ :: st0, next := 4 } := by
            unfold finish
            simp only [hf1]
            rw [setText_bl _ _ _ _ hRix, k4, if_pos (by decide)]
          rw [hfin] at k5
          have hzf : z.r.frames = f.stack.length := k2.fr.trans h.fr
          by_cases hcon : names.contains b = true
          · rw [if_pos hcon]
            rw [if_pos hcon] at k5
            simp only
            rw [k5]
            exact fault_at (g := { f1 with n := q, now := .none, out := bl R (x.out ++ [⟨4, 0, b⟩]) }) (by decide) k2.tk k2.r.ended (by rw [hzf]; exact hfl1.symm) _
          · rw [if_neg hcon]
            rw [if_neg hcon] at k5
            obtain ⟨f2, hf2⟩ : ∃ f2 : Feed, f2 = { f1 with n := q, now := .none, out := bl R (x.out ++ [⟨4, 0, b⟩]), stack := ⟨me, p, names ++ [b]⟩ :: st0, next := 4 } := ⟨_, rfl⟩
            rw [← hf2] at k5
            obtain ⟨z1, hz1⟩ : ∃ z1 : R6.St, z1 = { z with out := z.out ++ [⟨4, 0, b⟩] } := ⟨_, rfl⟩
            have hz1o : z1.out = x.out ++ [⟨4, 0, b⟩] := by rw [hz1, k2.out]
            have hz1r : RAt s lim q z1 := by rw [hz1]; exact ⟨k2.r.lo, k2.r.hi, k2.r.pk, k2.r.err, k2.r.place, k2.r.ended⟩
            have hf2l : f2.stack.length = f.stack.length := by rw [hf2, hsk]; rfl
            have hz1f : z1.r.frames = f2.stack.length := by rw [hz1, hf2l]; exact hzf
            have hf2a : At s lim q f2 := by rw [hf2]; exact ⟨k3.fl, rfl, k3.ps, k3.pb, k3.err⟩
            have hps := pass_sim (s := s) (lim := lim) (s.length + 1 - q) q z1 f2 (by have := k3.ps; omega) hf2a hz1r hz1f (by rw [hf2]) (by rw [hf2]; show (4 : Nat) ≠ 6; decide)
            rw [k5, ← hz1]
            unfold R6.pass
            cases hp : R6.passN s lim (s.length + 1 - q) z1 q with
            | mk o u =>
              rw [hp] at hps
              cases o with
              | none => exact hps
              | some q1 =>
                obtain ⟨i1, i2, i3, i4, i5, i6, i7⟩ := hps
                have htu : u.r.taken = q1 + 1 := by rw [i5]
                have hur : RAt s lim q1 u := ⟨by omega, by omega, fun _ => ⟨i2, i3⟩, by rw [i5]; exact hz1r.err, by rw [i5]; exact hz1r.place, by rw [i5]; exact hz1r.ended⟩
                have huf : u.r.frames = f2.stack.length := by rw [i5]; exact hz1f
                have huo : u.out = x.out ++ [⟨4, 0, b⟩] := by rw [i5]; exact hz1o
                obtain ⟨hwu, _, _⟩ := peek_want hur htu
                have hsw2 := struct_write (f := { f2 with n := q1 }) i6 hur htu (by rw [hf2])
                have e2 : structure_ { f2 with n := q1 + 1 } (s.getD q1 0) = _ := colon_struct (f := f2) (n := q1 + 1) (c := s.getD q1 0) (by rw [hf2]) i4
                have hsw2 : write { f2 with n := q1 } (s.drop q1) = write (structure_ { f2 with n := q1 + 1 } (s.getD q1 0)) (s.drop (q1 + 1)) := hsw2
                rw [e2] at hsw2
                simp only
                rw [hwu, i7]
                simp only
                by_cases c2 : at_ s q1 = 58
                · rw [if_pos (show (at_ s q1 == 58) = true by simpa using c2)]
                  rw [at_byte (k := 58) c2, if_pos (by decide)] at hsw2
                  obtain ⟨f3, hf3⟩ : ∃ f3 : Feed, f3 = { f2 with n := q1 + 1, next := 0 } := ⟨_, rfl⟩
                  rw [← hf3] at hsw2
                  have hf3a : At s lim (q1 + 1) f3 := by rw [hf3]; exact ⟨i6.fl, rfl, i2, by show ((q1 + 1 : Nat) : Int) ≤ lim.b; omega, i6.err⟩
                  have hur1 : RAt s lim (q1 + 1) u := peek_next hur htu
                  have hf3l : f3.stack.length = f2.stack.length := by rw [hf3]
                  have hps2 := pass_sim (s := s) (lim := lim) (s.length + 1 - (q1 + 1)) (q1 + 1) u f3 (by omega) hf3a hur1 (by rw [hf3l]; exact huf) (by rw [hf3, hf2]) (by rw [hf3]; show (0 : Nat) ≠ 6; decide)
                  simp only
                  rw [hsw2]
                  cases hp2 : R6.passN s lim (s.length + 1 - (q1 + 1)) u (q1 + 1) with
                  | mk o w =>
                    rw [hp2] at hps2
                    cases o with
                    | none => exact hps2
                    | some q2 =>
                      obtain ⟨j1, j2, j3, j4, j5, j6, j7⟩ := hps2
                      have hwo : w.out = x.out ++ [⟨4, 0, b⟩] := by rw [j5]; exact huo
                      have hwl : w.out.length = x.out.length + 1 := by rw [hwo, List.length_append]; rfl
                      have hwf : w.r.frames = f3.stack.length := by rw [j5, hf3l]; exact huf
                      have hf3s : f3.stack = ⟨me, p, names ++ [b]⟩ :: st0 := by rw [hf3, hf2]
                      have hin : VIn s lim d w q2 { f3 with n := q2 } R := by
                        refine ⟨j6, ⟨by rw [j5]; exact Nat.le_succ _, by rw [j5]; exact Nat.le_refl _, fun _ => ⟨j2, j3⟩, by rw [j5]; exact hur1.err, by rw [j5]; exact hur1.place, by rw [j5]; exact hur1.ended⟩, by rw [j5], j4, hwf, by rw [hf3, hf2], .inl (by rw [hf3]), ?_, ?_, ?_, ?_, ?_⟩
                        · show f3.out = bl R w.out; rw [hwo, hf3, hf2]
                        · intro i hi; have := hRix i hi; omega
                        · intro c hc
                          have hc : f3.stack.head? = some c := hc
                          rw [hf3s] at hc
                          simp only [List.head?_cons, Option.some.injEq] at hc
                          rw [← hc]
                          show me < w.out.length
                          have := h.ml
                          omega
                        · show ((f3.stack.length + d : Nat) : Int) = lim.d
                          rw [hf3l, hf2l]
                          exact h.dep
                        · have := h.oi; omega
                      have hv := hrc w q2 { f3 with n := q2 } R hin
                      simp only
                      rw [j7]
                      cases hr : rc w q2 with
                      | mk o v =>
                        rw [hr] at hv
                        cases o with
                        | none => exact hv
                        | some q3 =>
                          obtain ⟨g, hg⟩ := hv
                          have hlt := hg.lt
                          refine ⟨by omega, hg.r, hg.tk, ?_, ?_, hg.oi, g, p, hg.a, hg.now, ?_, ?_, ?_, ?_⟩
                          · rw [hg.fr, hwf, hf3l, hf2l, h.fr]
                          · have e := hg.ext
                            rw [hwo] at e
                            exact (Ext.snoc _ _).trans e
                          · rw [hg.st]; exact hf3s
                          · rw [hg.nx]
                            show (if f3.stack.isEmpty then 6 else 5) = 5
                            rw [hf3s]
                            rfl
                          · rw [hg.out]
                            show bl (hold f3.stack R) v.out = _
                            rw [hf3s, hR, bl_bump, ← bump_two]
                            rfl
                          · exact hg.ob
                · rw [if_neg (show ¬ (at_ s q1 == 58) = true by simpa using c2)]
                  rw [if_neg (byte_ne (k := 58) c2)] at hsw2
                  simp only
                  rw [hsw2]
                  exact fault_sim (e := 9) (p := q1) (g := { f2 with n := q1 + 1 }) (by decide) rfl htu hur.ended huf _
  · rw [if_neg (show ¬ (at_ s p == 34) = true by simpa using c1)]
    rw [if_neg (byte_ne (k := 34) c1)] at hsw
    simp only
    rw [hsw]
    exact peek_fault (by decide) h.r h.tk h.fr _
end Go.Px.J6

/-! The feed of layer 19 tells what the reference's reader of layer 16 tells (plain law). No program is named here. -/
namespace Go.Px.J6
open R6 (at_ blank numNext numEnd setText setKind bump)
variable {s : Bytes} {lim : Lim} {p : Nat} {f : Feed} {x y : R6.St}
theorem object_loop {d me : Nat} {Q : List Nat} {st : List Fm} {rc : R6.St → Nat → Option Nat × R6.St} (hrc : VSim s lim d rc) : ∀ (m p : Nat) (x : R6.St) (f : Feed) (names : List Bytes), s.length + 1 ≤ m + p → NIn s lim d me x p f names st Q →
    match R6.objectN s lim rc me m x p names with
    | (none, y) => obs (write f (s.drop p)) = told y.r
    | (some q, y) => ∃ g, COut s lim x y p q f st Q g := by
  intro m
  induction m with
  | zero => intro p x f names hm h; have := h.a.ps; have := (h.r.pk h.tk).1; omega
  | succ m ih =>
    intro p x f names hm h
    unfold R6.objectN
    have hv := member_sim hrc h
    cases hr : R6.member s lim rc x p names with
    | mk o y =>
      rw [hr] at hv
      cases o with
      | none => exact hv
      | some v =>
        obtain ⟨b, q⟩ := v
        obtain ⟨g0, g1, g2, g3, g4, g5, g, a1, g6, g7, g8, g9, g10, g11⟩ := hv
        obtain ⟨a0, hsk⟩ := h.sk
        have hxf : x.r.frames = g.stack.length := by rw [h.fr, hsk, g8]; rfl
        have hyl : me < y.out.length := Nat.lt_of_lt_of_le h.ml g4.1
        have hyk : (y.out.getD me v0).kind = 6 := (g4.2 me h.ml).trans h.kd
        have hob : object g = true := by
          rw [object_eq g8, g10, bl_kind, bump_kind, hyk]
          rfl
        obtain ⟨y1, hy1⟩ : ∃ y1 : R6.St, y1 = { y with out := bump y.out me 2 } := ⟨_, rfl⟩
        have hy1r : RAt s lim q y1 := by rw [hy1]; exact ⟨g1.lo, g1.hi, g1.pk, g1.err, g1.place, g1.ended⟩
        have hfr1 : y1.r.frames = g.stack.length := by rw [hy1]; show y.r.frames = _; rw [g3]; exact hxf
        have hps := pass_sim (s := s) (lim := lim) (s.length + 1 - q) q y1 g (by have := g6.ps; omega) g6 hy1r hfr1 g7 (by omega)
        simp only
        rw [← hy1]
        unfold R6.pass
        cases hp : R6.passN s lim (s.length + 1 - q) y1 q with
        | mk o z =>
          rw [hp] at hps
          cases o with
          | none => exact g11.trans hps
          | some q1 =>
            obtain ⟨i1, i2, i3, i4, i5, i6, i7⟩ := hps
            have htz : z.r.taken = q1 + 1 := by rw [i5]
            have hzr : RAt s lim q1 z := ⟨by omega, by omega, fun _ => ⟨i2, i3⟩, by rw [i5]; exact hy1r.err, by rw [i5]; exact hy1r.place, by rw [i5]; exact hy1r.ended⟩
            have hzo : z.out = bump y.out me 2 := by rw [i5, hy1]
            have hzf : z.r.frames = g.stack.length := by rw [i5]; exact hfr1
            have hext : Ext x.out z.out := by rw [hzo]; exact g4.trans (Ext.bump _ _ _)
            have hoi : (z.out.length : Int) ≤ lim.i := by rw [hzo, vbump_len]; exact g5
            have hsw := struct_write (f := { g with n := q1 }) i6 hzr htz g7
            have hsw : write { g with n := q1 } (s.drop q1) = write (structure_ { g with n := q1 + 1 } (s.getD q1 0)) (s.drop (q1 + 1)) := hsw
            simp only
            by_cases c1 : at_ s q1 = 125
            · rw [if_pos (by simpa using c1)]
              have e1 : structure_ { g with n := q1 + 1 } (s.getD q1 0) = { g with n := q1 + 1, stack := st, next := if st.isEmpty then 6 else 5 } :=
                close_struct g8 i4 (by rw [hob]; exact at_byte (k := 125) c1) (.inr (.inr g9))
              refine ⟨{ g with n := q1 + 1, stack := st, next := if st.isEmpty then 6 else 5 }, by omega, frame_next hzr htz, htz, ?_, hext, hoi, ⟨i6.fl, rfl, i2, by show ((q1 + 1 : Nat) : Int) ≤ lim.b; omega, i6.err⟩, g7, rfl, rfl, ?_, ?_⟩
              · show ((z.r.frames : Int) + -1).toNat = x.r.frames - 1
                rw [hzf, hxf]
                omega
              · show g.out = bl Q z.out
                rw [g10, hzo]
              · rw [g11, i7, hsw, e1]
            · rw [if_neg (by simpa using c1)]
              by_cases c2 : at_ s q1 = 44
              · rw [if_neg (by simp [c2])]
                have e1 : structure_ { g with n := q1 + 1 } (s.getD q1 0) = { g with n := q1 + 1, next := 2 } := by
                  rw [at_byte (k := 44) c2, comma_struct g9, hob]
                  rfl
                obtain ⟨g', hg'⟩ : ∃ g' : Feed, g' = { g with n := q1 + 1, next := 2 } := ⟨_, rfl⟩
                have hwr : obs (write f (s.drop p)) = obs (write g' (s.drop (q1 + 1))) := by
                  rw [g11, i7, hsw, e1, hg']
                have hz2 : RAt s lim (q1 + 1) z := peek_next hzr htz
                have hg2a : At s lim (q1 + 1) g' := by rw [hg']; exact ⟨i6.fl, rfl, i2, by show ((q1 + 1 : Nat) : Int) ≤ lim.b; omega, i6.err⟩
                have hps2 := pass_sim (s := s) (lim := lim) (s.length + 1 - (q1 + 1)) (q1 + 1) z g' (by omega) hg2a hz2 (by rw [hg']; exact hzf) (by rw [hg']; exact g7) (by rw [hg']; show (2 : Nat) ≠ 6; decide)
                cases hp2 : R6.passN s lim (s.length + 1 - (q1 + 1)) z (q1 + 1) with
                | mk o u =>
                  rw [hp2] at hps2
                  cases o with
                  | none => exact hwr.trans hps2
                  | some q2 =>
                    obtain ⟨j1, j2, j3, j4, j5, j6, j7⟩ := hps2
                    have hu : NIn s lim d me u q2 { g' with n := q2 } (names ++ [b]) st Q := by
                      refine ⟨j6, ⟨by rw [j5]; exact Nat.le_succ _, by rw [j5]; exact Nat.le_refl _, fun _ => ⟨j2, j3⟩, by rw [j5]; exact hz2.err, by rw [j5]; exact hz2.place, by rw [j5]; exact hz2.ended⟩, by rw [j5], j4, ?_, by rw [hg']; exact g7, .inl (by rw [hg']), ⟨a1, by rw [hg']; exact g8⟩, ?_, ?_, ?_, ?_, ?_, by rw [j5]; exact hoi⟩
                      · rw [j5, hg']; exact hzf
                      · rw [j5, hg']; show g.out = bl Q z.out; rw [g10, hzo]
                      · intro i hi; rw [j5]; exact Nat.lt_of_lt_of_le (h.ix i hi) hext.1
                      · rw [j5]; exact Nat.lt_of_lt_of_le h.ml hext.1
                      · rw [j5]; exact (hext.2 me h.ml).trans h.kd
                      · rw [hg']; show ((g.stack.length + d : Nat) : Int) = lim.d; rw [← hxf, h.fr]; exact h.dep
                    have hi := ih q2 u { g' with n := q2 } (names ++ [b]) (by omega) hu
                    simp only
                    cases hl2 : R6.objectN s lim rc me m u q2 (names ++ [b]) with
                    | mk o v =>
                      rw [hl2] at hi
                      cases o with
                      | none => exact hwr.trans ((congrArg obs j7).trans hi)
                      | some q3 =>
                        obtain ⟨g3', hg3⟩ := hi
                        refine ⟨g3', by have := hg3.lt; omega, hg3.r, hg3.tk, ?_, ?_, hg3.oi, hg3.a, hg3.now, hg3.st, hg3.nx, hg3.out, hwr.trans ((congrArg obs j7).trans hg3.ob)⟩
                        · rw [hg3.fr, j5]
                          show z.r.frames - 1 = _
                          rw [hzf, hxf]
                        · have := hg3.ext
                          rw [j5] at this
                          exact hext.trans this
              · rw [if_pos (by simpa using c2)]
                have e1 : structure_ { g with n := q1 + 1 } (s.getD q1 0) = wrong { g with n := q1 + 1 } (q1 + 1 - 1 : Nat) 9 :=
                  behind_bad g9 i4 (by rw [hob]; exact fun e => c1 (by unfold R6.at_; rw [e]; rfl)) (fun e => c2 (by unfold R6.at_; rw [e]; rfl))
                rw [g11, i7, hsw, e1]
                exact fault_sim (e := 9) (p := q1) (g := { g with n := q1 + 1 }) (by decide) rfl htz hzr.ended hzf _
/-- A whole object, its first sign looked at. -/
theorem object_val {d : Nat} {P : List Nat} {rc : R6.St → Nat → Option Nat × R6.St} (hrc : VSim s lim d rc) (h : VIn s lim (d + 1) x p f P) (hl : ¬ (x.out.length : Int) = lim.i) (hc : at_ s p = 123) :
    match R6.object s lim rc x.out.length { x with out := x.out ++ [⟨6, 0, []⟩] } (p + 1) with
    | (none, y) => obs (write f (s.drop p)) = told y.r
    | (some q, y) => ∃ g, VOut s lim x y p q f P g := by
  obtain ⟨hw, h1, h2⟩ := peek_want h.r h.tk
  obtain ⟨Q, hQ⟩ : ∃ Q, Q = hold f.stack P := ⟨_, rfl⟩
  obtain ⟨f1, hf1⟩ : ∃ f1 : Feed, f1 = { f with n := p + 1, out := bl Q (x.out ++ [⟨6, 0, []⟩]), now := .none, stack := ⟨x.out.length, 0, []⟩ :: f.stack, next := 3 } := ⟨_, rfl⟩
  have hwr : write f (s.drop p) = write f1 (s.drop (p + 1)) := by
    rw [vin_write h, at_byte (k := 123) hc, hf1, hQ]
    have hv : value { f with n := p + 1 } 123 = valueOn { f with n := p + 1 } 123 ⟨6, 0, []⟩ .none := rfl
    rw [hv, open_ok h hl]
    rfl
  obtain ⟨x1, hx1⟩ : ∃ x1 : R6.St, x1 = R6.frame { x with out := x.out ++ [⟨6, 0, []⟩] } 1 := ⟨_, rfl⟩
  have hx1r : RAt s lim (p + 1) x1 := by
    have := peek_next h.r h.tk
    rw [hx1]
    exact ⟨this.lo, this.hi, this.pk, this.err, this.place, this.ended⟩
  have hx1f : x1.r.frames = f1.stack.length := by
    rw [hx1, hf1]
    show ((x.r.frames : Int) + 1).toNat = f.stack.length + 1
    rw [h.fr]
    omega
  have hx1o : x1.out = x.out ++ [⟨6, 0, []⟩] := by rw [hx1]; rfl
  have hf1a : At s lim (p + 1) f1 := by rw [hf1]; exact h.a.on h1 h2 rfl (by rw [h.a.n]) rfl
  have hQix : ∀ i ∈ Q, i < x.out.length := by rw [hQ]; exact hold_ix h
  have hk1 : (x1.out.getD x.out.length v0).kind = 6 := by
    rw [hx1o]
    simp [List.getD_eq_getElem?_getD]
  have hext1 : Ext x.out x1.out := by rw [hx1o]; exact Ext.snoc _ _
  have hl1 : x1.out.length = x.out.length + 1 := by rw [hx1o, List.length_append]; rfl
  have hoi1 : (x1.out.length : Int) ≤ lim.i := by have := h.oi; rw [hl1]; omega
  have hf1o : f1.out = bl Q x1.out := by rw [hx1o, hf1]
  have hob : object f1 = true := by
    rw [object_eq (f := f1) (a := ⟨x.out.length, 0, []⟩) (st := f.stack) (by rw [hf1]), hf1o, bl_kind, hk1]
    rfl
  have hps := pass_sim (s := s) (lim := lim) (s.length + 1 - (p + 1)) (p + 1) x1 f1 (by omega) hf1a hx1r hx1f (by rw [hf1]) (by rw [hf1]; show (3 : Nat) ≠ 6; decide)
  unfold R6.object R6.pass
  rw [← hx1, hwr]
  cases hp : R6.passN s lim (s.length + 1 - (p + 1)) x1 (p + 1) with
  | mk o z =>
    rw [hp] at hps
    cases o with
    | none => exact hps
    | some q =>
      obtain ⟨i1, i2, i3, i4, i5, i6, i7⟩ := hps
      have htz : z.r.taken = q + 1 := by rw [i5]
      have hzr : RAt s lim q z := ⟨by omega, by omega, fun _ => ⟨i2, i3⟩, by rw [i5]; exact hx1r.err, by rw [i5]; exact hx1r.place, by rw [i5]; exact hx1r.ended⟩
      have hzf : z.r.frames = f1.stack.length := by rw [i5]; exact hx1f
      have hzo : z.out = x1.out := by rw [i5]
      have hf1l : f1.stack.length = f.stack.length + 1 := by rw [hf1]; rfl
      have hsw := struct_write (f := { f1 with n := q }) i6 hzr htz (by rw [hf1])
      have hsw : write { f1 with n := q } (s.drop q) = write (structure_ { f1 with n := q + 1 } (s.getD q 0)) (s.drop (q + 1)) := hsw
      simp only
      by_cases c1 : at_ s q = 125
      · rw [if_pos (by simpa using c1)]
        have e1 : structure_ { f1 with n := q + 1 } (s.getD q 0) = { f1 with n := q + 1, stack := f.stack, next := if f.stack.isEmpty then 6 else 5 } :=
          close_struct (a := ⟨x.out.length, 0, []⟩) (by rw [hf1]) i4 (by rw [hob]; exact at_byte (k := 125) c1) (.inr (.inl (by rw [hf1])))
        refine ⟨{ f1 with n := q + 1, stack := f.stack, next := if f.stack.isEmpty then 6 else 5 }, by omega, frame_next hzr htz, htz, ?_, ?_, ?_, ⟨i6.fl, rfl, i2, by show ((q + 1 : Nat) : Int) ≤ lim.b; omega, i6.err⟩, by rw [hf1], rfl, rfl, ?_, ?_⟩
        · show ((z.r.frames : Int) + -1).toNat = x.r.frames
          rw [hzf, hf1l, h.fr]
          omega
        · show Ext x.out z.out; rw [hzo]; exact hext1
        · show (z.out.length : Int) ≤ _; rw [hzo]; exact hoi1
        · show f1.out = bl (hold f.stack P) z.out
          rw [hzo, hf1o, hQ]
        · rw [hwr, i7, hsw, e1]
      · rw [if_neg (by simpa using c1)]
        have hu : NIn s lim d x.out.length z q { f1 with n := q } [] f.stack Q := by
          refine ⟨i6, hzr, htz, i4, hzf, by rw [hf1], .inr ⟨by rw [hf1], c1⟩, ⟨0, by rw [hf1]⟩, ?_, ?_, by rw [hzo]; omega, by rw [hzo]; exact hk1, ?_, by rw [hzo]; exact hoi1⟩
          · show f1.out = bl Q z.out; rw [hzo]; exact hf1o
          · intro i hi; rw [hzo]; have := hQix i hi; omega
          · show ((f1.stack.length + d : Nat) : Int) = lim.d
            have := h.dep
            rw [hf1l]
            omega
        have hi := object_loop (st := f.stack) (me := x.out.length) hrc (s.length + 1 - q) q z { f1 with n := q } [] (by omega) hu
        rw [i7]
        cases hl2 : R6.objectN s lim rc x.out.length (s.length + 1 - q) z q [] with
        | mk o v =>
          rw [hl2] at hi
          cases o with
          | none => exact hi
          | some q3 =>
            obtain ⟨g3, hg3⟩ := hi
            refine ⟨g3, by have := hg3.lt; omega, hg3.r, hg3.tk, ?_, ?_, hg3.oi, hg3.a, hg3.now, hg3.st, hg3.nx, ?_, ?_⟩
            · rw [hg3.fr, hzf, hf1l, h.fr]
              rfl
            · have e := hg3.ext
              rw [hzo] at e
              exact hext1.trans e
            · rw [hg3.out, hQ]
            · rw [hwr, i7]; exact hg3.ob
/-- Any value. -/
theorem value_sim (hb : 0 ≤ lim.b) : ∀ d, VSim s lim d (R6.value s lim d) := by
  intro d
  induction d with
  | zero =>
    intro x p f P h
    obtain ⟨hw, h1, h2⟩ := peek_want h.r h.tk
    unfold R6.value
    rw [hw]
    simp only
    by_cases hf : R6.firsts (at_ s p) = true
    · rw [if_neg (by rw [hf]; decide)]
      by_cases hl : lim.i ≤ x.out.length
      · rw [if_pos (by simp [hl])]
        have := h.oi
        exact plain_full h (by omega) hf
      · by_cases hc : at_ s p = 123 ∨ at_ s p = 91
        · rw [if_pos (by simp [hc])]
          simp only
          rw [vin_write h]
          rcases hc with hc | hc
          · rw [at_byte (k := 123) hc, show value { f with n := p + 1 } 123 = valueOn { f with n := p + 1 } 123 ⟨6, 0, []⟩ .none from rfl, open_deep h]
            exact peek_fault (by decide) h.r h.tk h.fr _
          · rw [at_byte (k := 91) hc, show value { f with n := p + 1 } 91 = valueOn { f with n := p + 1 } 91 ⟨5, 0, []⟩ .none from rfl, open_deep h]
            exact peek_fault (by decide) h.r h.tk h.fr _
        · rw [if_neg (by simp only [Bool.or_eq_true, decide_eq_true_eq, beq_iff_eq]; rintro (w | w); exact hl w; exact hc w)]
          exact plain_val hb h (by omega) hf (fun e => hc (.inl e)) (fun e => hc (.inr e))
    · rw [if_pos (by simpa using hf)]
      exact plain_bad h (by simpa using hf)
  | succ d ih =>
    intro x p f P h
    obtain ⟨hw, h1, h2⟩ := peek_want h.r h.tk
    unfold R6.value
    rw [hw]
    simp only
    by_cases hf : R6.firsts (at_ s p) = true
    · rw [if_neg (by rw [hf]; decide)]
      by_cases hl : lim.i ≤ x.out.length
      · rw [if_pos hl]
        have := h.oi
        exact plain_full h (by omega) hf
      · rw [if_neg hl]
        have hl' : ¬ (x.out.length : Int) = lim.i := by omega
        by_cases hc : at_ s p = 123
        · rw [if_pos (by simpa using hc), setKind_last]
          exact object_val ih h hl' hc
        · rw [if_neg (by simpa using hc)]
          by_cases hc2 : at_ s p = 91
          · rw [if_pos (by simpa using hc2), setKind_last]
            exact array_val ih h hl' hc2
          · rw [if_neg (by simpa using hc2)]
            exact plain_val hb h hl' hf hc hc2
    · rw [if_pos (by simpa using hf)]
      exact plain_bad h (by simpa using hf)
/-- Behind the value. -/
theorem rest_sim : ∀ (m p : Nat) (x : R6.St) (f : Feed), s.length + 1 ≤ m + p → At s lim p f → RAt s lim p x → x.r.frames = f.stack.length → f.now = .none → f.next = 6 → f.stack = [] → x.r.taken = p →
    match R6.restN s lim m x p with
    | (false, y) => obs (write f (s.drop p)) = told y.r
    | (true, y) => y.out = x.out ∧ y.r.err = 0 ∧ y.r.place = 0 ∧ y.r.ended = false ∧ obs (write f (s.drop p)) = (0, y.r.taken, y.r.frames, (f.out, 0, 0)) := by
  intro m
  induction m with
  | zero => intro p x f hm h; have := h.ps; omega
  | succ m ih =>
    intro p x f hm h hx hfr hnow hnext hst htk
    unfold R6.restN
    by_cases hlt : p < s.length
    · rw [if_pos hlt]
      cases hw : R6.want s lim x p with
      | mk b y =>
        cases b with
        | false =>
          simp only
          rcases want_cases s lim x p with ⟨_, _, e⟩ | ⟨c1, c2, e⟩ | ⟨c1, c2, e⟩
          · rw [e] at hw; cases hw
          · rw [e] at hw
            cases hw
            have hpb := h.pb
            have hp : (p : Int) = lim.b := by omega
            rw [List.drop_eq_getElem_cons hlt, write_cons, if_pos (by rw [h.err]; rfl)]
            have e1 : byte f s[p] = wrong f lim.b 10 := by
              unfold byte
              rw [if_pos (by rw [h.n, h.fl, hp]; simp), h.fl]
            rw [e1, obs_wrong _ _ _ (by decide)]
            unfold told
            show _ = (if x.r.ended = true then (0 : Int) else 10, max x.r.taken lim.b.toNat, x.r.frames, (([] : List Val), lim.b, (10 : Int)))
            rw [hx.ended, if_neg (by decide), hfr, h.n, htk]
            congr 2
            omega
          · have hpb := h.pb
            exfalso
            omega
        | true =>
          obtain ⟨h1, h2, hy, hwr⟩ := want_yes h hx hw
          simp only
          rw [hwr, takeC_none hnow, h.n]
          by_cases hb : blank (at_ s p) = true
          · rw [if_pos hb]
            have e1 : structure_ { f with n := p + 1 } (s.getD p 0) = { f with n := p + 1 } := by
              unfold structure_
              rw [if_pos (show blank (s.getD p 0).toNat = true from hb)]
            rw [e1]
            have k := ih (p + 1) y { f with n := p + 1 } (by omega) (h.on h1 h2 rfl (by rw [h.n]) rfl) (by rw [hy]; exact hx.next) (by rw [hy]; exact hfr) hnow hnext hst (by rw [hy])
            cases hr : R6.restN s lim m y (p + 1) with
            | mk o z =>
              rw [hr] at k
              cases o with
              | false => exact k
              | true =>
                obtain ⟨k1, k2, k3, k4, k5⟩ := k
                exact ⟨k1.trans (by rw [hy]), k2, k3, k4, k5⟩
          · rw [if_neg hb]
            have hob : object f = false := by unfold object; rw [hst]
            have e1 : structure_ { f with n := p + 1 } (s.getD p 0) = wrong { f with n := p + 1 } (p + 1 - 1 : Nat) 9 := by
              unfold structure_
              rw [if_neg (show ¬ blank (s.getD p 0).toNat = true from hb)]
              simp only
              rw [if_neg (by simp [hnext]), if_neg (by simp [hnext]), if_neg (by simp [hnext]), if_neg (by simp [hnext]), if_neg (by simp [hnext])]
            rw [e1]
            exact fault_sim (e := 9) (p := p) (g := { f with n := p + 1 }) (by decide) rfl (by rw [hy]) (by rw [hy]; exact hx.ended) (by rw [hy]; exact hfr) _
    · rw [if_neg hlt]
      refine ⟨rfl, hx.err, hx.place, hx.ended, ?_⟩
      have hps := h.ps
      rw [List.drop_eq_nil_of_le (by omega)]
      show obs f = _
      unfold obs End
      rw [if_neg (show ¬ (f.err != 0) = true by simp [h.err]), hnow]
      simp only
      rw [if_pos (by simp [hnext]), h.err, h.n, htk, hfr]
theorem may_of {lim : Lim} (hm : lim.may = true) : 1 ≤ lim.d ∧ lim.d ≤ 32 ∧ 1 ≤ lim.i ∧ lim.i ≤ 4096 ∧ 1 ≤ lim.b ∧ lim.b ≤ 262144 := by
  unfold Lim.may at hm
  simp only [Bool.and_eq_true, decide_eq_true_eq] at hm
  omega
/-- The feed tells what the reference's reader tells. -/
theorem feed_ref (s : Bytes) (lim : Lim) (hm : lim.may = true) :
    obs (write (init lim) s) = (if (R6.read s lim).2.ended then 0 else (R6.read s lim).2.err, (R6.read s lim).2.taken, (R6.read s lim).2.frames, (R6.read s lim).1, (R6.read s lim).2.place, (R6.read s lim).2.err) := by
  have hmay := may_of hm
  have ha : At s lim 0 (init lim) := ⟨rfl, rfl, Nat.zero_le _, by omega, rfl⟩
  have hx : RAt s lim 0 R6.start := ⟨Nat.le_refl _, Nat.zero_le _, (fun h => by cases h), rfl, rfl, rfl⟩
  have hps := pass_sim (s := s) (lim := lim) (s.length + 1) 0 R6.start (init lim) (by omega) ha hx rfl rfl (by show (0 : Nat) ≠ 6; decide)
  rw [show s.drop 0 = s from rfl] at hps
  unfold R6.read R6.pass
  rw [Nat.sub_zero]
  cases hp : R6.passN s lim (s.length + 1) R6.start 0 with
  | mk o z =>
    rw [hp] at hps
    cases o with
    | none => exact hps
    | some q =>
      obtain ⟨i1, i2, i3, i4, i5, i6, i7⟩ := hps
      have hin : VIn s lim lim.d.toNat z q { init lim with n := q } [] := by
        refine ⟨i6, ⟨by rw [i5]; exact Nat.le_succ _, by rw [i5]; exact Nat.le_refl _, fun _ => ⟨i2, i3⟩, by rw [i5]; rfl, by rw [i5]; rfl, by rw [i5]; rfl⟩, by rw [i5], i4, by rw [i5]; rfl, rfl, .inl rfl, by rw [i5]; rfl, (fun i hi => by cases hi), (fun h hh => by cases hh), ?_, ?_⟩
        · show ((0 + lim.d.toNat : Nat) : Int) = lim.d
          omega
        · rw [i5]
          show ((0 : Nat) : Int) ≤ lim.i
          omega
      have hv := value_sim (s := s) (lim := lim) (by omega) lim.d.toNat z q { init lim with n := q } [] hin
      simp only
      rw [i7]
      cases hr : R6.value s lim lim.d.toNat z q with
      | mk o y =>
        rw [hr] at hv
        cases o with
        | none => exact hv
        | some q2 =>
          obtain ⟨g, hg⟩ := hv
          have hyf : y.r.frames = g.stack.length := by rw [hg.fr, hg.st, i5]; rfl
          have hk := rest_sim (s := s) (lim := lim) (s.length + 1 - q2) q2 y g (by have := hg.a.ps; omega) hg.a hg.r hyf hg.now hg.nx hg.st hg.tk
          simp only
          rw [hg.ob]
          cases hl : R6.restN s lim (s.length + 1 - q2) y q2 with
          | mk o u =>
            rw [hl] at hk
            cases o with
            | false => exact hk
            | true =>
              obtain ⟨k1, k2, k3, k4, k5⟩ := hk
              simp only
              rw [k5, k2, k3, k4, k1, hg.out]
              rfl
end Go.Px.J6
