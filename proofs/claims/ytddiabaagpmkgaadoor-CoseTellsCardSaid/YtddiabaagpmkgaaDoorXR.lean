/-
 Several texts in one: The program's reader of package cbor as plain functions on plain data. No program is named here. The program's reader does what the reference's does (plain law). No program is named here.
-/
import Derived.Test.YtddiabaagpmkgaaDoorXQ
/-! The program's reader of package cbor as plain functions on plain data. No program is named here. -/
namespace Go.Px.D7
structure Fm where
 kind : Int
 at_ : Nat
 left : Nat
 key : Bytes
 any : Bool
structure Dx where
 at_ : Nat
 stack : List Fm
 out : List Atom
abbrev Flt := Int × Int
def want (s : Bytes) (lim : Lim) (p : Nat) : Except Flt Nat :=
 if s.length ≤ p then .error (s.length, 9) else if lim.b ≤ p then .error (lim.b, 10) else .ok (s.getD p 0).toNat
def argN (s : Bytes) (lim : Lim) : Nat → Nat → Nat → Except Flt Nat
 | 0, _, n => .ok n
 | m + 1, p, n => match want s lim p with
  | .error e => .error e
  | .ok c => argN s lim m (p + 1) (n * 256 + c)
/-- A head: its kind, its argument, the place behind. -/
def head (s : Bytes) (lim : Lim) (o p : Nat) : Except Flt (Nat × Nat × Nat) :=
 match want s lim p with
 | .error e => .error e
 | .ok c =>
  if (o : Int) = lim.i then .error (p, 10)
  else if 27 < c % 32 then .error (p, 9)
  else if c / 32 == 7 && (decide (c % 32 < 20) || decide (23 < c % 32)) then .error (p, 11)
  else if c % 32 < 24 then .ok (c / 32, c % 32, p + 1)
  else match argN s lim (2 ^ (c % 32 - 24)) (p + 1) 0 with
   | .error e => .error e
   | .ok n => if n < Cf.least (c % 32) then .error (p, 9) else .ok (c / 32, n, p + 1 + 2 ^ (c % 32 - 24))
def room (s : Bytes) (lim : Lim) (p : Nat) : Nat := min s.length lim.b.toNat - p
def take (s : Bytes) (lim : Lim) (p n : Nat) : Except Flt Bytes :=
 if room s lim p < n then (match want s lim (p + room s lim p) with | .error e => .error e | .ok _ => .ok []) else .ok ((s.take (p + n)).drop p)
def ended (s : Bytes) (x : Dx) (p : Nat) : Except Flt Dx :=
 match x.stack with
 | [] => .ok x
 | f :: rest =>
  if f.kind == 5 && f.left % 2 == 0 then
   if f.any && leB ((s.take x.at_).drop p) f.key then .error (p, 9)
   else .ok { x with stack := { f with key := (s.take x.at_).drop p, any := true, left := f.left - 1 } :: rest }
  else .ok { x with stack := { f with left := f.left - 1 } :: rest }
def push (lim : Lim) (x : Dx) (p k n q left : Nat) : Except Flt Dx :=
 if (x.stack.length : Int) = lim.d then .error (p, 10)
 else .ok { at_ := q, stack := ⟨k, p, left, [], false⟩ :: x.stack, out := x.out ++ [⟨k, n, []⟩] }
def beginD (s : Bytes) (lim : Lim) (x : Dx) : Except Flt Dx :=
 match head s lim x.out.length x.at_ with
 | .error e => .error e
 | .ok (k, n, q) =>
  if k == 2 || k == 3 then
   match take s lim q n with
   | .error e => .error e
   | .ok t => if k == 3 && !Lib.validD t then .error (x.at_, 9) else ended s { at_ := q + n, stack := x.stack, out := x.out ++ [⟨k, 0, t⟩] } x.at_
  else if k == 4 then push lim x x.at_ k n q n
  else if k == 5 then push lim x x.at_ k n q (2 * min n 1099511627776)
  else if k == 6 then push lim x x.at_ k n q 1
  else ended s { at_ := q, stack := x.stack, out := x.out ++ [⟨k, n, []⟩] } x.at_
def loopN (s : Bytes) (lim : Lim) : Nat → Dx → Option (Except Flt Dx)
 | 0, _ => none
 | m + 1, x => match x.stack with
  | [] => some (.ok x)
  | f :: rest =>
   if 0 < f.left then (match beginD s lim x with | .error e => some (.error e) | .ok y => loopN s lim m y)
   else match ended s { x with stack := rest } f.at_ with | .error e => some (.error e) | .ok y => loopN s lim m y
def after (s : Bytes) (lim : Lim) (r : Except Flt Dx) (m : Nat) : Option (Except Flt Dx) :=
 match r with
 | .error e => some (.error e)
 | .ok y => loopN s lim m y
end Go.Px.D7

/-! The program's reader does what the reference's does (plain law). No program is named here. -/
namespace Go.Px.D7
open R7 (St Moved)

/-- What holds of the reference's reader between two items. -/
structure Ok (s : Bytes) (lim : Lim) (x : St) (p : Nat) : Prop where
 ps : p ≤ s.length
 pb : (p : Int) ≤ lim.b
 taken : x.taken = p
 out : (x.out.length : Int) ≤ lim.i
def flt (y : St) : Flt := (y.place, y.err)

theorem want_ok {s : Bytes} {lim : Lim} {x y : St} {p : Nat} (h : R7.want s lim x p = (true, y)) (ht : x.taken = p) : want s lim p = .ok (s.getD p 0).toNat ∧ p < s.length ∧ (p : Int) < lim.b ∧ y = { x with taken := p + 1 } := by
 unfold R7.want at h
 by_cases h1 : p < s.length ∧ (p : Int) < lim.b
 ·rw [if_pos h1] at h
  simp only [Prod.mk.injEq, true_and] at h
  refine ⟨?_, h1.1, h1.2, ?_⟩
  ·unfold want; rw [if_neg (by omega), if_neg (by omega)]
  ·rw [← h]; unfold R7.take; rw [ht, Nat.max_eq_right (Nat.le_succ p)]
 ·rw [if_neg h1] at h
  split at h <;> simp at h
theorem want_bad {s : Bytes} {lim : Lim} {x y : St} {p : Nat} (h : R7.want s lim x p = (false, y)) (hp : p ≤ s.length) (hb : (p : Int) ≤ lim.b) : want s lim p = .error (flt y) := by
 unfold R7.want at h
 by_cases h1 : p < s.length ∧ (p : Int) < lim.b
 ·rw [if_pos h1] at h; simp at h
 ·rw [if_neg h1] at h
  by_cases h2 : lim.b < s.length
  ·rw [if_pos h2] at h
   simp only [Prod.mk.injEq, true_and] at h
   subst h
   unfold want
   rw [if_neg (by omega), if_pos (by omega)]
   rfl
  ·rw [if_neg h2] at h
   simp only [Prod.mk.injEq, true_and] at h
   subst h
   unfold want
   rw [if_pos (by omega)]
   rfl
theorem argN_eq (s : Bytes) (lim : Lim) : ∀ (m : Nat) (x : St) (p n : Nat), x.taken = p → p ≤ s.length → (p : Int) ≤ lim.b →
  match R7.argN s lim m x p n with
  | (some v, y) => argN s lim m p n = .ok v ∧ y = { x with taken := p + m } ∧ p + m ≤ s.length ∧ ((p + m : Nat) : Int) ≤ lim.b
  | (none, y) => argN s lim m p n = .error (flt y)
 | 0, x, p, n, ht, hp, hb => ⟨rfl, by rw [Nat.add_zero, ← ht], hp, hb⟩
 | m + 1, x, p, n, ht, hp, hb => by
  unfold R7.argN argN
  cases hw : R7.want s lim x p with
  | mk b y =>
   cases b
   ·simp only; rw [want_bad hw hp hb]
   ·obtain ⟨h1, h2, h3, h4⟩ := want_ok hw ht
    simp only
    rw [h1]
    simp only
    have := argN_eq s lim m y (p + 1) (n * 256 + (s.getD p 0).toNat) (by rw [h4]) h2 (by omega)
    cases hr : R7.argN s lim m y (p + 1) (n * 256 + (s.getD p 0).toNat) with
    | mk o z =>
     rw [hr] at this
     cases o with
     | none => exact this
     | some v =>
      obtain ⟨a, b, c, d⟩ := this
      refine ⟨a, ?_, by omega, by omega⟩
      rw [b, h4, show p + 1 + m = p + (m + 1) by omega]
theorem argN_small (s : Bytes) (lim : Lim) : ∀ (m : Nat) (x : St) (p n k : Nat), n < 256 ^ k → ∀ v y, R7.argN s lim m x p n = (some v, y) → v < 256 ^ (k + m)
 | 0, x, p, n, k, h, v, y, e => by
  unfold R7.argN at e
  simp only [Prod.mk.injEq, Option.some.injEq] at e
  rw [← e.1]; exact h
 | m + 1, x, p, n, k, h, v, y, e => by
  unfold R7.argN at e
  cases hw : R7.want s lim x p with
  | mk b z =>
   rw [hw] at e
   cases b
   ·simp at e
   ·have hc := (s.getD p 0).toNat_lt
    have := argN_small s lim m z (p + 1) (n * 256 + (s.getD p 0).toNat) (k + 1) (by rw [Nat.pow_succ]; omega) v y e
    rw [show k + (m + 1) = k + 1 + m by omega]; exact this
theorem head_eq {s : Bytes} {lim : Lim} {x : St} {p : Nat} (h : Ok s lim x p) :
  match R7.head s lim x p with
  | (some (k, n, q), y) => head s lim x.out.length p = .ok (k, n, q) ∧ y = { x with taken := q } ∧ q ≤ s.length ∧ (q : Int) ≤ lim.b ∧ p < q ∧ k < 8 ∧ n < 18446744073709551616
  | (none, y) => head s lim x.out.length p = .error (flt y) := by
 unfold R7.head head
 cases hw : R7.want s lim x p with
 | mk b y =>
  cases b
  ·simp only; rw [want_bad hw h.ps h.pb]
  ·obtain ⟨h1, h2, h3, h4⟩ := want_ok hw h.taken
   have hyo : y.out = x.out := by rw [h4]
   have hc := (s.getD p 0).toNat_lt
   simp only
   rw [h1]
   simp only
   obtain ⟨c, hcc⟩ : ∃ c, c = (s.getD p 0).toNat := ⟨_, rfl⟩
   rw [← hcc] at hc ⊢
   have ho := h.out
   by_cases hi : lim.i ≤ y.out.length
   ·rw [if_pos hi, if_pos (show (x.out.length : Int) = lim.i by rw [hyo] at hi; omega)]; rfl
   ·rw [if_neg hi, if_neg (show ¬ (x.out.length : Int) = lim.i by rw [hyo] at hi; omega)]
    by_cases h27 : 27 < c % 32
    ·rw [if_pos h27, if_pos h27]; rfl
    ·rw [if_neg h27, if_neg h27]
     by_cases h7 : (c / 32 == 7 && (decide (c % 32 < 20) || decide (23 < c % 32))) = true
     ·rw [if_pos h7, if_pos h7]; rfl
     ·rw [if_neg h7, if_neg h7]
      by_cases h24 : c % 32 < 24
      ·rw [if_pos h24, if_pos h24]
       exact ⟨rfl, h4, h2, by omega, by omega, by omega, by omega⟩
      ·rw [if_neg h24, if_neg h24]
       have ha := argN_eq s lim (2 ^ (c % 32 - 24)) y (p + 1) 0 (by rw [h4]) h2 (by omega)
       have hs := argN_small s lim (2 ^ (c % 32 - 24)) y (p + 1) 0 0 (by simp)
       cases hr : R7.argN s lim (2 ^ (c % 32 - 24)) y (p + 1) 0 with
       | mk o z =>
        rw [hr] at ha
        cases o with
        | none =>
         simp only at ha ⊢
         rw [ha]
        | some n =>
         simp only at ha ⊢
         obtain ⟨a1, a2, a3, a4⟩ := ha
         rw [a1]
         simp only
         have hn := hs n z hr
         rw [Nat.zero_add] at hn
         have hl := R7.headB_len (c / 32) n (c % 32) (by omega) (by omega) hn
         by_cases hlt : n < Cf.least (c % 32)
         ·rw [if_neg (fun e => hl.1 e hlt), if_pos hlt]; rfl
         ·rw [if_pos (hl.2 hlt), if_neg hlt]
          refine ⟨rfl, by rw [a2, h4], a3, a4, Nat.lt_of_lt_of_le (Nat.lt_succ_self p) (Nat.le_add_right _ _), by omega, Nat.lt_of_lt_of_le hn (Cf.pow256_le _ (by have := Cf.two_pow_le (c % 32) (by omega); omega))⟩
theorem wantN_eq (s : Bytes) (lim : Lim) : ∀ (m : Nat) (x : St) (p : Nat), x.taken = p → p ≤ s.length → (p : Int) ≤ lim.b →
  match R7.wantN s lim m x p with
  | (true, y) => y = { x with taken := p + m } ∧ p + m ≤ s.length ∧ ((p + m : Nat) : Int) ≤ lim.b
  | (false, y) => room s lim p < m ∧ want s lim (p + room s lim p) = .error (flt y)
 | 0, x, p, ht, hp, hb => ⟨by rw [Nat.add_zero, ← ht], hp, hb⟩
 | m + 1, x, p, ht, hp, hb => by
  unfold R7.wantN
  cases hw : R7.want s lim x p with
  | mk b y =>
   cases b
   ·have hr0 : room s lim p = 0 := by
     unfold room
     unfold R7.want at hw
     by_cases h1 : p < s.length ∧ (p : Int) < lim.b
     ·rw [if_pos h1] at hw; simp at hw
     ·omega
    exact ⟨by omega, by rw [hr0, Nat.add_zero]; exact want_bad hw hp hb⟩
   ·obtain ⟨h1, h2, h3, h4⟩ := want_ok hw ht
    simp only
    have := wantN_eq s lim m y (p + 1) (by rw [h4]) h2 (by omega)
    cases hr : R7.wantN s lim m y (p + 1) with
    | mk o z =>
     rw [hr] at this
     cases o with
     | true =>
      obtain ⟨a, b, c⟩ := this
      exact ⟨by rw [a, h4, show p + 1 + m = p + (m + 1) by omega], by omega, by omega⟩
     | false =>
      obtain ⟨a, b⟩ := this
      have hrm : room s lim p = room s lim (p + 1) + 1 := by unfold room at *; omega
      exact ⟨by omega, by rw [hrm, show p + (room s lim (p + 1) + 1) = p + 1 + room s lim (p + 1) by omega]; exact b⟩
theorem room_enough {s : Bytes} {lim : Lim} {p n : Nat} (h1 : p + n ≤ s.length) (h2 : ((p + n : Nat) : Int) ≤ lim.b) : ¬ room s lim p < n := by unfold room; omega

/-! Items -/
def Runs (r : Nat → Option (Except Flt Dx)) (e : Nat → Option (Except Flt Dx)) : Prop := ∃ n, ∀ m, r (n + m) = e m
theorem Runs.refl {r : Nat → Option (Except Flt Dx)} : Runs r r := ⟨0, fun m => by rw [Nat.zero_add]⟩
theorem Runs.trans {r e f : Nat → Option (Except Flt Dx)} (h : Runs r e) (k : Runs e f) : Runs r f := by
 obtain ⟨n, h⟩ := h
 obtain ⟨n2, k⟩ := k
 exact ⟨n + n2, fun m => by rw [Nat.add_assoc, h, k]⟩
theorem Runs.step {r e : Nat → Option (Except Flt Dx)} (h : ∀ m, r (m + 1) = e m) : Runs r e := ⟨1, fun m => by rw [Nat.add_comm]; exact h m⟩
theorem Runs.of {r e : Nat → Option (Except Flt Dx)} (h : ∀ m, r m = e m) : Runs r e := ⟨0, fun m => by rw [Nat.zero_add]; exact h m⟩

def ItemD (s : Bytes) (lim : Lim) (x : St) (p : Nat) (st : List Fm) (r : Option Nat × St) : Prop :=
 match r with
 | (some q, y) => Ok s lim y q ∧ x.out.length < y.out.length ∧ Runs (after s lim (beginD s lim ⟨p, st, x.out⟩)) (after s lim (ended s ⟨q, st, y.out⟩ p))
 | (none, y) => Runs (after s lim (beginD s lim ⟨p, st, x.out⟩)) (fun _ => some (.error (flt y)))
def ItemsD (s : Bytes) (lim : Lim) (x : St) (d : Dx) (st : List Fm) (at0 c : Nat) (r : Option Nat × St) : Prop :=
 match r with
 | (some q, y) => Ok s lim y q ∧ x.out.length + c ≤ y.out.length ∧ Runs (fun m => loopN s lim m d) (after s lim (ended s ⟨q, st, y.out⟩ at0))
 | (none, y) => Runs (fun m => loopN s lim m d) (fun _ => some (.error (flt y)))
theorem loop_beg (s : Bytes) (lim : Lim) (x : Dx) (f : Fm) (rest : List Fm) (h : x.stack = f :: rest) (hl : 0 < f.left) : Runs (fun m => loopN s lim m x) (after s lim (beginD s lim x)) := by
 refine Runs.step fun m => ?_
 show loopN s lim (m + 1) x = _
 unfold loopN
 rw [h]
 simp only
 rw [if_pos hl]
 rfl
theorem loop_pop (s : Bytes) (lim : Lim) (x : Dx) (f : Fm) (rest : List Fm) (h : x.stack = f :: rest) (hl : f.left = 0) : Runs (fun m => loopN s lim m x) (after s lim (ended s { x with stack := rest } f.at_)) := by
 refine Runs.step fun m => ?_
 show loopN s lim (m + 1) x = _
 unfold loopN
 rw [h]
 simp only
 rw [if_neg (by omega)]
 rfl

theorem items_eq (s : Bytes) (lim : Lim) (rc : St → Nat → Option Nat × St) (d : Nat) (hrc : ∀ x p st, Ok s lim x p → ((st.length + d : Nat) : Int) = lim.d → ItemD s lim x p st (rc x p)) (f : Fm) (hf : f.kind ≠ 5) (st : List Fm) (hd : ((st.length + 1 + d : Nat) : Int) = lim.d) :
  ∀ (m : Nat) (x : St) (p : Nat), Ok s lim x p → ItemsD s lim x ⟨p, { f with left := m } :: st, x.out⟩ st f.at_ m (R7.itemsN rc m x p) := by
 intro m
 induction m with
 | zero =>
  intro x p h
  exact ⟨h, Nat.le_refl _, loop_pop s lim _ { f with left := 0 } st rfl rfl⟩
 | succ m ih =>
  intro x p h
  have h1 := loop_beg s lim ⟨p, { f with left := m + 1 } :: st, x.out⟩ { f with left := m + 1 } st rfl (Nat.succ_pos m)
  have h2 := hrc x p ({ f with left := m + 1 } :: st) h hd
  unfold R7.itemsN
  cases hr : rc x p with
  | mk o y =>
   rw [hr] at h2
   cases o with
   | none => exact h1.trans h2
   | some q =>
    simp only
    obtain ⟨i1, i2, i4⟩ := h2
    have he : ended s ⟨q, { f with left := m + 1 } :: st, y.out⟩ p = .ok ⟨q, { f with left := m } :: st, y.out⟩ := by
     unfold ended
     simp only
     rw [if_neg (by simp [hf])]
     rfl
    rw [he] at i4
    have h3 := ih y q i1
    cases hr2 : R7.itemsN rc m y q with
    | mk o2 z =>
     rw [hr2] at h3
     cases o2 with
     | none => exact h1.trans (i4.trans h3)
     | some r =>
      obtain ⟨j1, j2, j3⟩ := h3
      exact ⟨j1, by omega, h1.trans (i4.trans j3)⟩
theorem pairs_eq (s : Bytes) (lim : Lim) (rc : St → Nat → Option Nat × St) (d : Nat) (hrc : ∀ x p st, Ok s lim x p → ((st.length + d : Nat) : Int) = lim.d → ItemD s lim x p st (rc x p)) (f : Fm) (hf : f.kind = 5) (st : List Fm) (hd : ((st.length + 1 + d : Nat) : Int) = lim.d) :
  ∀ (m : Nat) (last : Option Bytes) (x : St) (p : Nat), Ok s lim x p → ItemsD s lim x ⟨p, { f with left := 2 * m, key := last.getD [], any := last.isSome } :: st, x.out⟩ st f.at_ m (R7.pairsN s rc m last x p) := by
 intro m
 induction m with
 | zero =>
  intro last x p h
  exact ⟨h, Nat.le_refl _, loop_pop s lim _ { f with left := 2 * 0, key := last.getD [], any := last.isSome } st rfl rfl⟩
 | succ m ih =>
  intro last x p h
  have h1 := loop_beg s lim ⟨p, { f with left := 2 * (m + 1), key := last.getD [], any := last.isSome } :: st, x.out⟩ { f with left := 2 * (m + 1), key := last.getD [], any := last.isSome } st rfl (show 0 < 2 * (m + 1) by omega)
  have h2 := hrc x p ({ f with left := 2 * (m + 1), key := last.getD [], any := last.isSome } :: st) h hd
  unfold R7.pairsN
  cases hr : rc x p with
  | mk o y =>
   rw [hr] at h2
   cases o with
   | none => exact h1.trans h2
   | some q =>
    simp only
    obtain ⟨i1, i2, i4⟩ := h2
    have hany : (last.any fun l => leB ((s.take q).drop p) l) = (last.isSome && leB ((s.take q).drop p) (last.getD [])) := by cases last <;> rfl
    rw [hany]
    have he : ended s ⟨q, { f with left := 2 * (m + 1), key := last.getD [], any := last.isSome } :: st, y.out⟩ p = if (last.isSome && leB ((s.take q).drop p) (last.getD [])) = true then .error (p, 9) else .ok ⟨q, { f with left := 2 * (m + 1) - 1, key := (s.take q).drop p, any := true } :: st, y.out⟩ := by
     unfold ended
     simp only
     rw [if_pos (by simp [hf])]
    rw [he] at i4
    by_cases hb : (last.isSome && leB ((s.take q).drop p) (last.getD [])) = true
    ·rw [if_pos hb]
     rw [if_pos hb] at i4
     exact h1.trans i4
    ·rw [if_neg hb]
     rw [if_neg hb] at i4
     have h3 := loop_beg s lim ⟨q, { f with left := 2 * (m + 1) - 1, key := (s.take q).drop p, any := true } :: st, y.out⟩ { f with left := 2 * (m + 1) - 1, key := (s.take q).drop p, any := true } st rfl (show 0 < 2 * (m + 1) - 1 by omega)
     have h4 := hrc y q ({ f with left := 2 * (m + 1) - 1, key := (s.take q).drop p, any := true } :: st) i1 hd
     cases hr2 : rc y q with
     | mk o2 z =>
      rw [hr2] at h4
      cases o2 with
      | none => exact h1.trans (i4.trans (h3.trans h4))
      | some r =>
       simp only
       obtain ⟨j1, j2, j4⟩ := h4
       have he2 : ended s ⟨r, { f with left := 2 * (m + 1) - 1, key := (s.take q).drop p, any := true } :: st, z.out⟩ q = .ok ⟨r, { f with left := 2 * m, key := (s.take q).drop p, any := true } :: st, z.out⟩ := by
        unfold ended
        simp only
        rw [if_neg (by simp; omega)]
        rw [show 2 * (m + 1) - 1 - 1 = 2 * m by omega]
       rw [he2] at j4
       have h5 := ih (some ((s.take q).drop p)) z r j1
       cases hr3 : R7.pairsN s rc m (some ((s.take q).drop p)) z r with
       | mk o3 z3 =>
        rw [hr3] at h5
        cases o3 with
        | none => exact h1.trans (i4.trans (h3.trans (j4.trans h5)))
        | some t =>
         obtain ⟨k1, k2, k3⟩ := h5
         exact ⟨k1, by omega, h1.trans (i4.trans (h3.trans (j4.trans k3)))⟩
theorem text_eq {s : Bytes} {lim : Lim} {x y : St} {p q k n : Nat} {st : List Fm} (hy : y = { x with taken := q }) (hqs : q ≤ s.length) (hqb : (q : Int) ≤ lim.b) (hh : head s lim x.out.length p = .ok (k, n, q)) (hlt : (x.out.length : Int) < lim.i) (hk : (k == 2 || k == 3) = true) :
  ItemD s lim x p st (R7.textN s lim k n y p q) := by
 have hb : beginD s lim ⟨p, st, x.out⟩ = (match take s lim q n with
   | .error e => .error e
   | .ok t => if k == 3 && !Lib.validD t then .error (p, 9) else ended s ⟨q + n, st, x.out ++ [⟨k, 0, t⟩]⟩ p) := by
  unfold beginD
  rw [hh]
  simp only
  rw [if_pos hk]
  try rfl
 have hw := wantN_eq s lim n y q (by rw [hy]) hqs hqb
 unfold R7.textN
 cases hr : R7.wantN s lim n y q with
 | mk o z =>
  rw [hr] at hw
  cases o with
  | false =>
   obtain ⟨a, b⟩ := hw
   have ht : take s lim q n = .error (flt z) := by unfold take; rw [if_pos a, b]
   rw [ht] at hb
   refine Runs.of fun m => ?_
   rw [hb]
   rfl
  | true =>
   obtain ⟨a, b, c⟩ := hw
   have ht : take s lim q n = .ok ((s.take (q + n)).drop q) := by unfold take; rw [if_neg (room_enough b c)]
   rw [ht] at hb
   simp only at hb ⊢
   have hzo : z.out = x.out := by rw [a, hy]
   by_cases hv : (k == 3 && !Lib.validD ((s.take (q + n)).drop q)) = true
   ·rw [if_pos hv] at hb ⊢
    refine Runs.of fun m => ?_
    rw [hb]
    rfl
   ·rw [if_neg hv] at hb ⊢
    refine ⟨⟨b, c, by rw [a, hy], by simp [hzo]; omega⟩, by simp [hzo], Runs.of fun m => ?_⟩
    rw [hb, hzo]
theorem push_ok {lim : Lim} {x : St} {p q k n left : Nat} {st : List Fm} (h : ¬ (st.length : Int) = lim.d) : push lim ⟨p, st, x.out⟩ p k n q left = .ok ⟨q, ⟨k, p, left, [], false⟩ :: st, x.out ++ [⟨k, n, []⟩]⟩ := by
 unfold push
 rw [if_neg h]

theorem item_eq (s : Bytes) (lim : Lim) (hm : lim.may = true) : ∀ (d : Nat) (x : St) (p : Nat) (st : List Fm), Ok s lim x p → ((st.length + d : Nat) : Int) = lim.d → ItemD s lim x p st (R7.item s lim d x p) := by
 have hmay := Cf.may_of hm
 intro d
 induction d with
 | zero =>
  intro x p st h hd
  have hh := head_eq h
  unfold R7.item
  cases hr : R7.head s lim x p with
  | mk o y =>
   rw [hr] at hh
   cases o with
   | none =>
    refine Runs.of fun m => ?_
    unfold beginD
    rw [hh]
    rfl
   | some t =>
    obtain ⟨k, n, q⟩ := t
    simp only at hh ⊢
    obtain ⟨h1, h2, h3, h4, h5, h6, h7⟩ := hh
    have hlt : (x.out.length : Int) < lim.i := by
     have := h.out
     unfold head at h1
     cases hw : want s lim p with
     | error e => rw [hw] at h1; simp at h1
     | ok c =>
      rw [hw] at h1
      simp only at h1
      by_cases e : (x.out.length : Int) = lim.i
      ·rw [if_pos e] at h1; simp at h1
      ·omega
    by_cases h23 : (k == 2 || k == 3) = true
    ·rw [if_pos h23]; exact text_eq h2 h3 h4 h1 hlt h23
    ·rw [if_neg h23]
     by_cases h456 : (k == 4 || k == 5 || k == 6) = true
     ·rw [if_pos h456]
      refine Runs.of fun m => ?_
      have hfull : ∀ l, push lim ⟨p, st, x.out⟩ p k n q l = .error (p, 10) := fun l => by unfold push; rw [if_pos (show (st.length : Int) = lim.d by omega)]
      have hbe : beginD s lim ⟨p, st, x.out⟩ = .error (p, 10) := by
       unfold beginD
       rw [h1]
       simp only
       rw [if_neg h23]
       simp only [Bool.or_eq_true, beq_iff_eq] at h456
       rcases h456 with (rfl | rfl) | rfl
       ·rw [if_pos (by simp), hfull]
       ·rw [if_neg (by simp), if_pos (by simp), hfull]
       ·rw [if_neg (by simp), if_neg (by simp), if_pos (by simp), hfull]
      rw [hbe]
      rfl
     ·rw [if_neg h456]
      have hyo : y.out = x.out := by rw [h2]
      refine ⟨⟨h3, h4, by rw [h2], by simp [hyo]; omega⟩, by simp [hyo], Runs.of fun m => ?_⟩
      have hbe : beginD s lim ⟨p, st, x.out⟩ = ended s ⟨q, st, x.out ++ [⟨k, n, []⟩]⟩ p := by
       unfold beginD
       rw [h1]
       simp only
       simp only [Bool.or_eq_true, beq_iff_eq, not_or] at h456
       rw [if_neg h23, if_neg (by simp [h456]), if_neg (by simp [h456]), if_neg (by simp [h456])]
      rw [hbe, hyo]
 | succ d ih =>
  intro x p st h hd
  have hh := head_eq h
  unfold R7.item
  cases hr : R7.head s lim x p with
  | mk o y =>
   rw [hr] at hh
   cases o with
   | none =>
    refine Runs.of fun m => ?_
    unfold beginD
    rw [hh]
    rfl
   | some t =>
    obtain ⟨k, n, q⟩ := t
    simp only at hh ⊢
    obtain ⟨h1, h2, h3, h4, h5, h6, h7⟩ := hh
    have hlt : (x.out.length : Int) < lim.i := by
     have := h.out
     unfold head at h1
     cases hw : want s lim p with
     | error e => rw [hw] at h1; simp at h1
     | ok c =>
      rw [hw] at h1
      simp only at h1
      by_cases e : (x.out.length : Int) = lim.i
      ·rw [if_pos e] at h1; simp at h1
      ·omega
    have hyo : y.out = x.out := by rw [h2]
    by_cases h23 : (k == 2 || k == 3) = true
    ·rw [if_pos h23]; exact text_eq h2 h3 h4 h1 hlt h23
    ·rw [if_neg h23]
     by_cases h456 : (k == 4 || k == 5 || k == 6) = true
     ·rw [if_pos h456]
      have hdd : ¬ (st.length : Int) = lim.d := by omega
      have hd1 : ((st.length + 1 + d : Nat) : Int) = lim.d := by omega
      have hOk : Ok s lim { y with out := y.out ++ [⟨k, n, []⟩], frames := y.frames + 1 } q := ⟨h3, h4, by rw [h2], by simp [hyo]; omega⟩
      have fin : ∀ (left c : Nat) (r : Option Nat × St), beginD s lim ⟨p, st, x.out⟩ = .ok ⟨q, ⟨k, p, left, [], false⟩ :: st, x.out ++ [⟨k, n, []⟩]⟩ →
        ItemsD s lim { y with out := y.out ++ [⟨k, n, []⟩], frames := y.frames + 1 } ⟨q, ⟨k, p, left, [], false⟩ :: st, y.out ++ [⟨k, n, []⟩]⟩ st p c r →
        (if k == 4 then R7.itemsN (R7.item s lim d) n { y with out := y.out ++ [⟨k, n, []⟩], frames := y.frames + 1 } q else if k == 5 then R7.pairsN s (R7.item s lim d) n none { y with out := y.out ++ [⟨k, n, []⟩], frames := y.frames + 1 } q else R7.item s lim d { y with out := y.out ++ [⟨k, n, []⟩], frames := y.frames + 1 } q) = r →
        ItemD s lim x p st (R7.holdN s (R7.item s lim d) k n y q) := by
       intro left c r hb hi hre
       unfold R7.holdN
       simp only [hre]
       rw [hyo] at hi
       have h0 : Runs (after s lim (beginD s lim ⟨p, st, x.out⟩)) (fun m => loopN s lim m ⟨q, ⟨k, p, left, [], false⟩ :: st, x.out ++ [⟨k, n, []⟩]⟩) := Runs.of fun m => by rw [hb]; rfl
       obtain ⟨o, z⟩ := r
       cases o with
       | none => exact h0.trans hi
       | some t =>
        obtain ⟨j1, j2, j3⟩ := hi
        refine ⟨⟨j1.ps, j1.pb, j1.taken, j1.out⟩, ?_, h0.trans j3⟩
        simp only [List.length_append, List.length_singleton] at j2
        show x.out.length < z.out.length
        omega
      simp only [Bool.or_eq_true, beq_iff_eq] at h456
      rcases h456 with (rfl | rfl) | rfl
      ·refine fin n n _ ?_ ?_ (if_pos (by rfl))
       ·unfold beginD; rw [h1]; simp only; rw [if_neg (by simp), if_pos (by simp)]; exact push_ok hdd
       ·exact items_eq s lim (R7.item s lim d) d ih ⟨(4 : Nat), p, n, [], false⟩ (by simp) st hd1 n _ q hOk
      ·have hps := pairs_eq s lim (R7.item s lim d) d ih ⟨(5 : Nat), p, 0, [], false⟩ (by simp) st hd1 (min n 1099511627776) none _ q hOk
       have hsame : R7.pairsN s (R7.item s lim d) n none { y with out := y.out ++ [⟨(5 : Nat), n, []⟩], frames := y.frames + 1 } q = R7.pairsN s (R7.item s lim d) (min n 1099511627776) none { y with out := y.out ++ [⟨(5 : Nat), n, []⟩], frames := y.frames + 1 } q := by
        by_cases hle : n ≤ 1099511627776
        ·rw [Nat.min_eq_left hle]
        ·have hmin : min n 1099511627776 = 1099511627776 := Nat.min_eq_right (by omega)
         rw [hmin] at hps ⊢
         cases hr2 : R7.pairsN s (R7.item s lim d) 1099511627776 none { y with out := y.out ++ [⟨(5 : Nat), n, []⟩], frames := y.frames + 1 } q with
         | mk o z =>
          rw [hr2] at hps
          cases o with
          | none =>
           have := R7.pairsN_more (s := s) (R7.item s lim d) 1099511627776 (n - 1099511627776) none _ q z hr2
           rw [show 1099511627776 + (n - 1099511627776) = n by omega] at this
           exact this
          | some t =>
           obtain ⟨j1, j2, _⟩ := hps
           exfalso
           have := j1.out
           have : z.out.length ≤ 4096 := by have := hmay; omega
           omega
       refine fin (2 * min n 1099511627776) (min n 1099511627776) _ ?_ hps ?_
       ·unfold beginD; rw [h1]; simp only; rw [if_neg (by simp), if_neg (by simp), if_pos (by simp)]; exact push_ok hdd
       ·rw [if_neg (by simp), if_pos (by simp)]; exact hsame
      ·refine fin 1 1 _ ?_ ?_ ((if_neg (by simp)).trans ((if_neg (by simp)).trans (R7.itemsN_one _ _ _).symm))
       ·unfold beginD; rw [h1]; simp only; rw [if_neg (by simp), if_neg (by simp), if_neg (by simp), if_pos (by simp)]; exact push_ok hdd
       ·exact items_eq s lim (R7.item s lim d) d ih ⟨(6 : Nat), p, 1, [], false⟩ (by simp) st hd1 1 _ q hOk
     ·rw [if_neg h456]
      refine ⟨⟨h3, h4, by rw [h2], by simp [hyo]; omega⟩, by simp [hyo], Runs.of fun m => ?_⟩
      have hbe : beginD s lim ⟨p, st, x.out⟩ = ended s ⟨q, st, x.out ++ [⟨k, n, []⟩]⟩ p := by
       unfold beginD
       rw [h1]
       simp only
       simp only [Bool.or_eq_true, beq_iff_eq, not_or] at h456
       rw [if_neg h23, if_neg (by simp [h456]), if_neg (by simp [h456]), if_neg (by simp [h456])]
      rw [hbe, hyo]
/-- What the whole reading comes to: enough rounds are enough. -/
def run (s : Bytes) (lim : Lim) (m : Nat) : Option (Except Flt Dx) := after s lim (beginD s lim ⟨0, [], []⟩) m
theorem run_ref (s : Bytes) (lim : Lim) (hm : lim.may = true) :
  match R7.item s lim lim.d.toNat R7.start 0 with
  | (some q, y) => ∃ m, run s lim m = some (.ok ⟨q, [], y.out⟩)
  | (none, y) => ∃ m, run s lim m = some (.error (flt y)) := by
 have hmay := Cf.may_of hm
 have h := item_eq s lim hm lim.d.toNat R7.start 0 [] ⟨Nat.zero_le _, by omega, rfl, by show ((0 : Nat) : Int) ≤ lim.i; omega⟩ (by show ((0 + lim.d.toNat : Nat) : Int) = lim.d; omega)
 cases hr : R7.item s lim lim.d.toNat R7.start 0 with
 | mk o y =>
  rw [hr] at h
  cases o with
  | none =>
   obtain ⟨n, h⟩ := h
   exact ⟨n, h 0⟩
  | some q =>
   obtain ⟨_, _, n, h⟩ := h
   exact ⟨n + 1, h 1⟩
end Go.Px.D7
