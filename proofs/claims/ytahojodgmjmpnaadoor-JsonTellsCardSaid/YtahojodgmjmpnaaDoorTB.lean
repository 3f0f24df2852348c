/-
  Several texts in one: What the reference's reader of layer 16 keeps, and where it ends (plain). No program is named here. The program's reader of package json as plain functions on plain data. No program is named here. The program's reader of package json against the reference's: blanks, words, escapes, signs, strings, numbers (plain law). No program is named here. The feed of layer 19 against the reference's reader of layer 16 (plain law): values without elements. No program is named here. The feed of layer 19 against the reference's reader of layer 16 (plain law): numbers as values, values without elements, what opens and closes. No program is named here. The feed of layer 19 against the reference's reader of layer 16 (plain law): arrays. No program is named here. The feed of layer 19 against the reference's reader of layer 16 (plain law): objects. No program is named here. The feed of layer 19 tells what the reference's reader of layer 16 tells (plain law). No program is named here.
-/
import Derived.Test.YtahojodgmjmpnaaDoorTA
import Derived.Test.YtahojodgmjmpnaaDoorR6M
/-! What the reference's reader of layer 16 keeps, and where it ends (plain). No program is named here. -/
namespace Go.Px.R6
variable {s : Bytes} {lim : Lim} {x y z : St} {p q : Nat}

def Kept (x y : St) : Prop := y.out = x.out ∧ y.r.frames = x.r.frames
theorem Kept.refl (x : St) : Kept x x := ⟨rfl, rfl⟩
theorem Kept.trans (h : Kept x y) (k : Kept y z) : Kept x z := ⟨k.1.trans h.1, k.2.trans h.2⟩
theorem want_ok (h : want s lim x p = (true, y)) : Kept x y ∧ p < s.length ∧ (p : Int) < lim.b := by
  rcases J6.want_cases s lim x p with ⟨h1, h2, e⟩ | ⟨_, _, e⟩ | ⟨_, _, e⟩
  · rw [e] at h; cases h; exact ⟨⟨rfl, rfl⟩, h1, h2⟩
  · rw [e] at h; cases h
  · rw [e] at h; cases h
theorem passN_ok : ∀ (m : Nat) (x : St) (p : Nat), passN s lim m x p = (some q, y) → Kept x y ∧ p ≤ q ∧ q < s.length
  | 0, _, _, h => by cases h
  | m + 1, x, p, h => by
    unfold passN at h
    obtain ⟨⟨c, z⟩, hres⟩ : ∃ r, want s lim x p = r := ⟨_, rfl⟩
    rw [hres] at h
    cases c with
    | false => cases h
    | true =>
      obtain ⟨k1, k2, _⟩ := want_ok hres
      simp only at h
      split at h
      · obtain ⟨k3, k4, k5⟩ := passN_ok m z (p + 1) h
        exact ⟨k1.trans k3, by omega, k5⟩
      · cases h
        exact ⟨k1, Nat.le_refl _, k2⟩
theorem pass_ok (h : pass s lim x p = (some q, y)) : Kept x y ∧ p ≤ q ∧ q < s.length := passN_ok _ _ _ h
theorem is_ok {c : Nat} (h : is s lim x p c = (true, y)) : Kept x y ∧ p < s.length ∧ (p : Int) < lim.b ∧ at_ s p = c := by
  unfold is at h
  obtain ⟨⟨b, z⟩, hres⟩ : ∃ r, want s lim x p = r := ⟨_, rfl⟩
  rw [hres] at h
  cases b with
  | false => cases h
  | true =>
    obtain ⟨k1, k2, k3⟩ := want_ok hres
    simp only at h
    split at h
    · rename_i hc; cases h; exact ⟨k1, k2, k3, by simpa using hc⟩
    · cases h
theorem wordN_ok : ∀ (l : Bytes) (x : St) (p : Nat), p ≤ s.length → wordN s lim l x p = (some q, y) → Kept x y ∧ p ≤ q ∧ q ≤ s.length
  | [], x, p, hp, h => by cases h; exact ⟨Kept.refl _, Nat.le_refl _, hp⟩
  | c :: l, x, p, hp, h => by
    unfold wordN at h
    obtain ⟨⟨b, z⟩, hres⟩ : ∃ r, is s lim x p c.toNat = r := ⟨_, rfl⟩
    rw [hres] at h
    cases b with
    | false => cases h
    | true =>
      obtain ⟨k1, k2, _⟩ := is_ok hres
      obtain ⟨k3, k4, k5⟩ := wordN_ok l z (p + 1) k2 h
      exact ⟨k1.trans k3, by omega, k5⟩
theorem fourN_ok {r : Nat} : ∀ (m : Nat) (x : St) (p n : Nat), p ≤ s.length → fourN s lim m x p n = (some r, y) → Kept x y ∧ p + m ≤ s.length
  | 0, x, p, n, hp, h => by cases h; exact ⟨Kept.refl _, hp⟩
  | m + 1, x, p, n, hp, h => by
    unfold fourN at h
    obtain ⟨⟨b, z⟩, hres⟩ : ∃ r, want s lim x p = r := ⟨_, rfl⟩
    rw [hres] at h
    cases b with
    | false => cases h
    | true =>
      obtain ⟨k1, k2, _⟩ := want_ok hres
      simp only at h
      split at h
      · cases h
      · obtain ⟨k3, k4⟩ := fourN_ok m z (p + 1) _ k2 h
        exact ⟨k1.trans k3, by omega⟩
theorem second_ok {n : Nat} {b : Bytes} (h : second s lim x p n = (some (b, q), y)) : Kept x y ∧ p ≤ q ∧ q ≤ s.length := by
  unfold second at h
  obtain ⟨⟨c, u⟩, h1⟩ : ∃ r, is s lim x p 92 = r := ⟨_, rfl⟩
  rw [h1] at h
  cases c with
  | false => cases h
  | true =>
    simp only at h
    obtain ⟨⟨c, v⟩, h2⟩ : ∃ r, is s lim u (p + 1) 117 = r := ⟨_, rfl⟩
    rw [h2] at h
    cases c with
    | false => cases h
    | true =>
      simp only at h
      obtain ⟨k1, _⟩ := is_ok h1
      obtain ⟨k2, k3, _⟩ := is_ok h2
      obtain ⟨⟨c, t⟩, h3⟩ : ∃ r, four s lim v (p + 2) = r := ⟨_, rfl⟩
      rw [h3] at h
      cases c with
      | none => cases h
      | some m =>
        obtain ⟨k4, k5⟩ := fourN_ok 4 v (p + 2) 0 k3 h3
        simp only at h
        split at h
        · cases h
        · simp only [Prod.mk.injEq, Option.some.injEq] at h
          obtain ⟨⟨_, rfl⟩, rfl⟩ := h
          exact ⟨(k1.trans k2).trans k4, by omega, by omega⟩
theorem escape_ok {b : Bytes} (h : escape s lim x p = (some (b, q), y)) : Kept x y ∧ p ≤ q ∧ q ≤ s.length := by
  unfold escape at h
  obtain ⟨⟨c, u⟩, h1⟩ : ∃ r, want s lim x p = r := ⟨_, rfl⟩
  rw [h1] at h
  cases c with
  | false => cases h
  | true =>
    obtain ⟨k1, k2, _⟩ := want_ok h1
    simp only at h
    split at h
    · cases h
      exact ⟨k1, by omega, by omega⟩
    · split at h
      · cases h
      · obtain ⟨⟨c, t⟩, h3⟩ : ∃ r, four s lim u (p + 1) = r := ⟨_, rfl⟩
        rw [h3] at h
        cases c with
        | none => cases h
        | some n =>
          obtain ⟨k4, k5⟩ := fourN_ok 4 u (p + 1) 0 k2 h3
          simp only at h
          split at h
          · cases h
          · split at h
            · cases h
              exact ⟨k1.trans k4, by omega, by omega⟩
            · obtain ⟨k6, k7, k8⟩ := second_ok h
              exact ⟨(k1.trans k4).trans k6, by omega, k8⟩
theorem signN_ok {p : Nat} : ∀ (m : Nat) (x : St) (k : Nat), signN s lim p m x k = (some q, y) → Kept x y ∧ k ≤ q ∧ q ≤ s.length
  | 0, _, _, h => by cases h
  | m + 1, x, k, h => by
    unfold signN at h
    obtain ⟨⟨c, z⟩, hres⟩ : ∃ r, want s lim x k = r := ⟨_, rfl⟩
    rw [hres] at h
    cases c with
    | false => cases h
    | true =>
      obtain ⟨k1, k2, _⟩ := want_ok hres
      simp only at h
      split at h
      · cases h
        exact ⟨k1, by omega, k2⟩
      · split at h
        · cases h
        · obtain ⟨k3, k4, k5⟩ := signN_ok m z (k + 1) h
          exact ⟨k1.trans k3, by omega, k5⟩
theorem textN_ok {b : Bytes} : ∀ (m : Nat) (x : St) (p : Nat) (o : Bytes), textN s lim m x p o = (some (b, q), y) → Kept x y ∧ p ≤ q ∧ q ≤ s.length
  | 0, _, _, _, h => by cases h
  | m + 1, x, p, o, h => by
    unfold textN at h
    obtain ⟨⟨c, z⟩, hres⟩ : ∃ r, want s lim x p = r := ⟨_, rfl⟩
    rw [hres] at h
    cases c with
    | false => cases h
    | true =>
      obtain ⟨k1, k2, _⟩ := want_ok hres
      simp only at h
      split at h
      · cases h
        exact ⟨k1, by omega, by omega⟩
      · split at h
        · cases h
        · split at h
          · obtain ⟨⟨c, t⟩, h3⟩ : ∃ r, escape s lim z (p + 1) = r := ⟨_, rfl⟩
            rw [h3] at h
            cases c with
            | none => cases h
            | some v =>
              obtain ⟨b', q'⟩ := v
              obtain ⟨k3, k4, _⟩ := escape_ok h3
              obtain ⟨k5, k6, k7⟩ := textN_ok m t q' _ h
              exact ⟨(k1.trans k3).trans k5, by omega, k7⟩
          · split at h
            · obtain ⟨⟨c, t⟩, h3⟩ : ∃ r, sign s lim z p = r := ⟨_, rfl⟩
              rw [h3] at h
              cases c with
              | none => cases h
              | some q' =>
                obtain ⟨k3, k4, _⟩ := signN_ok _ _ _ h3
                obtain ⟨k5, k6, k7⟩ := textN_ok m t q' _ h
                exact ⟨(k1.trans k3).trans k5, by omega, k7⟩
            · obtain ⟨k5, k6, k7⟩ := textN_ok m z (p + 1) _ h
              exact ⟨k1.trans k5, by omega, k7⟩
theorem text_ok {b : Bytes} (h : text s lim x p = (some (b, q), y)) : Kept x y ∧ p + 1 ≤ q ∧ q ≤ s.length := textN_ok _ _ _ _ h

/-! Lists of values -/
theorem modify_mid (u l : List Val) (a : Val) (g : Val → Val) : (u ++ a :: l).modify u.length g = u ++ g a :: l := by
  induction u with
  | nil => rfl
  | cons b u ih => simp [ih]
theorem setText_mid (u l : List Val) (a : Val) (t : Bytes) : setText (u ++ a :: l) u.length t = u ++ { a with text := t } :: l := modify_mid u l a _
/-- What a right value leaves. -/
structure Snd (s : Bytes) (x : St) (p q : Nat) (y : St) : Prop where
  le : p ≤ q
  ps : q ≤ s.length
  frames : y.r.frames = x.r.frames
  out : ∃ l, y.out = x.out ++ l
theorem Snd.trans {p q r : Nat} (h : Snd s x p q y) (k : Snd s y q r z) : Snd s x p r z := ⟨Nat.le_trans h.le k.le, k.ps, k.frames.trans h.frames, by
  obtain ⟨l, e⟩ := h.out
  obtain ⟨m, e2⟩ := k.out
  exact ⟨l ++ m, by rw [e2, e, List.append_assoc]⟩⟩
theorem Kept.snd (h : Kept x y) {q : Nat} (h1 : p ≤ q) (h2 : q ≤ s.length) : Snd s x p q y := ⟨h1, h2, h.2, [], by rw [h.1, List.append_nil]⟩
/-- The same behind the first value of a row. -/
structure Mid (s : Bytes) (x : St) (u : List Val) (p q : Nat) (y : St) : Prop where
  le : p ≤ q
  ps : q ≤ s.length
  frames : y.r.frames = x.r.frames
  out : ∃ a l, y.out = u ++ a :: l
theorem numN_len : ∀ (q : Nat) (l : Bytes), (numN q l).1 ≤ l.length
  | _, [] => Nat.le_refl _
  | q, c :: l => by
    unfold numN
    split
    · exact Nat.zero_le _
    · rename_i k _
      have := numN_len k l
      simp only [List.length_cons]
      omega
theorem number_le {e : Nat} (hpe : p ≤ e) (hes : e ≤ s.length) : p + (number ((s.take e).drop p)).1 ≤ e := by
  have := numN_len 0 ((s.take e).drop p)
  rw [List.length_drop, List.length_take, Nat.min_eq_left hes] at this
  unfold number
  omega
theorem numVal_ok {u : List Val} {a : Val} (hx : x.out = u ++ [a]) (h1 : p < s.length) (h2 : (p : Int) < lim.b) (h : numVal s lim x p u.length = (some q, y)) : Mid s x u p q y := by
  unfold numVal at h
  simp only at h
  have hle := number_le (s := s) (p := p) (e := min s.length lim.b.toNat) (by omega) (Nat.min_le_left _ _)
  split at h
  · cases h
    refine ⟨by omega, by omega, rfl, ?_⟩
    show ∃ a l, setText x.out _ _ = _
    rw [hx, setText_mid]
    exact ⟨_, _, rfl⟩
  · split at h <;> cases h
end Go.Px.R6

/-! The program's reader of package json as plain functions on plain data. No program is named here. -/
namespace Go.Px.D6
open R6 (blank digit hex letter sign8 setText bump)
/-- An object or array that is begun: its number in the list, its names. -/
structure Fm where
  no : Nat
  names : List Bytes
structure Dx where
  at_ : Nat
  stack : List Fm
  out : List Val
abbrev Flt := Int × Int
def want (s : Bytes) (lim : Lim) (p : Nat) : Except Flt Nat :=
  if s.length ≤ p then .error (s.length, 9) else if lim.b ≤ p then .error (lim.b, 10) else .ok (R6.at_ s p)
/-- The byte at a place, if it may be read; else 0. -/
def peek (s : Bytes) (lim : Lim) (p : Nat) : Nat := if s.length ≤ p ∨ lim.b ≤ p then 0 else R6.at_ s p
def passN (s : Bytes) (lim : Lim) : Nat → Nat → Except Flt Nat
  | 0, _ => .error (0, 0)
  | m + 1, p => match want s lim p with
    | .error e => .error e
    | .ok c => if blank c then passN s lim m (p + 1) else .ok p
/-- Over blanks: where they end. -/
def pass (s : Bytes) (lim : Lim) (p : Nat) : Except Flt Nat := passN s lim (s.length + 1 - p) p
def must (s : Bytes) (lim : Lim) (p c : Nat) : Except Flt Nat := match want s lim p with
  | .error e => .error e
  | .ok z => if z == c then .ok (p + 1) else .error (p, 9)
def wordN (s : Bytes) (lim : Lim) : Bytes → Nat → Except Flt Nat
  | [], p => .ok p
  | c :: r, p => match must s lim p c.toNat with
    | .error e => .error e
    | .ok q => wordN s lim r q
def digN (s : Bytes) (lim : Lim) : Nat → Nat → Nat
  | 0, p => p
  | m + 1, p => if digit (peek s lim p) then digN s lim m (p + 1) else p
/-- Digits, one at least. -/
def digits (s : Bytes) (lim : Lim) (p : Nat) : Except Flt Nat :=
  if digit (peek s lim p) then .ok (digN s lim (s.length + 1 - p) p)
  else match want s lim p with
    | .error e => .error e
    | .ok _ => .error (p, 9)
def numA (s : Bytes) (lim : Lim) (p : Nat) : Except Flt Nat :=
  let q := if peek s lim p == 45 then p + 1 else p
  if peek s lim q == 48 then .ok (q + 1) else digits s lim q
def numB (s : Bytes) (lim : Lim) (p : Nat) : Except Flt Nat := if peek s lim p == 46 then digits s lim (p + 1) else .ok p
def numC (s : Bytes) (lim : Lim) (p : Nat) : Except Flt Nat :=
  if peek s lim p == 101 || peek s lim p == 69 then digits s lim (if peek s lim (p + 1) == 43 || peek s lim (p + 1) == 45 then p + 2 else p + 1) else .ok p
/-- The place behind a number. -/
def number (s : Bytes) (lim : Lim) (p : Nat) : Except Flt Nat := match numA s lim p with
  | .error e => .error e
  | .ok q => match numB s lim q with
    | .error e => .error e
    | .ok q => numC s lim q
def fourN (s : Bytes) (lim : Lim) : Nat → Nat → Nat → Except Flt Nat
  | 0, _, n => .ok n
  | m + 1, p, n => match want s lim p with
    | .error e => .error e
    | .ok c => match hex c with
      | none => .error (p, 9)
      | some h => fourN s lim m (p + 1) (16 * n + h)
def four (s : Bytes) (lim : Lim) (p : Nat) : Except Flt Nat := fourN s lim 4 p 0
/-- The second half of a sign, behind the first. -/
def second (s : Bytes) (lim : Lim) (p n : Nat) : Except Flt (Bytes × Nat) := match must s lim p 92 with
  | .error e => .error e
  | .ok q => match must s lim q 117 with
    | .error e => .error e
    | .ok q => match four s lim q with
      | .error e => .error e
      | .ok m => if decide (m < 56320) || decide (57344 ≤ m) then .error ((p + 5 : Nat), 9) else .ok (sign8 (65536 + (n - 55296) * 1024 + m - 56320), p + 6)
/-- Behind a backslash. -/
def escape (s : Bytes) (lim : Lim) (p : Nat) : Except Flt (Bytes × Nat) := match want s lim p with
  | .error e => .error e
  | .ok c => match letter c with
    | some b => .ok ([b], p + 1)
    | none => if c == 117 then
        (match four s lim (p + 1) with
         | .error e => .error e
         | .ok n => if decide (56320 ≤ n) && decide (n < 57344) then .error ((p + 4 : Nat), 9)
           else if decide (55296 ≤ n) && decide (n < 56320) then second s lim (p + 5) n
           else .ok (sign8 n, p + 5))
      else .error (p, 9)
def signN (s : Bytes) (lim : Lim) : Nat → Nat → Nat → Nat → Except Flt Nat
  | 0, p, _, _ => .ok p
  | m + 1, p, least, most => match want s lim p with
    | .error e => .error e
    | .ok c => if decide (c < least) || decide (most < c) then .error (p, 9) else signN s lim m (p + 1) 128 191
/-- How many bytes more a sign has that begins so. -/
def more (c : Nat) : Nat := if decide (194 ≤ c) && decide (c < 224) then 1 else if decide (224 ≤ c) && decide (c < 240) then 2 else if decide (240 ≤ c) && decide (c < 245) then 3 else 0
def least (c : Nat) : Nat := if c == 224 then 160 else if c == 240 then 144 else 128
def most (c : Nat) : Nat := if c == 237 then 159 else if c == 244 then 143 else 191
/-- The place behind a sign of more than one byte. -/
def sign (s : Bytes) (lim : Lim) (p : Nat) : Except Flt Nat := match want s lim p with
  | .error e => .error e
  | .ok c => if more c == 0 then .error (p, 9) else signN s lim (more c) (p + 1) (least c) (most c)
def textN (s : Bytes) (lim : Lim) : Nat → Nat → Bytes → Except Flt (Bytes × Nat)
  | 0, _, _ => .error (0, 0)
  | m + 1, p, out => match want s lim p with
    | .error e => .error e
    | .ok c =>
      if c == 34 then .ok (out, p + 1)
      else if c < 32 then .error (p, 9)
      else if c == 92 then (match escape s lim (p + 1) with | .error e => .error e | .ok (b, q) => textN s lim m q (out ++ b))
      else if 128 ≤ c then (match sign s lim p with | .error e => .error e | .ok q => textN s lim m q (out ++ (s.take q).drop p))
      else textN s lim m (p + 1) (out ++ [s.getD p 0])
/-- A string, from its first sign. -/
def text (s : Bytes) (lim : Lim) (p : Nat) : Except Flt (Bytes × Nat) := textN s lim (s.length + 1 - p) (p + 1) []
def bumpTop (l : List Val) : List Fm → List Val
  | [] => l
  | f :: _ => bump l f.no 1
/-- A value is counted. -/
def one (lim : Lim) (x : Dx) (v : Val) : Except Flt Dx := if (x.out.length : Int) = lim.i then .error (x.at_, 10) else .ok { x with out := bumpTop x.out x.stack ++ [v] }
/-- next: 0 a value, 1 a value or the end, 2 a name, 3 a name or the end, 4 behind a value, 5 nothing. -/
def over (x : Dx) : Nat := if x.stack.isEmpty then 5 else 4
abbrev Nx := Nat × Dx
def opens (lim : Lim) (x : Dx) (c : Nat) : Except Flt Nx :=
  if (x.out.length : Int) < lim.i ∧ (x.stack.length : Int) = lim.d then .error (x.at_, 10)
  else match one lim x ⟨if c == 91 then 5 else 6, 0, []⟩ with
    | .error e => .error e
    | .ok y => .ok (if c == 91 then 1 else 3, { at_ := x.at_ + 1, stack := ⟨x.out.length, []⟩ :: y.stack, out := y.out })
def strV (s : Bytes) (lim : Lim) (x : Dx) : Except Flt Nx := match one lim x ⟨4, 0, []⟩ with
  | .error e => .error e
  | .ok y => match text s lim x.at_ with
    | .error e => .error e
    | .ok (b, q) => .ok (over x, { y with at_ := q, out := setText y.out x.out.length b })
def numV (s : Bytes) (lim : Lim) (x : Dx) : Except Flt Nx := match one lim x ⟨3, 0, []⟩ with
  | .error e => .error e
  | .ok y => match number s lim x.at_ with
    | .error e => .error e
    | .ok q => .ok (over x, { y with at_ := q, out := setText y.out x.out.length ((s.take q).drop x.at_) })
def wordV (s : Bytes) (lim : Lim) (x : Dx) (k : Int) (l : Bytes) : Except Flt Nx := match one lim x ⟨k, 0, []⟩ with
  | .error e => .error e
  | .ok y => match wordN s lim l x.at_ with
    | .error e => .error e
    | .ok q => .ok (over x, { y with at_ := q })
def value (s : Bytes) (lim : Lim) (x : Dx) (c : Nat) : Except Flt Nx :=
  if c == 123 || c == 91 then opens lim x c
  else if c == 34 then strV s lim x
  else if c == 45 || digit c then numV s lim x
  else if c == 116 then wordV s lim x 2 [116, 114, 117, 101]
  else if c == 102 then wordV s lim x 1 [102, 97, 108, 115, 101]
  else if c == 110 then wordV s lim x 0 [110, 117, 108, 108]
  else .error (x.at_, 9)
/-- A name, and the sign behind it. -/
def name (s : Bytes) (lim : Lim) (x : Dx) : Except Flt Nx := match one lim x ⟨4, 0, []⟩ with
  | .error e => .error e
  | .ok y => match text s lim x.at_ with
    | .error e => .error e
    | .ok (b, q) => match x.stack with
      | [] => .error (0, 0)
      | f :: rest => if f.names.contains b then .error (x.at_, 9)
        else match pass s lim q with
          | .error e => .error e
          | .ok q => match must s lim q 58 with
            | .error e => .error e
            | .ok q => .ok (0, { at_ := q, stack := { f with names := f.names ++ [b] } :: rest, out := setText y.out x.out.length b })
def object (x : Dx) : Bool := match x.stack with
  | [] => false
  | f :: _ => (x.out.getD f.no ⟨0, 0, []⟩).kind == 6
def end_ (x : Dx) : Nx := (if x.stack.tail.isEmpty then 5 else 4, { at_ := x.at_ + 1, stack := x.stack.tail, out := x.out })
def step (s : Bytes) (lim : Lim) (n : Nat) (x : Dx) (c : Nat) : Except Flt Nx :=
  if (n == 1 && c == 93) || (n == 3 && c == 125) || (n == 4 && ((c == 125 && object x) || (c == 93 && !object x))) then .ok (end_ x)
  else if n == 0 || n == 1 then value s lim x c
  else if n == 4 && c == 44 then .ok (if object x then 2 else 0, { x with at_ := x.at_ + 1 })
  else if n != 4 && c == 34 then name s lim x
  else .error (x.at_, 9)
def loopN (s : Bytes) (lim : Lim) : Nat → Nx → Option (Except Flt Dx)
  | 0, _ => none
  | m + 1, (n, x) => if n == 5 then some (.ok x)
    else match pass s lim x.at_ with
      | .error e => some (.error e)
      | .ok q => match step s lim n { x with at_ := q } (R6.at_ s q) with
        | .error e => some (.error e)
        | .ok y => loopN s lim m y
/-- Behind the value: blanks alone. -/
def restN (s : Bytes) (lim : Lim) : Nat → Nat → Except Flt Unit
  | 0, _ => .ok ()
  | m + 1, p => if p < s.length then
      (match want s lim p with
       | .error e => .error e
       | .ok c => if blank c then restN s lim m (p + 1) else .error (p, 9))
    else .ok ()
def run (s : Bytes) (lim : Lim) (m : Nat) : Option (Except Flt (List Val)) := match loopN s lim m (0, ⟨0, [], []⟩) with
  | none => none
  | some (.error e) => some (.error e)
  | some (.ok x) => match restN s lim (s.length + 1 - x.at_) x.at_ with
    | .error e => some (.error e)
    | .ok _ => some (.ok x.out)
end Go.Px.D6

/-! The program's reader of package json against the reference's: blanks, words, escapes, signs, strings, numbers (plain law). No program is named here. -/
namespace Go.Px.D6
open R6 (at_ blank digit hex letter numNext numEnd)
variable {s : Bytes} {lim : Lim} {x y : R6.St} {p q : Nat}
/-- What ended a reading. -/
def flt (y : R6.St) : Flt := (y.r.place, y.r.err)
theorem want_no (hp : (p : Int) ≤ lim.b) (h : R6.want s lim x p = (false, y)) : want s lim p = .error (flt y) := by
  have hp2 : ¬ lim.b < p := by omega
  rcases J6.want_cases s lim x p with ⟨_, _, e⟩ | ⟨c1, c2, e⟩ | ⟨c1, c2, e⟩
  · rw [e] at h; cases h
  · rw [e] at h
    cases h
    unfold want
    rw [if_neg (by omega), if_pos (by omega)]
    rfl
  · rw [e] at h
    cases h
    unfold want
    rw [if_pos (by omega)]
    rfl
theorem want_yes (h : R6.want s lim x p = (true, y)) : want s lim p = .ok (at_ s p) ∧ R6.Kept x y ∧ p < s.length ∧ (p : Int) < lim.b := by
  obtain ⟨h1, h2, h3⟩ := R6.want_ok h
  unfold want
  rw [if_neg (by omega), if_neg (by omega)]
  exact ⟨rfl, h1, h2, h3⟩
theorem passN_eq : ∀ (m p : Nat) (x : R6.St), (p : Int) ≤ lim.b → p ≤ s.length → s.length + 1 ≤ m + p → match R6.passN s lim m x p with
    | (none, y) => passN s lim m p = .error (flt y)
    | (some q, _) => passN s lim m p = .ok q ∧ (q : Int) < lim.b ∧ blank (at_ s q) = false := by
  intro m
  induction m with
  | zero => intro p x _ h1 h2; omega
  | succ m ih =>
    intro p x hp hps hm
    unfold R6.passN passN
    cases hw : R6.want s lim x p with
    | mk b y =>
      cases b with
      | false => simp only; rw [want_no hp hw]
      | true =>
        obtain ⟨h1, _, h2, h3⟩ := want_yes hw
        simp only
        rw [h1]
        by_cases hb : blank (at_ s p) = true
        · simp only
          rw [if_pos hb, if_pos hb]
          exact ih (p + 1) y (by omega) (by omega) (by omega)
        · simp only
          rw [if_neg hb, if_neg hb]
          exact ⟨rfl, h3, by simpa using hb⟩
theorem pass_no (hp : (p : Int) ≤ lim.b) (hps : p ≤ s.length) (h : R6.pass s lim x p = (none, y)) : pass s lim p = .error (flt y) := by
  have := passN_eq (s := s) (lim := lim) (s.length + 1 - p) p x hp hps (by omega)
  unfold R6.pass at h
  rw [h] at this
  exact this
theorem pass_yes (hp : (p : Int) ≤ lim.b) (hps : p ≤ s.length) (h : R6.pass s lim x p = (some q, y)) : pass s lim p = .ok q ∧ (q : Int) < lim.b ∧ blank (at_ s q) = false ∧ q < s.length ∧ p ≤ q ∧ R6.Kept x y := by
  have := passN_eq (s := s) (lim := lim) (s.length + 1 - p) p x hp hps (by omega)
  have hk := R6.pass_ok h
  unfold R6.pass at h
  rw [h] at this
  exact ⟨this.1, this.2.1, this.2.2, hk.2.2, hk.2.1, hk.1⟩
theorem must_no {c : Nat} (hp : (p : Int) ≤ lim.b) (h : R6.is s lim x p c = (false, y)) : must s lim p c = .error (flt y) := by
  unfold R6.is at h
  unfold must
  cases hw : R6.want s lim x p with
  | mk b z =>
    rw [hw] at h
    cases b with
    | false =>
      cases h
      rw [want_no hp hw]
    | true =>
      rw [(want_yes hw).1]
      simp only at h ⊢
      by_cases hc : (at_ s p == c) = true
      · rw [if_pos hc] at h; cases h
      · rw [if_neg hc] at h ⊢
        cases h
        rfl
theorem must_yes {c : Nat} (h : R6.is s lim x p c = (true, y)) : must s lim p c = .ok (p + 1) ∧ (p : Int) < lim.b ∧ p < s.length ∧ R6.Kept x y := by
  obtain ⟨h1, h2, h3, h4⟩ := R6.is_ok h
  refine ⟨?_, h3, h2, h1⟩
  unfold must want
  rw [if_neg (by omega), if_neg (by omega)]
  simp only
  rw [if_pos (by rw [h4]; simp)]
theorem wordN_eq : ∀ (l : Bytes) (p : Nat) (x : R6.St), (p : Int) ≤ lim.b → match R6.wordN s lim l x p with
    | (none, y) => wordN s lim l p = .error (flt y)
    | (some q, _) => wordN s lim l p = .ok q ∧ (q : Int) ≤ lim.b := by
  intro l
  induction l with
  | nil => intro p x hp; exact ⟨rfl, hp⟩
  | cons c r ih =>
    intro p x hp
    unfold R6.wordN wordN
    cases hw : R6.is s lim x p c.toNat with
    | mk b y =>
      cases b with
      | false => simp only; rw [must_no hp hw]
      | true =>
        obtain ⟨h1, h2, _⟩ := must_yes hw
        simp only
        rw [h1]
        exact ih (p + 1) y (by omega)
theorem fourN_eq : ∀ (m p n : Nat) (x : R6.St), (p : Int) ≤ lim.b → match R6.fourN s lim m x p n with
    | (none, y) => fourN s lim m p n = .error (flt y)
    | (some r, _) => fourN s lim m p n = .ok r ∧ ((p + m : Nat) : Int) ≤ lim.b := by
  intro m
  induction m with
  | zero => intro p n x hp; exact ⟨rfl, by omega⟩
  | succ m ih =>
    intro p n x hp
    unfold R6.fourN fourN
    cases hw : R6.want s lim x p with
    | mk b y =>
      cases b with
      | false => simp only; rw [want_no hp hw]
      | true =>
        obtain ⟨h1, _, h2, h3⟩ := want_yes hw
        simp only
        rw [h1]
        simp only
        cases hex (at_ s p) with
        | none => rfl
        | some h =>
          simp only
          have := ih (p + 1) (16 * n + h) y (by omega)
          rw [show p + (m + 1) = p + 1 + m by omega]
          exact this
theorem four_no (hp : (p : Int) ≤ lim.b) (h : R6.four s lim x p = (none, y)) : four s lim p = .error (flt y) := by
  have := fourN_eq (s := s) (lim := lim) 4 p 0 x hp
  unfold R6.four at h
  rw [h] at this
  exact this
theorem four_yes {r : Nat} (hp : (p : Int) ≤ lim.b) (h : R6.four s lim x p = (some r, y)) : four s lim p = .ok r ∧ ((p + 4 : Nat) : Int) ≤ lim.b := by
  have := fourN_eq (s := s) (lim := lim) 4 p 0 x hp
  unfold R6.four at h
  rw [h] at this
  exact this
theorem second_eq {n : Nat} (hp : (p : Int) ≤ lim.b) : match R6.second s lim x p n with
    | (none, y) => second s lim p n = .error (flt y)
    | (some (b, q), _) => second s lim p n = .ok (b, q) ∧ (q : Int) ≤ lim.b := by
  unfold R6.second second
  cases hw : R6.is s lim x p 92 with
  | mk o u =>
    cases o with
    | false => simp only; rw [must_no hp hw]
    | true =>
      obtain ⟨h1, h2, _⟩ := must_yes hw
      simp only
      rw [h1]
      simp only
      cases hw2 : R6.is s lim u (p + 1) 117 with
      | mk o v =>
        cases o with
        | false => simp only; rw [must_no (by omega) hw2]
        | true =>
          obtain ⟨h3, h4, _⟩ := must_yes hw2
          simp only
          rw [h3]
          simp only
          rw [show p + 1 + 1 = p + 2 by omega]
          cases hw3 : R6.four s lim v (p + 2) with
          | mk o z =>
            cases o with
            | none => simp only; rw [four_no (by omega) hw3]
            | some m =>
              obtain ⟨h5, h6⟩ := four_yes (by omega) hw3
              simp only
              rw [h5]
              simp only
              have hd : decide (57343 < m) = decide (57344 ≤ m) := decide_eq_decide.2 (by omega)
              rw [hd]
              by_cases c1 : (decide (m < 56320) || decide (57344 ≤ m)) = true
              · rw [if_pos c1, if_pos c1]
                rfl
              · rw [if_neg c1, if_neg c1]
                exact ⟨rfl, by omega⟩
theorem escape_eq (hp : (p : Int) ≤ lim.b) : match R6.escape s lim x p with
    | (none, y) => escape s lim p = .error (flt y)
    | (some (b, q), _) => escape s lim p = .ok (b, q) ∧ (q : Int) ≤ lim.b := by
  unfold R6.escape escape
  cases hw : R6.want s lim x p with
  | mk o y =>
    cases o with
    | false => simp only; rw [want_no hp hw]
    | true =>
      obtain ⟨h1, _, h2, h3⟩ := want_yes hw
      simp only
      rw [h1]
      simp only
      cases letter (at_ s p) with
      | some b => exact ⟨rfl, by omega⟩
      | none =>
        simp only
        by_cases hu : at_ s p = 117
        · rw [if_neg (by simp [hu]), if_pos (by simp [hu])]
          cases hw3 : R6.four s lim y (p + 1) with
          | mk o z =>
            cases o with
            | none => simp only; rw [four_no (by omega) hw3]
            | some n =>
              obtain ⟨h5, h6⟩ := four_yes (by omega) hw3
              simp only
              rw [h5]
              simp only
              have hd : decide (n ≤ 57343) = decide (n < 57344) := decide_eq_decide.2 (by omega)
              rw [hd]
              by_cases c1 : (decide (56320 ≤ n) && decide (n < 57344)) = true
              · rw [if_pos c1, if_pos c1]
                rfl
              · rw [if_neg c1, if_neg c1]
                by_cases c2 : 55296 ≤ n ∧ n < 56320
                · rw [if_neg (by simp; omega), if_pos (by simp; omega)]
                  exact second_eq (by omega)
                · rw [if_pos (by simp; omega), if_neg (by simp; omega)]
                  exact ⟨rfl, by omega⟩
        · rw [if_pos (by simpa using hu), if_neg (by simpa using hu)]
          rfl
theorem sign_loop (hp : 128 ≤ at_ s p) (hn : J6.need (at_ s p) ≠ 0) : ∀ (m k q : Nat) (x : R6.St), s.length + 1 ≤ m + q → q ≤ s.length → (q : Int) ≤ lim.b → p < q → q + k = p + J6.need (at_ s p) + 1 → 0 < k → J6.Right s p q →
    match R6.signN s lim p m x q with
    | (none, y) => signN s lim k q (if q = p + 1 then J6.lo (at_ s p) else 128) (if q = p + 1 then J6.hi (at_ s p) else 191) = .error (flt y)
    | (some r, _) => signN s lim k q (if q = p + 1 then J6.lo (at_ s p) else 128) (if q = p + 1 then J6.hi (at_ s p) else 191) = .ok r ∧ (r : Int) ≤ lim.b := by
  intro m
  induction m with
  | zero => intro k q x h1 h2; omega
  | succ m ih =>
    intro k q x hm hqs hqb hpq hk hk0 hr
    obtain ⟨k, rfl⟩ : ∃ j, k = j + 1 := ⟨k - 1, by omega⟩
    unfold R6.signN signN
    cases hw : R6.want s lim x q with
    | mk b y =>
      cases b with
      | false => simp only; rw [want_no hqb hw]
      | true =>
        obtain ⟨h1, _, h2, h3⟩ := want_yes hw
        obtain ⟨k1, k2⟩ := J6.sign_step hp hn hr hpq (by omega) h2
        simp only
        rw [k1, k2, h1]
        simp only
        have hin : (decide (at_ s q < (if q = p + 1 then J6.lo (at_ s p) else 128)) || decide ((if q = p + 1 then J6.hi (at_ s p) else 191) < at_ s q)) = !J6.rightB s p q := by
          unfold J6.rightB J6.snd J6.go
          by_cases e : q = p + 1
          · rw [if_pos e, if_pos e, if_pos e, Bool.eq_iff_iff]
            simp
          · rw [if_neg e, if_neg e, if_neg e, Bool.eq_iff_iff]
            simp
        rw [hin]
        cases hb : J6.rightB s p q with
        | false =>
          rw [Bool.false_and, if_neg (by decide), if_pos (by decide), if_pos (by decide)]
          rfl
        | true =>
          rw [Bool.true_and, if_neg (show ¬ (!true) = true by decide)]
          by_cases he : q = p + J6.need (at_ s p)
          · rw [if_pos (by simpa using he)]
            obtain rfl : k = 0 := by omega
            exact ⟨rfl, by omega⟩
          · rw [if_neg (by simpa using he), if_neg (by decide)]
            have hn3 := J6.need_le (at_ s p)
            have := ih k (q + 1) y (by omega) (by omega) (by omega) (by omega) (by omega) (by omega) (hr.succ hpq (by omega) hb)
            rw [if_neg (by omega), if_neg (by omega)] at this
            exact this
theorem sign_eq (hc : 128 ≤ at_ s p) (hp : (p : Int) < lim.b) (hps : p < s.length) : match R6.sign s lim x p with
    | (none, y) => sign s lim p = .error (flt y)
    | (some q, _) => sign s lim p = .ok q ∧ (q : Int) ≤ lim.b := by
  unfold R6.sign sign
  obtain ⟨m, hm⟩ : ∃ m, s.length + 1 - p = m + 1 := ⟨s.length - p, by omega⟩
  rw [hm]
  unfold R6.signN
  cases hw : R6.want s lim x p with
  | mk b y =>
    cases b with
    | false => simp only; rw [want_no (by omega) hw]
    | true =>
      obtain ⟨h1, _, h2, h3⟩ := want_yes hw
      simp only
      rw [h1]
      simp only
      rw [show more (at_ s p) = J6.need (at_ s p) from rfl]
      have hb : (s.take (p + 1)).drop p = [s.getD p 0] := by rw [J6.part_snoc (Nat.le_refl p) h2, E5.drop_take_self, List.nil_append]
      have hb0 : at_ [s.getD p 0] 0 = at_ s p := rfl
      rw [hb, J6.utf_need _ (by simp) (by rw [hb0]; exact hc), J6.begins_need _ (by simp) (by simp) (by rw [hb0]; exact hc), hb0]
      by_cases hn : J6.need (at_ s p) = 0
      · rw [hn]
        rw [if_neg (show ¬ ((if ((0 : Nat) == 0) = true then 0 else _) == [s.getD p 0].length) = true from fun w => Bool.noConfusion w), if_pos (show (!(decide ((0 : Nat) ≠ 0) && _ && _ && _ && _)) = true from rfl), if_pos (by decide)]
        rfl
      · have e1 : ((if (J6.need (at_ s p) == 0) = true then 0 else if (decide (J6.need (at_ s p) + 1 ≤ [s.getD p 0].length) && J6.snd (at_ s p) (at_ [s.getD p 0] 1) && (decide (J6.need (at_ s p) < 2) || J6.go (at_ [s.getD p 0] 2)) && (decide (J6.need (at_ s p) < 3) || J6.go (at_ [s.getD p 0] 3))) = true then J6.need (at_ s p) + 1 else 0) == [s.getD p 0].length) = false := by
          rw [if_neg (by simpa using hn), if_neg]
          · rfl
          · have : decide (J6.need (at_ s p) + 1 ≤ [s.getD p 0].length) = false := by simp; omega
            rw [this]
            simp
        rw [e1, if_neg (by decide)]
        have e2 : (decide (J6.need (at_ s p) ≠ 0) && decide ([s.getD p 0].length ≤ J6.need (at_ s p) + 1) && (decide ([s.getD p 0].length < 2) || J6.snd (at_ s p) (at_ [s.getD p 0] 1)) && (decide ([s.getD p 0].length < 3) || J6.go (at_ [s.getD p 0] 2)) && (decide ([s.getD p 0].length < 4) || J6.go (at_ [s.getD p 0] 3))) = true := by
          have : decide (J6.need (at_ s p) ≠ 0) = true := by simpa using hn
          rw [this]
          simp
        rw [e2, Bool.not_true, if_neg (by decide), if_neg (by simpa using hn)]
        have k := sign_loop (s := s) (lim := lim) hc hn m (J6.need (at_ s p)) (p + 1) y (by omega) (by omega) (by omega) (by omega) (by omega) (by omega) ⟨fun w => by omega, fun w => by omega, fun w => by omega⟩
        rw [if_pos rfl, if_pos rfl] at k
        exact k
theorem sign_gt {r : Nat} : ∀ (m : Nat) (x : R6.St) (q : Nat), R6.signN s lim p m x q = (some r, y) → q < r
  | 0, _, _, h => by cases h
  | m + 1, x, q, h => by
    unfold R6.signN at h
    cases hw : R6.want s lim x q with
    | mk c z =>
      rw [hw] at h
      cases c with
      | false => cases h
      | true =>
        simp only at h
        split at h
        · cases h
          omega
        · split at h
          · cases h
          · have := sign_gt m z (q + 1) h
            omega
theorem textN_eq : ∀ (m p : Nat) (x : R6.St) (out : Bytes), (p : Int) ≤ lim.b → p ≤ s.length → s.length + 1 ≤ m + p → match R6.textN s lim m x p out with
    | (none, y) => textN s lim m p out = .error (flt y)
    | (some (b, q), _) => textN s lim m p out = .ok (b, q) ∧ (q : Int) ≤ lim.b := by
  intro m
  induction m with
  | zero => intro p x out _ h1 h2; omega
  | succ m ih =>
    intro p x out hp hps hm
    unfold R6.textN textN
    cases hw : R6.want s lim x p with
    | mk b y =>
      cases b with
      | false => simp only; rw [want_no hp hw]
      | true =>
        obtain ⟨h1, _, h2, h3⟩ := want_yes hw
        simp only
        rw [h1]
        simp only
        by_cases c1 : (at_ s p == 34) = true
        · rw [if_pos c1, if_pos c1]
          exact ⟨rfl, by omega⟩
        rw [if_neg c1, if_neg c1]
        by_cases c2 : at_ s p < 32
        · rw [if_pos c2, if_pos c2]
          rfl
        rw [if_neg c2, if_neg c2]
        by_cases c3 : (at_ s p == 92) = true
        · rw [if_pos c3, if_pos c3]
          have k := escape_eq (s := s) (lim := lim) (x := y) (p := p + 1) (by omega)
          cases he : R6.escape s lim y (p + 1) with
          | mk o z =>
            rw [he] at k
            cases o with
            | none => simp only at k ⊢; rw [k]
            | some v =>
              obtain ⟨b, q⟩ := v
              have hk := R6.escape_ok he
              simp only at k ⊢
              rw [k.1]
              exact ih q z (out ++ b) k.2 hk.2.2 (by omega)
        rw [if_neg c3, if_neg c3]
        by_cases c4 : 128 ≤ at_ s p
        · rw [if_pos c4, if_pos c4]
          have k := sign_eq (s := s) (lim := lim) (x := y) (p := p) c4 h3 h2
          cases he : R6.sign s lim y p with
          | mk o z =>
            rw [he] at k
            cases o with
            | none => simp only at k ⊢; rw [k]
            | some q =>
              have hk := R6.signN_ok _ _ _ he
              have hg := sign_gt _ _ _ he
              simp only at k ⊢
              rw [k.1]
              exact ih q z _ k.2 hk.2.2 (by omega)
        · rw [if_neg c4, if_neg c4]
          exact ih (p + 1) y _ (by omega) (by omega) (by omega)
theorem text_no (hp : (p : Int) < lim.b) (hps : p < s.length) (h : R6.text s lim x p = (none, y)) : text s lim p = .error (flt y) := by
  have := textN_eq (s := s) (lim := lim) (s.length + 1 - p) (p + 1) x [] (by omega) (by omega) (by omega)
  unfold R6.text at h
  rw [h] at this
  exact this
theorem text_yes {b : Bytes} (hp : (p : Int) < lim.b) (hps : p < s.length) (h : R6.text s lim x p = (some (b, q), y)) : text s lim p = .ok (b, q) ∧ (q : Int) ≤ lim.b ∧ q ≤ s.length ∧ p + 1 ≤ q ∧ R6.Kept x y := by
  have := textN_eq (s := s) (lim := lim) (s.length + 1 - p) (p + 1) x [] (by omega) (by omega) (by omega)
  have hk := R6.text_ok h
  unfold R6.text at h
  rw [h] at this
  exact ⟨this.1, this.2, hk.2.2, hk.2.1, hk.1⟩
/-! Numbers -/
theorem next_zero (q : Nat) : numNext q 0 = none := by
  unfold numNext
  simp [digit]
theorem peek_in (h : p < s.length) (h2 : (p : Int) < lim.b) : peek s lim p = at_ s p := by
  unfold peek
  rw [if_neg (by omega)]
theorem peek_out (h : ¬ (p < s.length ∧ (p : Int) < lim.b)) : peek s lim p = 0 := by
  unfold peek
  rw [if_pos (by omega)]
/-- What becomes of a number whose text stands at a place in some state. -/
def fin (s : Bytes) (lim : Lim) (q p : Nat) : Except Flt Nat :=
  if (R6.numN q ((s.take (J6.upTo s lim)).drop p)).2 then .ok (p + (R6.numN q ((s.take (J6.upTo s lim)).drop p)).1)
  else match want s lim (p + (R6.numN q ((s.take (J6.upTo s lim)).drop p)).1) with
    | .error e => .error e
    | .ok _ => .error ((p + (R6.numN q ((s.take (J6.upTo s lim)).drop p)).1 : Nat), 9)
def stop (s : Bytes) (lim : Lim) (q p : Nat) : Except Flt Nat :=
  if numEnd q then .ok p
  else match want s lim p with
    | .error e => .error e
    | .ok _ => .error ((p : Nat), 9)
theorem fin_go {k : Nat} (h : numNext q (peek s lim p) = some k) : fin s lim q p = fin s lim k (p + 1) := by
  by_cases h1 : p < s.length ∧ (p : Int) < lim.b
  · rw [peek_in h1.1 h1.2] at h
    have e0 : (s.take (J6.upTo s lim)).drop p = s.getD p 0 :: (s.take (J6.upTo s lim)).drop (p + 1) := E5.drop_take_cons h1.1 (by unfold J6.upTo; omega)
    have e1 : R6.numN q ((s.take (J6.upTo s lim)).drop p) = ((R6.numN k ((s.take (J6.upTo s lim)).drop (p + 1))).1 + 1, (R6.numN k ((s.take (J6.upTo s lim)).drop (p + 1))).2) := by
      rw [e0]
      show (match numNext q (at_ s p) with | none => _ | some k => _) = _
      rw [h]
    unfold fin
    rw [e1]
    simp only
    rw [show p + ((R6.numN k ((s.take (J6.upTo s lim)).drop (p + 1))).1 + 1) = p + 1 + (R6.numN k ((s.take (J6.upTo s lim)).drop (p + 1))).1 by omega]
  · rw [peek_out h1, next_zero] at h
    cases h
theorem fin_stop (h : numNext q (peek s lim p) = none) : fin s lim q p = stop s lim q p := by
  have e1 : R6.numN q ((s.take (J6.upTo s lim)).drop p) = (0, numEnd q) := by
    by_cases h1 : p < s.length ∧ (p : Int) < lim.b
    · rw [peek_in h1.1 h1.2] at h
      have e0 : (s.take (J6.upTo s lim)).drop p = s.getD p 0 :: (s.take (J6.upTo s lim)).drop (p + 1) := E5.drop_take_cons h1.1 (by unfold J6.upTo; omega)
      rw [e0]
      show (match numNext q (at_ s p) with | none => _ | some k => _) = _
      rw [h]
    · have e0 : (s.take (J6.upTo s lim)).drop p = [] := List.drop_eq_nil_of_le (by rw [List.length_take]; unfold J6.upTo; omega)
      rw [e0]
      rfl
  unfold fin
  rw [e1]
  rfl
theorem dig_loop (h : ∀ c, digit c = true → numNext q c = some q) : ∀ (m p : Nat), s.length + 1 ≤ m + p → fin s lim q p = fin s lim q (digN s lim m p) ∧ digit (peek s lim (digN s lim m p)) = false := by
  intro m
  induction m with
  | zero =>
    intro p hm
    refine ⟨rfl, ?_⟩
    show digit (peek s lim p) = false
    rw [peek_out (by omega)]
    rfl
  | succ m ih =>
    intro p hm
    unfold digN
    by_cases hd : digit (peek s lim p) = true
    · rw [if_pos hd, fin_go (h _ hd)]
      exact ih (p + 1) (by omega)
    · rw [if_neg hd]
      exact ⟨rfl, by simpa using hd⟩
theorem digits_fin {k : Nat} (h : ∀ c, digit c = true → numNext k c = some k) (h1 : digit (peek s lim p) = true → numNext q (peek s lim p) = some k) (h0 : digit (peek s lim p) = false → numNext q (peek s lim p) = none) (he : numEnd q = false) :
    match digits s lim p with
    | .error e => fin s lim q p = .error e
    | .ok r => fin s lim q p = fin s lim k r ∧ digit (peek s lim r) = false := by
  unfold digits
  by_cases hd : digit (peek s lim p) = true
  · rw [if_pos hd]
    simp only
    have hpl : p < s.length := by
      by_cases e : p < s.length
      · exact e
      · rw [peek_out (by omega)] at hd; cases hd
    obtain ⟨m, hm⟩ : ∃ m, s.length + 1 - p = m + 1 := ⟨s.length - p, by omega⟩
    have e1 : digN s lim (m + 1) p = digN s lim m (p + 1) := by
      show (if digit (peek s lim p) = true then _ else _) = _
      rw [if_pos hd]
    rw [hm, e1, fin_go (h1 hd)]
    exact dig_loop h m (p + 1) (by omega)
  · rw [if_neg hd, fin_stop (h0 (by simpa using hd))]
    unfold stop
    rw [he, if_neg (by decide)]
    cases want s lim p with
    | error e => rfl
    | ok c => rfl
theorem dig_ne {c : Nat} (h : digit c = true) : 48 ≤ c ∧ c ≤ 57 := by
  unfold R6.digit at h
  simpa using h
theorem next3 (c : Nat) (h : digit c = true) : numNext 3 c = some 3 := by
  have := dig_ne h
  unfold numNext
  simp [h]
theorem next5 (c : Nat) (h : digit c = true) : numNext 5 c = some 5 := by
  have := dig_ne h
  unfold numNext
  rw [if_neg (by simp), if_neg (by simp), if_neg (by simp), if_neg (by simp), if_pos (by simp [h])]
theorem next8 (c : Nat) (h : digit c = true) : numNext 8 c = some 8 := by
  have := dig_ne h
  unfold numNext
  rw [if_neg (by simp), if_neg (by simp), if_neg (by simp), if_neg (by simp), if_neg (by simp), if_neg (by simp), if_neg (by simp), if_pos (by simp [h])]
theorem next01 {c : Nat} (hq : q ≤ 1) (h : digit c = true) (h0 : c ≠ 48) : numNext q c = some 3 := by
  have := dig_ne h
  unfold numNext
  rw [if_neg (by simp; omega), if_neg (by simp; omega), if_pos (by simp [h]; omega)]
theorem next1_no {c : Nat} (h : digit c = false) (h0 : c ≠ 48) : numNext 1 c = none := by
  unfold numNext
  simp [h, h0]
theorem next4 {c : Nat} (h : digit c = true) : numNext 4 c = some 5 := by
  have := dig_ne h
  unfold numNext
  rw [if_neg (by simp), if_neg (by simp), if_neg (by simp), if_neg (by simp), if_pos (by simp [h])]
theorem next4_no {c : Nat} (h : digit c = false) : numNext 4 c = none := by
  unfold numNext
  simp [h]
theorem next67 {c : Nat} (hq : q = 6 ∨ q = 7) (h : digit c = true) : numNext q c = some 8 := by
  have := dig_ne h
  unfold numNext
  rcases hq with e | e <;> subst e
  · rw [if_neg (by simp), if_neg (by simp), if_neg (by simp), if_neg (by simp), if_neg (by simp), if_neg (by simp), if_neg (by simp; omega), if_pos (by simp [h])]
  · rw [if_neg (by simp), if_neg (by simp), if_neg (by simp), if_neg (by simp), if_neg (by simp), if_neg (by simp), if_neg (by simp), if_pos (by simp [h])]
theorem next6_no {c : Nat} (h : digit c = false) (h1 : c ≠ 43) (h2 : c ≠ 45) : numNext 6 c = none := by
  unfold numNext
  simp [h, h1, h2]
theorem next7_no {c : Nat} (h : digit c = false) : numNext 7 c = none := by
  unfold numNext
  simp [h]
theorem next8_no {c : Nat} (h : digit c = false) : numNext 8 c = none := by
  unfold numNext
  simp [h]
theorem next_dot (hq : q = 2 ∨ q = 3) : numNext q 46 = some 4 := by rcases hq with e | e <;> subst e <;> rfl
theorem next_e {c : Nat} (hq : q = 2 ∨ q = 3 ∨ q = 5) (hc : c = 101 ∨ c = 69) : numNext q c = some 6 := by
  rcases hq with e | e | e <;> rcases hc with c | c <;> subst e <;> subst c <;> rfl
theorem next_end {c : Nat} (hq : q = 2 ∨ (q = 3 ∧ digit c = false) ∨ (q = 5 ∧ digit c = false)) (h1 : q = 5 ∨ c ≠ 46) (h2 : c ≠ 101) (h3 : c ≠ 69) : numNext q c = none := by
  unfold numNext
  rcases hq with e | ⟨e, hd⟩ | ⟨e, hd⟩ <;> subst e
  · simp at h1; simp [h1, h2, h3]
  · simp at h1; simp [h1, h2, h3, hd]
  · simp [h2, h3, hd]
theorem numC_fin (hq : q = 2 ∨ (q = 3 ∧ digit (peek s lim p) = false) ∨ (q = 5 ∧ digit (peek s lim p) = false)) (h1 : q = 5 ∨ peek s lim p ≠ 46) : fin s lim q p = numC s lim p := by
  have hq3 : q = 2 ∨ q = 3 ∨ q = 5 := by omega
  have he : numEnd q = true := by rcases hq3 with e | e | e <;> subst e <;> rfl
  unfold numC
  by_cases c1 : peek s lim p = 101 ∨ peek s lim p = 69
  · rw [if_pos (by simpa using c1), fin_go (next_e hq3 c1)]
    by_cases c2 : peek s lim (p + 1) = 43 ∨ peek s lim (p + 1) = 45
    · rw [if_pos (by simpa using c2)]
      have e67 : numNext 6 (peek s lim (p + 1)) = some 7 := by rcases c2 with e | e <;> rw [e] <;> rfl
      rw [fin_go e67]
      have k := digits_fin (s := s) (lim := lim) (p := p + 1 + 1) (q := 7) next8 (fun h => next67 (.inr rfl) h) (fun h => next7_no h) rfl
      rw [show p + 1 + 1 = p + 2 by omega] at k ⊢
      cases hd : digits s lim (p + 2) with
      | error e => rw [hd] at k; exact k
      | ok r =>
        rw [hd] at k
        rw [k.1, fin_stop (next8_no k.2)]
        rfl
    · rw [if_neg (by simpa using c2)]
      have k := digits_fin (s := s) (lim := lim) (p := p + 1) (q := 6) next8 (fun h => next67 (.inl rfl) h) (fun h => next6_no h (fun e => c2 (.inl e)) (fun e => c2 (.inr e))) rfl
      cases hd : digits s lim (p + 1) with
      | error e => rw [hd] at k; exact k
      | ok r =>
        rw [hd] at k
        rw [k.1, fin_stop (next8_no k.2)]
        rfl
  · rw [if_neg (by simpa using c1), fin_stop (next_end hq h1 (fun e => c1 (.inl e)) (fun e => c1 (.inr e)))]
    unfold stop
    rw [if_pos he]
theorem numB_fin (hq : q = 2 ∨ (q = 3 ∧ digit (peek s lim p) = false)) : fin s lim q p = match numB s lim p with
    | .error e => .error e
    | .ok r => numC s lim r := by
  unfold numB
  by_cases c1 : peek s lim p = 46
  · rw [if_pos (by simpa using c1), fin_go (by rw [c1]; exact next_dot (by omega))]
    have k := digits_fin (s := s) (lim := lim) (p := p + 1) (q := 4) next5 (fun h => next4 h) (fun h => next4_no h) rfl
    cases hd : digits s lim (p + 1) with
    | error e => rw [hd] at k; exact k
    | ok r =>
      rw [hd] at k
      rw [k.1]
      exact numC_fin (.inr (.inr ⟨rfl, k.2⟩)) (.inl rfl)
  · rw [if_neg (by simpa using c1)]
    exact numC_fin (by rcases hq with e | e; exact .inl e; exact .inr (.inl e)) (.inr c1)
theorem number_fin (h : peek s lim p = 45 ∨ digit (peek s lim p) = true) : fin s lim 0 p = number s lim p := by
  have key : ∀ (q0 r : Nat), q0 ≤ 1 → (digit (peek s lim r) = false → numNext q0 (peek s lim r) = none) → fin s lim q0 r = match (if peek s lim r == 48 then Except.ok (r + 1) else digits s lim r) with
      | .error e => .error e
      | .ok q => match numB s lim q with
        | .error e => .error e
        | .ok q => numC s lim q := by
    intro q0 r hq0 hno
    by_cases c2 : peek s lim r = 48
    · rw [if_pos (by simpa using c2), fin_go (k := 2) (by rw [c2]; rcases (by omega : q0 = 0 ∨ q0 = 1) with e | e <;> subst e <;> rfl)]
      exact numB_fin (.inl rfl)
    · rw [if_neg (by simpa using c2)]
      have k := digits_fin (s := s) (lim := lim) (p := r) (q := q0) next3 (fun h => next01 hq0 h c2) hno (by rcases (by omega : q0 = 0 ∨ q0 = 1) with e | e <;> subst e <;> rfl)
      cases hd : digits s lim r with
      | error e => rw [hd] at k; exact k
      | ok q =>
        rw [hd] at k
        rw [k.1]
        exact numB_fin (.inr ⟨rfl, k.2⟩)
  unfold number numA
  simp only
  by_cases c1 : peek s lim p = 45
  · rw [show (if (peek s lim p == 45) = true then p + 1 else p) = p + 1 from if_pos (by simpa using c1), fin_go (k := 1) (by rw [c1]; rfl)]
    refine key 1 (p + 1) (Nat.le_refl _) (fun hd => next1_no hd ?_)
    intro e
    rw [e] at hd
    cases hd
  · rw [show (if (peek s lim p == 45) = true then p + 1 else p) = p from if_neg (by simpa using c1)]
    refine key 0 p (by omega) (fun hd => ?_)
    rcases h with e | e
    · exact absurd e c1
    · rw [e] at hd; cases hd
theorem numVal_eq {me : Nat} (hp : (p : Int) < lim.b) (hps : p < s.length) (h : at_ s p = 45 ∨ digit (at_ s p) = true) : match R6.numVal s lim x p me with
    | (none, y) => number s lim p = .error (flt y)
    | (some q, y) => number s lim p = .ok q ∧ (q : Int) ≤ lim.b ∧ y = { R6.take x q with out := R6.setText x.out me ((s.take q).drop p) } := by
  have hn : (p + (R6.numN 0 ((s.take (J6.upTo s lim)).drop p)).1 : Nat) ≤ J6.upTo s lim := R6.number_le (by unfold J6.upTo; omega) (by unfold J6.upTo; omega)
  have hb : J6.upTo s lim ≤ lim.b.toNat := by unfold J6.upTo; omega
  rw [← number_fin (by rw [peek_in hps hp]; exact h)]
  unfold R6.numVal fin
  rw [show min s.length lim.b.toNat = J6.upTo s lim from rfl]
  unfold R6.number
  obtain ⟨n, hN⟩ : ∃ n, (R6.numN 0 ((s.take (J6.upTo s lim)).drop p)).1 = n := ⟨_, rfl⟩
  rw [hN] at hn
  simp only [hN]
  cases he : (R6.numN 0 ((s.take (J6.upTo s lim)).drop p)).2 with
  | true =>
    rw [if_pos rfl, if_pos rfl]
    exact ⟨rfl, by omega, rfl⟩
  | false =>
    rw [if_neg (by decide), if_neg (by decide)]
    cases hw : R6.want s lim (R6.take x (p + n)) (p + n) with
    | mk b z =>
      cases b with
      | false => simp only; rw [want_no (by omega) hw]
      | true => simp only; rw [(want_yes hw).1]; rfl
end Go.Px.D6

/-! The feed of layer 19 against the reference's reader of layer 16 (plain law): values without elements. No program is named here. -/
namespace Go.Px.J6
open R6 (at_ blank numNext numEnd setText setKind bump)
variable {s : Bytes} {lim : Lim} {p : Nat} {f : Feed} {x y : R6.St}
def v0 : Val := ⟨0, 0, []⟩
theorem vbump_len (l : List Val) (i : Nat) (k : Int) : (bump l i k).length = l.length := List.length_modify _ _ _
theorem bump_app : ∀ (l r : List Val) (i : Nat) (k : Int), i < l.length → bump (l ++ r) i k = bump l i k ++ r
  | [], _, _, _, h => by simp at h
  | a :: l, r, 0, k, _ => rfl
  | a :: l, r, i + 1, k, h => by
    have := bump_app l r i k (by simpa using h)
    unfold R6.bump at *
    simp only [List.cons_append, List.modify_succ_cons, this]
theorem bump_comm : ∀ (l : List Val) (i j : Nat) (k m : Int), bump (bump l i k) j m = bump (bump l j m) i k
  | [], _, _, _, _ => by unfold R6.bump; simp
  | a :: l, 0, 0, k, m => by
    unfold R6.bump
    simp only [List.modify_zero_cons]
    congr 2
    omega
  | a :: l, 0, j + 1, _, _ => rfl
  | a :: l, i + 1, 0, _, _ => rfl
  | a :: l, i + 1, j + 1, k, m => by
    have := bump_comm l i j k m
    unfold R6.bump at *
    simp only [List.modify_succ_cons, this]
theorem bump_two : ∀ (l : List Val) (i : Nat), bump (bump l i 1) i 1 = bump l i 2
  | [], _ => by unfold R6.bump; simp
  | a :: l, 0 => by
    unfold R6.bump
    simp only [List.modify_zero_cons]
    congr 2
    omega
  | a :: l, i + 1 => by
    have := bump_two l i
    unfold R6.bump at *
    simp only [List.modify_succ_cons, this]
theorem bump_kind (l : List Val) (i j : Nat) (k : Int) : ((bump l i k).getD j v0).kind = (l.getD j v0).kind := by
  unfold R6.bump
  simp only [List.getD_eq_getElem?_getD, List.getElem?_modify]
  cases l[j]? with
  | none => split <;> rfl
  | some a => split <;> rfl
/-- Kids that are counted by the feed and not by the reader yet. -/
def bl : List Nat → List Val → List Val
  | [], l => l
  | i :: P, l => bump (bl P l) i 1
theorem bl_len (l : List Val) : ∀ P, (bl P l).length = l.length
  | [] => rfl
  | i :: P => by unfold bl; rw [vbump_len, bl_len l P]
theorem bl_app (l r : List Val) : ∀ P : List Nat, (∀ i ∈ P, i < l.length) → bl P (l ++ r) = bl P l ++ r
  | [], _ => rfl
  | i :: P, h => by
    unfold bl
    rw [bl_app l r P (fun k hk => h k (List.mem_cons_of_mem _ hk)), bump_app _ _ _ _ (by rw [bl_len]; exact h i (List.mem_cons_self ..))]
theorem bl_bump (l : List Val) (i : Nat) (k : Int) : ∀ P : List Nat, bl P (bump l i k) = bump (bl P l) i k
  | [] => rfl
  | n :: P => by unfold bl; rw [bl_bump l i k P, bump_comm]
theorem bl_kind (l : List Val) (j : Nat) : ∀ P : List Nat, ((bl P l).getD j v0).kind = (l.getD j v0).kind
  | [] => rfl
  | i :: P => by unfold bl; rw [bump_kind, bl_kind l j P]
def hold (st : List Fm) (P : List Nat) : List Nat := match st with
  | [] => P
  | h :: _ => h.no :: P
theorem setText_last (l : List Val) (a : Val) (t : Bytes) (i : Nat) (hi : i = l.length) : setText (l ++ [a]) i t = l ++ [{ a with text := t }] := by
  subst hi
  unfold R6.setText
  induction l with
  | nil => rfl
  | cons b l ih => simp only [List.cons_append, List.length_cons, List.modify_succ_cons, ih]
theorem setKind_last (l : List Val) (a : Val) (k : Int) : setKind (l ++ [a]) l.length k = l ++ [{ a with kind := k }] := by
  unfold R6.setKind
  induction l with
  | nil => rfl
  | cons b l ih => simp only [List.cons_append, List.length_cons, List.modify_succ_cons, ih]
theorem setText_bl (l : List Val) (a : Val) (t : Bytes) (P : List Nat) (h : ∀ i ∈ P, i < l.length) : setText (bl P (l ++ [a])) ((bl P (l ++ [a])).length - 1) t = bl P (l ++ [{ a with text := t }]) := by
  rw [bl_len, bl_app _ _ _ h, bl_app _ _ _ h]
  exact setText_last _ _ _ _ (by rw [bl_len, List.length_append]; simp)
/-- The list goes on; kinds stay. -/
def Ext (l m : List Val) : Prop := l.length ≤ m.length ∧ ∀ i, i < l.length → (m.getD i v0).kind = (l.getD i v0).kind
theorem Ext.refl (l : List Val) : Ext l l := ⟨Nat.le_refl _, fun _ _ => rfl⟩
theorem Ext.trans {a b c : List Val} (h : Ext a b) (k : Ext b c) : Ext a c := ⟨Nat.le_trans h.1 k.1, fun i hi => (k.2 i (Nat.lt_of_lt_of_le hi h.1)).trans (h.2 i hi)⟩
theorem Ext.snoc (l : List Val) (a : Val) : Ext l (l ++ [a]) := ⟨by simp, fun i hi => by simp only [List.getD_eq_getElem?_getD]; rw [List.getElem?_append_left hi]⟩
theorem Ext.bump (l : List Val) (i : Nat) (k : Int) : Ext l (bump l i k) := ⟨by rw [vbump_len]; exact Nat.le_refl _, fun j _ => bump_kind l i j k⟩
/-- Ahead of a value whose first byte was looked at. -/
structure VIn (s : Bytes) (lim : Lim) (d : Nat) (x : R6.St) (p : Nat) (f : Feed) (P : List Nat) : Prop where
  a : At s lim p f
  r : RAt s lim p x
  tk : x.r.taken = p + 1
  nb : blank (at_ s p) = false
  fr : x.r.frames = f.stack.length
  now : f.now = .none
  nx : f.next = 0 ∨ (f.next = 1 ∧ object f = false ∧ at_ s p ≠ 93)
  out : f.out = bl P x.out
  ix : ∀ i ∈ P, i < x.out.length
  hx : ∀ h, f.stack.head? = some h → h.no < x.out.length
  dep : ((f.stack.length + d : Nat) : Int) = lim.d
  oi : (x.out.length : Int) ≤ lim.i
/-- Behind a value. -/
structure VOut (s : Bytes) (lim : Lim) (x y : R6.St) (p q : Nat) (f : Feed) (P : List Nat) (g : Feed) : Prop where
  lt : p < q
  r : RAt s lim q y
  tk : y.r.taken = q
  fr : y.r.frames = x.r.frames
  ext : Ext x.out y.out
  oi : (y.out.length : Int) ≤ lim.i
  a : At s lim q g
  now : g.now = .none
  st : g.stack = f.stack
  nx : g.next = if f.stack.isEmpty then 6 else 5
  out : g.out = bl (hold f.stack P) y.out
  ob : obs (write f (s.drop p)) = obs (write g (s.drop q))
def VSim (s : Bytes) (lim : Lim) (d : Nat) (rc : R6.St → Nat → Option Nat × R6.St) : Prop := ∀ x p f P, VIn s lim d x p f P →
  match rc x p with
  | (none, y) => obs (write f (s.drop p)) = told y.r
  | (some q, y) => ∃ g, VOut s lim x y p q f P g
theorem peek_want {p : Nat} (hr : RAt s lim p x) (htk : x.r.taken = p + 1) : R6.want s lim x p = (true, x) ∧ p < s.length ∧ (p : Int) < lim.b := by
  obtain ⟨h1, h2⟩ := hr.pk htk
  refine ⟨?_, h1, h2⟩
  rcases want_cases s lim x p with ⟨_, _, e⟩ | ⟨c1, _, _⟩ | ⟨c1, _, _⟩
  · rw [e]
    unfold R5.take
    rw [Nat.max_eq_left (by omega)]
  · exact absurd ⟨h1, h2⟩ c1
  · exact absurd ⟨h1, h2⟩ c1
theorem peek_next {p : Nat} (hr : RAt s lim p x) (htk : x.r.taken = p + 1) : RAt s lim (p + 1) x :=
  ⟨by omega, by omega, fun e => by omega, hr.err, hr.place, hr.ended⟩
theorem write_one (h : At s lim p f) (h1 : p < s.length) (h2 : (p : Int) < lim.b) : write f (s.drop p) = write (takeC f (s.getD p 0)) (s.drop (p + 1)) := by
  have hg : s.getD p 0 = s[p] := by simp [h1]
  rw [hg, List.drop_eq_getElem_cons h1, write_cons, if_pos (by rw [h.err]; rfl)]
  unfold byte
  rw [if_neg (by rw [h.n, h.fl]; simp; omega)]
theorem takeC_none (h : f.now = .none) (c : UInt8) : takeC f c = structure_ { f with n := f.n + 1 } c := by
  unfold takeC
  simp only [h]
/-- A byte that begins a value. -/
theorem vin_write {d : Nat} {P : List Nat} (h : VIn s lim d x p f P) : write f (s.drop p) = write (value { f with n := p + 1 } (s.getD p 0)) (s.drop (p + 1)) := by
  obtain ⟨_, h1, h2⟩ := peek_want h.r h.tk
  rw [write_one h.a h1 h2, takeC_none h.now, h.a.n]
  congr 1
  unfold structure_
  rw [if_neg (by rw [show blank (s.getD p 0).toNat = false from h.nb]; decide)]
  have hob : object ({ f with n := p + 1 } : Feed) = object f := rfl
  simp only [hob]
  rcases h.nx with hn | ⟨hn, ho, hc⟩
  · rw [hn, if_neg (by simp), if_pos (by rfl)]
  · have hne : ¬ (s.getD p 0 == (93 : UInt8)) = true := by
      rw [beq_iff_eq]
      intro e
      exact hc (by unfold R6.at_; rw [e]; rfl)
    rw [hn, ho, if_neg (by
      intro w
      simp only [Bool.false_eq_true, if_false, Bool.and_eq_true] at w
      exact hne w.1), if_pos (by rfl)]
/-- A value is counted. -/
theorem one_ok {d : Nat} {P : List Nat} (h : VIn s lim d x p f P) (v : Val) (hl : ¬ (x.out.length : Int) = lim.i) : one { f with n := p + 1 } v = (true, { f with n := p + 1, out := bl (hold f.stack P) (x.out ++ [v]) }) := by
  have hix : ∀ i ∈ hold f.stack P, i < x.out.length := by
    intro i hi
    unfold hold at hi
    cases hs : f.stack with
    | nil => rw [hs] at hi; exact h.ix i hi
    | cons a r =>
      rw [hs] at hi
      rcases List.mem_cons.1 hi with e | e
      · rw [e]; exact h.hx a (by rw [hs]; rfl)
      · exact h.ix i e
  rw [bl_app _ _ _ hix]
  unfold one
  have hol : f.out.length = x.out.length := by rw [h.out, bl_len]
  rw [if_neg (by
    show ¬ ((f.out.length : Int) == f.lim.i) = true
    rw [hol, h.a.fl]
    simpa using hl)]
  unfold hold
  cases hs : f.stack with
  | nil => simp only [h.out]
  | cons a r => simp only [h.out]; rfl
theorem hold_ix {d : Nat} {P : List Nat} (h : VIn s lim d x p f P) : ∀ i ∈ hold f.stack P, i < x.out.length := by
  intro i hi
  unfold hold at hi
  cases hs : f.stack with
  | nil => rw [hs] at hi; exact h.ix i hi
  | cons a r =>
    rw [hs] at hi
    rcases List.mem_cons.1 hi with e | e
    · rw [e]; exact h.hx a (by rw [hs]; rfl)
    · exact h.ix i e
theorem one_full {d : Nat} {P : List Nat} (h : VIn s lim d x p f P) (v : Val) (hl : (x.out.length : Int) = lim.i) : one { f with n := p + 1 } v = (false, wrong { f with n := p + 1 } (p + 1 - 1 : Nat) 10) := by
  unfold one
  have hol : f.out.length = x.out.length := by rw [h.out, bl_len]
  rw [if_pos (by
    show ((f.out.length : Int) == f.lim.i) = true
    rw [hol, h.a.fl]
    simpa using hl)]
/-- A fault at the byte that was looked at. -/
theorem peek_fault {e : Int} (he : e ≠ 0) (hr : RAt s lim p x) (htk : x.r.taken = p + 1) (hfr : x.r.frames = f.stack.length) (r : Bytes) :
    obs (write (wrong { f with n := p + 1 } (p + 1 - 1 : Nat) e) r) = told (R6.fault x p e).r :=
  fault_sim (e := e) (p := p) (g := { f with n := p + 1 }) he rfl htk hr.ended hfr r
/-- A token begins. -/
theorem begin_tok {d : Nat} {P : List Nat} (h : VIn s lim d x p f P) (v : Val) (t : Tok) (ht : t ≠ .none) (hl : ¬ (x.out.length : Int) = lim.i) (c : Nat) :
    valueOn { f with n := p + 1 } c v t = { f with n := p + 1, out := bl (hold f.stack P) (x.out ++ [v]), now := t } := by
  unfold valueOn
  cases t with
  | none => exact absurd rfl ht
  | word r =>
    simp only
    rw [if_neg (by simp), one_ok h v hl]
    rfl
  | num q b =>
    simp only
    rw [if_neg (by simp), one_ok h v hl]
    rfl
  | str u =>
    simp only
    rw [if_neg (by simp), one_ok h v hl]
    rfl
theorem full_tok {d : Nat} {P : List Nat} (h : VIn s lim d x p f P) (v : Val) (t : Tok) (hl : (x.out.length : Int) = lim.i) (c : Nat) :
    valueOn { f with n := p + 1 } c v t = wrong { f with n := p + 1 } (p + 1 - 1 : Nat) 10 := by
  unfold valueOn
  cases t with
  | none =>
    simp only
    by_cases hc : (true && (f.stack.length : Int) == f.lim.d) = true
    · rw [if_pos hc]
    · rw [if_neg hc, one_full h v hl]
  | word r =>
    simp only
    rw [if_neg (by simp), one_full h v hl]
  | num q b =>
    simp only
    rw [if_neg (by simp), one_full h v hl]
  | str u =>
    simp only
    rw [if_neg (by simp), one_full h v hl]
/-- A value's end: behind the token. -/
theorem vout_tok {d : Nat} {P : List Nat} {q : Nat} {y : R6.St} {t : Tok} {v w : Val} (h : VIn s lim d x p f P) (hl : ¬ (x.out.length : Int) = lim.i) (hlt : p < q) (hr : RAt s lim q y) (htk : y.r.taken = q) (hfr : y.r.frames = x.r.frames) (hout : y.out = x.out ++ [w])
    (ha : At s lim q { f with n := q }) (hfin : finish { f with n := q, out := bl (hold f.stack P) (x.out ++ [v]), now := t } = { over { f with n := q } with now := .none, out := bl (hold f.stack P) (x.out ++ [w]) })
    (hob : obs (write f (s.drop p)) = obs (write (finish { f with n := q, out := bl (hold f.stack P) (x.out ++ [v]), now := t }) (s.drop q))) :
    ∃ g, VOut s lim x y p q f P g := by
  refine ⟨{ over { f with n := q } with now := .none, out := bl (hold f.stack P) (x.out ++ [w]) }, hlt, hr, htk, hfr, ?_, ?_, ⟨ha.fl, rfl, ha.ps, ha.pb, ha.err⟩, rfl, rfl, rfl, ?_, ?_⟩
  · rw [hout]; exact Ext.snoc _ _
  · have := h.oi
    rw [hout, List.length_append]
    simp
    omega
  · rw [hout]
  · rw [hob, hfin]
theorem finish_word {r : Bytes} (h : f.now = .word r) : finish f = over { f with now := .none } := by
  unfold finish
  rw [h]
theorem finish_str {t : Txt} (h : f.now = .str t) (hn : f.next ≠ 2) : finish f = over { f with now := .none, out := setText f.out (f.out.length - 1) t.out } := by
  unfold finish
  rw [h]
  simp only
  rw [if_neg (by simpa using hn)]
theorem VIn.nx2 {d : Nat} {P : List Nat} (h : VIn s lim d x p f P) : f.next ≠ 2 := by
  rcases h.nx with e | ⟨e, _⟩ <;> omega
/-- A value of one byte and no elements: words. -/
theorem word_val {d : Nat} {P : List Nat} (h : VIn s lim d x p f P) (hl : ¬ (x.out.length : Int) = lim.i) (k : Int) (b : UInt8) (r : Bytes) (hr : r ≠ []) (hb : s.getD p 0 = b)
    (hv : value { f with n := p + 1 } b = valueOn { f with n := p + 1 } b.toNat ⟨k, 0, []⟩ (.word r)) :
    match R6.wordN s lim (b :: r) { x with out := x.out ++ [⟨k, 0, []⟩] } p with
    | (none, y) => obs (write f (s.drop p)) = told y.r
    | (some q, y) => ∃ g, VOut s lim x y p q f P g := by
  obtain ⟨hw, h1, h2⟩ := peek_want h.r h.tk
  have hwr := vin_write h
  rw [hb, hv, begin_tok h _ _ (by simp) hl] at hwr
  have hx2 : RAt s lim (p + 1) { x with out := x.out ++ [⟨k, 0, []⟩] } := by
    have := peek_next h.r h.tk
    exact ⟨this.lo, this.hi, this.pk, this.err, this.place, this.ended⟩
  have ha : At s lim (p + 1) { f with n := p + 1, out := bl (hold f.stack P) (x.out ++ [⟨k, 0, []⟩]), now := .word r } := h.a.on h1 h2 rfl (by rw [h.a.n]) rfl
  have kk := word_sim (s := s) (lim := lim) r (p + 1) { x with out := x.out ++ [⟨k, 0, []⟩] } { f with n := p + 1, out := bl (hold f.stack P) (x.out ++ [⟨k, 0, []⟩]), now := .word r } hr ha hx2 h.fr rfl
  have e1 : R6.wordN s lim (b :: r) { x with out := x.out ++ [⟨k, 0, []⟩] } p = R6.wordN s lim r { x with out := x.out ++ [⟨k, 0, []⟩] } (p + 1) := by
    have e2 : R6.want s lim { x with out := x.out ++ [⟨k, 0, []⟩] } p = (true, { x with out := x.out ++ [⟨k, 0, []⟩] }) := (peek_want (x := { x with out := x.out ++ [⟨k, 0, []⟩] }) ⟨h.r.lo, h.r.hi, h.r.pk, h.r.err, h.r.place, h.r.ended⟩ h.tk).1
    have e3 : R6.is s lim { x with out := x.out ++ [⟨k, 0, []⟩] } p b.toNat = (true, { x with out := x.out ++ [⟨k, 0, []⟩] }) := by
      unfold R6.is
      rw [e2]
      simp only
      rw [if_pos (by unfold R6.at_; rw [hb]; simp)]
    rw [R6.wordN, e3]
  rw [e1, hwr]
  cases hs : R6.wordN s lim r { x with out := x.out ++ [⟨k, 0, []⟩] } (p + 1) with
  | mk o y =>
    rw [hs] at kk
    cases o with
    | none => exact kk
    | some q =>
      obtain ⟨k1, k2, k3, k4⟩ := kk
      refine vout_tok (v := ⟨k, 0, []⟩) (w := ⟨k, 0, []⟩) (t := .word []) h hl (by omega) k2.r k2.tk k2.fr k2.out ⟨k3.fl, rfl, k3.ps, k3.pb, k3.err⟩ ?_ ?_
      · rw [finish_word rfl]
        rfl
      · rw [hwr, k4]
/-- A string. -/
theorem str_val {d : Nat} {P : List Nat} (h : VIn s lim d x p f P) (hl : ¬ (x.out.length : Int) = lim.i) (hb : s.getD p 0 = 34) :
    match R6.text s lim { x with out := x.out ++ [⟨4, 0, []⟩] } p with
    | (none, y) => obs (write f (s.drop p)) = told y.r
    | (some (b, q), y) => y.out = x.out ++ [⟨4, 0, []⟩] ∧ ∃ g, VOut s lim x { y with out := x.out ++ [⟨4, 0, b⟩] } p q f P g := by
  obtain ⟨hw, h1, h2⟩ := peek_want h.r h.tk
  have hwr := vin_write h
  have hv : value { f with n := p + 1 } 34 = valueOn { f with n := p + 1 } 34 ⟨4, 0, []⟩ (.str txt0) := rfl
  rw [hb, hv, begin_tok h _ _ (by simp) hl] at hwr
  have hx2 : RAt s lim (p + 1) { x with out := x.out ++ [⟨4, 0, []⟩] } := by
    have := peek_next h.r h.tk
    exact ⟨this.lo, this.hi, this.pk, this.err, this.place, this.ended⟩
  have ha : At s lim (p + 1) { f with n := p + 1, out := bl (hold f.stack P) (x.out ++ [⟨4, 0, []⟩]), now := .str txt0 } := h.a.on h1 h2 rfl (by rw [h.a.n]) rfl
  have kk := text_sim (s := s) (lim := lim) (s.length + 1 - p) (p + 1) { x with out := x.out ++ [⟨4, 0, []⟩] } { f with n := p + 1, out := bl (hold f.stack P) (x.out ++ [⟨4, 0, []⟩]), now := .str txt0 } txt0 (by omega) ha hx2 h.fr rfl rfl rfl
  unfold R6.text
  rw [hwr]
  have e0 : txt0.out = [] := rfl
  rw [e0] at kk
  cases hs : R6.textN s lim (s.length + 1 - p) { x with out := x.out ++ [⟨4, 0, []⟩] } (p + 1) [] with
  | mk o y =>
    rw [hs] at kk
    cases o with
    | none => exact kk
    | some v =>
      obtain ⟨b, q⟩ := v
      obtain ⟨k1, k2, k3, t', k4, k5⟩ := kk
      refine ⟨k2.out, vout_tok (v := ⟨4, 0, []⟩) (w := ⟨4, 0, b⟩) (t := .str t') h hl (by omega) ⟨k2.r.lo, k2.r.hi, k2.r.pk, k2.r.err, k2.r.place, k2.r.ended⟩ k2.tk k2.fr rfl ⟨k3.fl, rfl, k3.ps, k3.pb, k3.err⟩ ?_ ?_⟩
      · rw [finish_str (f := { f with n := q, out := bl (hold f.stack P) (x.out ++ [⟨4, 0, []⟩]), now := .str t' }) rfl h.nx2]
        simp only
        rw [setText_bl _ _ _ _ (hold_ix h), k4]
        rfl
      · rw [hwr, k5]
end Go.Px.J6

/-! The feed of layer 19 against the reference's reader of layer 16 (plain law): numbers as values, values without elements, what opens and closes. No program is named here. -/
namespace Go.Px.J6
open R6 (at_ blank numNext numEnd setText setKind bump)
variable {s : Bytes} {lim : Lim} {p : Nat} {f : Feed} {x y : R6.St}
theorem at_byte {k : UInt8} (h : at_ s p = k.toNat) : s.getD p 0 = k := UInt8.toNat_inj.1 h
theorem byte_ne {k : UInt8} (h : at_ s p ≠ k.toNat) : ¬ (s.getD p 0 == k) = true := by
  rw [beq_iff_eq]
  intro e
  exact h (by unfold R6.at_; rw [e])
theorem num_begins {c : Nat} (h : c = 45 ∨ R6.digit c = true) : ∃ k, numNext 0 c = some k := by
  unfold numNext
  rcases h with e | e
  · subst e; exact ⟨1, rfl⟩
  · by_cases e1 : c = 45
    · subst e1; exact ⟨1, rfl⟩
    · by_cases e2 : c = 48
      · subst e2; exact ⟨2, rfl⟩
      · rw [if_neg (by simpa using e1), if_neg (by simpa using e2), if_pos (by simp [e])]
        exact ⟨3, rfl⟩
/-- A number. -/
theorem num_val {d : Nat} {P : List Nat} (hb : 0 ≤ lim.b) (h : VIn s lim d x p f P) (hl : ¬ (x.out.length : Int) = lim.i) (hc : at_ s p = 45 ∨ R6.digit (at_ s p) = true)
    (hv : value { f with n := p + 1 } (s.getD p 0) = valueOn { f with n := p + 1 } (at_ s p) ⟨3, 0, []⟩ (.num (numTake 0 [] (s.getD p 0)).2.1 (numTake 0 [] (s.getD p 0)).2.2)) :
    match R6.numVal s lim { x with out := x.out ++ [⟨3, 0, []⟩] } p x.out.length with
    | (none, y) => obs (write f (s.drop p)) = told y.r
    | (some q, y) => ∃ g, VOut s lim x y p q f P g := by
  obtain ⟨hw, h1, h2⟩ := peek_want h.r h.tk
  obtain ⟨k, hk⟩ := num_begins hc
  have hnt : numTake 0 [] (s.getD p 0) = (.takes, k, [s.getD p 0]) := by
    unfold numTake
    rw [show numNext 0 (s.getD p 0).toNat = some k from hk]
    rfl
  have hwr := vin_write h
  rw [hv, begin_tok h _ _ (by simp) hl, hnt] at hwr
  have hu : upTo s lim = p + 1 + (upTo s lim - (p + 1)) := by unfold upTo; omega
  have ha : At s lim (p + 1) { f with n := p + 1, out := bl (hold f.stack P) (x.out ++ [⟨3, 0, []⟩]), now := .num k [s.getD p 0] } := h.a.on h1 h2 rfl (by rw [h.a.n]) rfl
  obtain ⟨q', r, r1, r2, r3, r4, r5, r6⟩ := num_sim (s := s) (lim := lim) hb (upTo s lim - (p + 1)) (p + 1) k { f with n := p + 1, out := bl (hold f.stack P) (x.out ++ [⟨3, 0, []⟩]), now := .num k [s.getD p 0] } [s.getD p 0] hu ha rfl
  have e0 : (s.take (upTo s lim)).drop p = s.getD p 0 :: (s.take (upTo s lim)).drop (p + 1) := E5.drop_take_cons h1 (by omega)
  have hnum : R6.number ((s.take (upTo s lim)).drop p) = (r - p, numEnd q') := by
    rw [e0]
    unfold R6.number R6.numN
    rw [show numNext 0 (s.getD p 0).toNat = some k from hk]
    simp only
    rw [← r2]
    congr 1
    omega
  have hbytes : [s.getD p 0] ++ (s.take r).drop (p + 1) = (s.take r).drop p := by
    rw [E5.take_split (show p ≤ p + 1 by omega) (show p + 1 ≤ r by omega), part_snoc (Nat.le_refl p) h1, E5.drop_take_self, List.nil_append]
  rw [hbytes] at r6
  have hrs : r ≤ s.length := by unfold upTo at r3; omega
  obtain ⟨f2, hf2⟩ : ∃ f2 : Feed, f2 = { f with n := r, out := bl (hold f.stack P) (x.out ++ [⟨3, 0, []⟩]), now := .num q' ((s.take r).drop p) } := ⟨_, rfl⟩
  have hwr2 : write f (s.drop p) = write f2 (s.drop r) := by rw [hwr, r6, hf2]
  have ha2 : At s lim r f2 := by rw [hf2]; exact ⟨r5.fl, rfl, r5.ps, r5.pb, r5.err⟩
  have hnow2 : f2.now = .num q' ((s.take r).drop p) := by rw [hf2]
  have eN : R6.numVal s lim { x with out := x.out ++ [⟨3, 0, []⟩] } p x.out.length = (if numEnd q' then (some r, { R6.take { x with out := x.out ++ [⟨3, 0, []⟩] } r with out := setText (x.out ++ [⟨3, 0, []⟩]) x.out.length ((s.take r).drop p) })
      else match R6.want s lim (R6.take { x with out := x.out ++ [⟨3, 0, []⟩] } r) r with
        | (true, z) => (none, R6.fault z (r : Nat) 9)
        | (false, z) => (none, z)) := by
    unfold R6.numVal
    have hpr : p + (r - p) = r := by omega
    simp only
    rw [show min s.length lim.b.toNat = upTo s lim from rfl, hnum, hpr]
    rfl
  rw [eN]
  have htk : (R6.take { x with out := x.out ++ [⟨3, 0, []⟩] } r).r.taken = r := by
    show max x.r.taken r = r
    have := h.tk
    omega
  have hRr : RAt s lim r (R6.take { x with out := x.out ++ [⟨3, 0, []⟩] } r) := ⟨by rw [htk]; exact Nat.le_refl _, by omega, fun e => by omega, h.r.err, h.r.place, h.r.ended⟩
  by_cases he : numEnd q' = true
  · rw [if_pos he]
    simp only
    refine vout_tok (v := ⟨3, 0, []⟩) (w := ⟨3, 0, (s.take r).drop p⟩) (t := .num q' ((s.take r).drop p)) h hl (by omega) ⟨hRr.lo, hRr.hi, hRr.pk, hRr.err, hRr.place, hRr.ended⟩ htk rfl (setText_last _ _ _ _ rfl) ⟨r5.fl, rfl, r5.ps, r5.pb, r5.err⟩ ?_ ?_
    · rw [finish_num (f := { f with n := r, out := bl (hold f.stack P) (x.out ++ [⟨3, 0, []⟩]), now := .num q' ((s.take r).drop p) }) rfl]
      simp only
      rw [setText_bl _ _ _ _ (hold_ix h)]
      rfl
    · rw [hwr2, finish_alike ha2 hnow2 he r4 hb, hf2]
  · rw [if_neg he]
    have hE : End f2 = ([], (f2.n : Int), 9) := by
      unfold End
      rw [if_neg (by simp [ha2.err]), hnow2]
      simp only
      rw [if_neg (by simp [he])]
    have hfr2 : (R6.take { x with out := x.out ++ [⟨3, 0, []⟩] } r).r.frames = f2.stack.length := by rw [hf2]; exact h.fr
    cases hww : R6.want s lim (R6.take { x with out := x.out ++ [⟨3, 0, []⟩] } r) r with
    | mk b z =>
      cases b with
      | false =>
        simp only
        rw [hwr2]
        exact want_no ha2 hRr hfr2 hE hww
      | true =>
        obtain ⟨g1, g2, g3, g4⟩ := want_yes ha2 hRr hww
        simp only
        rw [hwr2, g4, takeC_num hnow2, show numNext q' (s.getD r 0).toNat = none from r4 (by unfold upTo; omega)]
        simp only
        rw [if_neg he]
        have := fault_sim (e := 9) (p := r) (y := z) (g := { f2 with n := f2.n + 1, now := .num q' ((s.take r).drop p) }) (by decide) (by show f2.n + 1 = r + 1; rw [ha2.n]) (by rw [g3]) (by rw [g3]; exact hRr.ended) (by rw [g3]; exact hfr2) (s.drop (r + 1))
        exact this
/-- Values without elements. -/
theorem plain_val {d : Nat} {P : List Nat} (hb : 0 ≤ lim.b) (h : VIn s lim d x p f P) (hl : ¬ (x.out.length : Int) = lim.i) (hf : R6.firsts (at_ s p) = true) (h123 : at_ s p ≠ 123) (h91 : at_ s p ≠ 91) :
    match R6.plainV s lim { x with out := x.out ++ [⟨0, 0, []⟩] } (at_ s p) p x.out.length with
    | (none, y) => obs (write f (s.drop p)) = told y.r
    | (some q, y) => ∃ g, VOut s lim x y p q f P g := by
  have n1 : ¬ (s.getD p 0 == 123) = true := byte_ne (k := 123) h123
  have n2 : ¬ (s.getD p 0 == 91) = true := byte_ne (k := 91) h91
  unfold R6.plainV
  simp only [setKind_last]
  by_cases c1 : at_ s p = 34
  · rw [if_pos (by simpa using c1)]
    have k := str_val h hl (at_byte (k := 34) c1)
    cases hs : R6.text s lim { x with out := x.out ++ [⟨4, 0, []⟩] } p with
    | mk o z =>
      rw [hs] at k
      cases o with
      | none => exact k
      | some v =>
        obtain ⟨b, q⟩ := v
        obtain ⟨k1, g, k2⟩ := k
        simp only
        refine ⟨g, ?_⟩
        rw [k1, setText_last _ _ _ _ rfl]
        exact k2
  · rw [if_neg (by simpa using c1)]
    have n3 : ¬ (s.getD p 0 == 34) = true := byte_ne (k := 34) c1
    by_cases c2 : at_ s p = 116
    · rw [if_pos (by simpa using c2)]
      exact word_val h hl 2 116 [114, 117, 101] (by simp) (at_byte (k := 116) c2) rfl
    · rw [if_neg (by simpa using c2)]
      have n4 : ¬ (s.getD p 0 == 116) = true := byte_ne (k := 116) c2
      by_cases c3 : at_ s p = 102
      · rw [if_pos (by simpa using c3)]
        exact word_val h hl 1 102 [97, 108, 115, 101] (by simp) (at_byte (k := 102) c3) rfl
      · rw [if_neg (by simpa using c3)]
        have n5 : ¬ (s.getD p 0 == 102) = true := byte_ne (k := 102) c3
        by_cases c4 : at_ s p = 110
        · rw [if_pos (by simpa using c4)]
          exact word_val h hl 0 110 [117, 108, 108] (by simp) (at_byte (k := 110) c4) rfl
        · rw [if_neg (by simpa using c4)]
          have n6 : ¬ (s.getD p 0 == 110) = true := byte_ne (k := 110) c4
          have hc : at_ s p = 45 ∨ R6.digit (at_ s p) = true := by
            unfold R6.firsts at hf
            simp only [Bool.or_eq_true, beq_iff_eq] at hf
            rcases hf with ((((((w | w) | w) | w) | w) | w) | w) | w
            · exact absurd w h123
            · exact absurd w h91
            · exact absurd w c1
            · exact .inl w
            · exact absurd w c2
            · exact absurd w c3
            · exact absurd w c4
            · exact .inr w
          refine num_val hb h hl hc ?_
          unfold value
          rw [if_neg n1, if_neg n2, if_neg n3, if_neg n4, if_neg n5, if_neg n6, if_pos]
          · rfl
          · rcases hc with e | e
            · rw [at_byte (k := 45) e]; rfl
            · have : R6.digit (s.getD p 0).toNat = true := e
              rw [this, Bool.or_true]
theorem plain_full {d : Nat} {P : List Nat} (h : VIn s lim d x p f P) (hl : (x.out.length : Int) = lim.i) (hf : R6.firsts (at_ s p) = true) : obs (write f (s.drop p)) = told (R6.fault x p 10).r := by
  have hv : value { f with n := p + 1 } (s.getD p 0) = wrong { f with n := p + 1 } (p + 1 - 1 : Nat) 10 := by
    unfold value
    repeat' (split; exact full_tok h _ _ hl _)
    rename_i a1 a2 a3 a4 a5 a6 a7
    exfalso
    unfold R6.firsts at hf
    simp only [Bool.or_eq_true, beq_iff_eq, not_or] at hf a1 a2 a3 a4 a5 a6 a7
    have e : ∀ k : UInt8, ¬ s.getD p 0 = k → at_ s p ≠ k.toNat := fun k hk e => hk (at_byte e)
    have b1 := e _ a1
    have b2 := e _ a2
    have b3 := e _ a3
    have b4 := e _ a4
    have b5 := e _ a5
    have b6 := e _ a6
    have b7 := e _ a7.1
    have b8 : ¬ R6.digit (at_ s p) = true := a7.2
    rcases hf with ((((((w | w) | w) | w) | w) | w) | w) | w
    · exact b1 w
    · exact b2 w
    · exact b3 w
    · exact b7 w
    · exact b4 w
    · exact b5 w
    · exact b6 w
    · exact b8 w
  rw [vin_write h, hv]
  exact peek_fault (by decide) h.r h.tk h.fr _
theorem plain_bad {d : Nat} {P : List Nat} (h : VIn s lim d x p f P) (hf : R6.firsts (at_ s p) = false) : obs (write f (s.drop p)) = told (R6.fault x p 9).r := by
  have hv : value { f with n := p + 1 } (s.getD p 0) = wrong { f with n := p + 1 } (p + 1 - 1 : Nat) 9 := by
    unfold R6.firsts at hf
    simp only [Bool.or_eq_false_iff, beq_eq_false_iff_ne] at hf
    obtain ⟨⟨⟨⟨⟨⟨⟨w1, w2⟩, w3⟩, w4⟩, w5⟩, w6⟩, w7⟩, w8⟩ := hf
    unfold value
    rw [if_neg (byte_ne (k := 123) w1), if_neg (byte_ne (k := 91) w2), if_neg (byte_ne (k := 34) w3), if_neg (byte_ne (k := 116) w5), if_neg (byte_ne (k := 102) w6), if_neg (byte_ne (k := 110) w7), if_neg]
    have e1 := byte_ne (s := s) (p := p) (k := 45) w4
    intro w
    simp only [Bool.or_eq_true] at w
    rcases w with w | w
    · exact e1 w
    · rw [show R6.digit (s.getD p 0).toNat = false from w8] at w; cases w
  rw [vin_write h, hv]
  exact peek_fault (by decide) h.r h.tk h.fr _
end Go.Px.J6

/-! The feed of layer 19 against the reference's reader of layer 16 (plain law): arrays. No program is named here. -/
namespace Go.Px.J6
open R6 (at_ blank numNext numEnd setText setKind bump)
variable {s : Bytes} {lim : Lim} {p : Nat} {f : Feed} {x y : R6.St}
theorem object_eq {a : Fm} {st : List Fm} (hs : f.stack = a :: st) : object f = ((f.out.getD a.no v0).kind == 6) := by
  unfold object
  rw [hs]
  rfl
/-- A byte between tokens that is looked at. -/
theorem struct_write (h : At s lim p f) (hr : RAt s lim p x) (htk : x.r.taken = p + 1) (hnow : f.now = .none) : write f (s.drop p) = write (structure_ { f with n := p + 1 } (s.getD p 0)) (s.drop (p + 1)) := by
  obtain ⟨_, h1, h2⟩ := peek_want hr htk
  rw [write_one h h1 h2, takeC_none hnow, h.n]
theorem close_struct {a : Fm} {st : List Fm} {n : Nat} {c : UInt8} (hs : f.stack = a :: st) (hb : blank c.toNat = false) (hc : c = if object f then 125 else 93) (hn : f.next = 1 ∨ f.next = 3 ∨ f.next = 5) :
    structure_ { f with n := n } c = { f with n := n, stack := st, next := if st.isEmpty then 6 else 5 } := by
  unfold structure_
  rw [if_neg (by rw [hb]; decide)]
  have hob : object ({ f with n := n } : Feed) = object f := rfl
  simp only [hob]
  rw [if_pos]
  · unfold over
    simp only [hs, List.tail_cons]
  · rw [← hc]
    rcases hn with e | e | e <;> simp [e]
theorem comma_struct {n : Nat} (hn : f.next = 5) : structure_ { f with n := n } 44 = { f with n := n, next := if object f then 2 else 0 } := by
  unfold structure_
  rw [if_neg (by decide)]
  simp only [show object ({ f with n := n } : Feed) = object f from rfl]
  have h1 : ((44 : UInt8) == (if object f then 125 else 93)) = false := by cases object f <;> rfl
  rw [h1, Bool.false_and, if_neg (by decide), if_neg (by simp [hn]), if_neg (by simp [hn]), if_neg (by simp [hn]), if_pos (by simp [hn])]
theorem behind_bad {n : Nat} {c : UInt8} (hn : f.next = 5) (hb : blank c.toNat = false) (hc : ¬ c = if object f then 125 else 93) (h44 : ¬ c = 44) : structure_ { f with n := n } c = wrong { f with n := n } (n - 1 : Nat) 9 := by
  unfold structure_
  rw [if_neg (by rw [hb]; decide)]
  simp only [show object ({ f with n := n } : Feed) = object f from rfl]
  have h1 : (c == (if object f then 125 else 93)) = false := by rw [beq_eq_false_iff_ne]; exact hc
  rw [h1, Bool.false_and, if_neg (by decide), if_neg (by simp [hn]), if_neg (by simp [hn]), if_neg (by simp [hn]), if_neg (by simp [h44])]
/-- What opens is counted. -/
theorem open_ok {d : Nat} {P : List Nat} (h : VIn s lim (d + 1) x p f P) (hl : ¬ (x.out.length : Int) = lim.i) (k : Int) (c : Nat) :
    valueOn { f with n := p + 1 } c ⟨k, 0, []⟩ .none = { f with n := p + 1, out := bl (hold f.stack P) (x.out ++ [⟨k, 0, []⟩]), now := .none, stack := ⟨x.out.length, 0, []⟩ :: f.stack, next := if c == 123 then 3 else 1 } := by
  have hd : ¬ ((f.stack.length : Int) == f.lim.d) = true := by
    have := h.dep
    rw [h.a.fl]
    simp
    omega
  have hol : f.out.length = x.out.length := by rw [h.out, bl_len]
  unfold valueOn
  simp only
  rw [if_neg (by rw [Bool.true_and]; exact hd), one_ok h _ hl]
  simp only
  rw [if_pos trivial, hol]
theorem open_deep {P : List Nat} (h : VIn s lim 0 x p f P) (v : Val) (c : Nat) : valueOn { f with n := p + 1 } c v .none = wrong { f with n := p + 1 } (p + 1 - 1 : Nat) 10 := by
  have hd : ((f.stack.length : Int) == f.lim.d) = true := by
    have := h.dep
    rw [h.a.fl]
    simp
    omega
  unfold valueOn
  simp only
  rw [if_pos (by rw [Bool.true_and]; exact hd)]
/-- Behind what closes. -/
structure COut (s : Bytes) (lim : Lim) (x y : R6.St) (p q : Nat) (f : Feed) (st0 : List Fm) (Q : List Nat) (g : Feed) : Prop where
  lt : p < q
  r : RAt s lim q y
  tk : y.r.taken = q
  fr : y.r.frames = x.r.frames - 1
  ext : Ext x.out y.out
  oi : (y.out.length : Int) ≤ lim.i
  a : At s lim q g
  now : g.now = .none
  st : g.stack = st0
  nx : g.next = if st0.isEmpty then 6 else 5
  out : g.out = bl Q y.out
  ob : obs (write f (s.drop p)) = obs (write g (s.drop q))
theorem frame_next {z : R6.St} {q : Nat} (h : RAt s lim q z) (htk : z.r.taken = q + 1) : RAt s lim (q + 1) (R6.frame z (-1)) :=
  ⟨by show q + 1 ≤ z.r.taken; omega, by show z.r.taken ≤ _; omega, fun e => by have : z.r.taken = q + 1 + 1 := e; omega, h.err, h.place, h.ended⟩
theorem array_loop {d me : Nat} {Q : List Nat} {st : List Fm} {rc : R6.St → Nat → Option Nat × R6.St} (hrc : VSim s lim d rc) : ∀ (m p : Nat) (x : R6.St) (f : Feed) (a : Fm), s.length + 1 ≤ m + p → VIn s lim d x p f Q → f.stack = a :: st → a.no = me → me < x.out.length → (x.out.getD me v0).kind = 5 →
    match R6.arrayN s lim rc me m x p with
    | (none, y) => obs (write f (s.drop p)) = told y.r
    | (some q, y) => ∃ g, COut s lim x y p q f st Q g := by
  intro m
  induction m with
  | zero => intro p x f a hm h; have := h.a.ps; omega
  | succ m ih =>
    intro p x f a hm h hst hme hml hk
    unfold R6.arrayN
    have hv := hrc x p f Q h
    cases hr : rc x p with
    | mk o y =>
      rw [hr] at hv
      cases o with
      | none => exact hv
      | some q =>
        obtain ⟨g, hg⟩ := hv
        have hgo : g.out = bl Q (bump y.out me 1) := by
          rw [hg.out, hst, bl_bump]
          show bl (a.no :: Q) y.out = _
          rw [hme]
          rfl
        have hgs : g.stack = a :: st := hg.st.trans hst
        have hgn : g.next = 5 := by rw [hg.nx, hst]; rfl
        have hyl : me < y.out.length := Nat.lt_of_lt_of_le hml hg.ext.1
        have hyk : (y.out.getD me v0).kind = 5 := (hg.ext.2 me hml).trans hk
        have hob : ∀ n : Nat, object ({ g with n := n } : Feed) = false := by
          intro n
          rw [object_eq (f := { g with n := n }) hgs]
          show ((g.out.getD a.no v0).kind == 6) = false
          rw [hgo, bl_kind, bump_kind, hme, hyk]
          rfl
        obtain ⟨y1, hy1⟩ : ∃ y1 : R6.St, y1 = { y with out := bump y.out me 1 } := ⟨_, rfl⟩
        have hy1r : RAt s lim q y1 := by rw [hy1]; exact ⟨hg.r.lo, hg.r.hi, hg.r.pk, hg.r.err, hg.r.place, hg.r.ended⟩
        have hfr1 : y1.r.frames = g.stack.length := by rw [hy1]; show y.r.frames = _; rw [hg.fr, h.fr, hg.st]
        have hps := pass_sim (s := s) (lim := lim) (s.length + 1 - q) q y1 g (by have := hg.a.ps; omega) hg.a hy1r hfr1 hg.now (by omega)
        simp only
        rw [← hy1]
        unfold R6.pass
        cases hp : R6.passN s lim (s.length + 1 - q) y1 q with
        | mk o z =>
          rw [hp] at hps
          cases o with
          | none => exact hg.ob.trans hps
          | some q1 =>
            obtain ⟨i1, i2, i3, i4, i5, i6, i7⟩ := hps
            have htz : z.r.taken = q1 + 1 := by rw [i5]
            have hzr : RAt s lim q1 z := ⟨by omega, by omega, fun _ => ⟨i2, i3⟩, by rw [i5]; exact hy1r.err, by rw [i5]; exact hy1r.place, by rw [i5]; exact hy1r.ended⟩
            have hzo : z.out = bump y.out me 1 := by rw [i5, hy1]
            have hzf : z.r.frames = g.stack.length := by rw [i5]; exact hfr1
            have hxf : x.r.frames = g.stack.length := by rw [h.fr, hg.st]
            have hext : Ext x.out z.out := by rw [hzo]; exact hg.ext.trans (Ext.bump _ _ _)
            have hoi : (z.out.length : Int) ≤ lim.i := by rw [hzo, vbump_len]; exact hg.oi
            have hgn1 : ({ g with n := q1 } : Feed).next = 5 := hgn
            have hob1 := hob q1
            have hsw := struct_write (f := { g with n := q1 }) i6 hzr htz hg.now
            simp only
            by_cases c1 : at_ s q1 = 93
            · rw [if_pos (by simpa using c1)]
              have e1 : structure_ { g with n := q1 + 1 } (s.getD q1 0) = { g with n := q1 + 1, stack := st, next := if st.isEmpty then 6 else 5 } :=
                close_struct hgs i4 (by rw [hob g.n]; exact at_byte (k := 93) c1) (.inr (.inr hgn))
              refine ⟨{ g with n := q1 + 1, stack := st, next := if st.isEmpty then 6 else 5 }, by have := hg.lt; omega, frame_next hzr htz, htz, ?_, hext, hoi, ⟨i6.fl, rfl, i2, by show ((q1 + 1 : Nat) : Int) ≤ lim.b; omega, i6.err⟩, hg.now, rfl, rfl, ?_, ?_⟩
              · show ((z.r.frames : Int) + -1).toNat = x.r.frames - 1
                rw [hzf, hxf]
                omega
              · show g.out = bl Q z.out
                rw [hgo, hzo]
              · rw [hg.ob, i7, hsw]
                exact congrArg (fun w => obs (write w (s.drop (q1 + 1)))) e1
            · rw [if_neg (by simpa using c1)]
              by_cases c2 : at_ s q1 = 44
              · rw [if_neg (by simp [c2])]
                have e1 : structure_ { g with n := q1 + 1 } (s.getD q1 0) = { g with n := q1 + 1, next := 0 } := by
                  rw [at_byte (k := 44) c2, comma_struct hgn, hob g.n]
                  rfl
                obtain ⟨g2, hg2⟩ : ∃ g2 : Feed, g2 = { g with n := q1 + 1, next := 0 } := ⟨_, rfl⟩
                have hwr : obs (write f (s.drop p)) = obs (write g2 (s.drop (q1 + 1))) := by
                  rw [hg.ob, i7, hsw, hg2]
                  exact congrArg (fun w => obs (write w (s.drop (q1 + 1)))) e1
                have hz2 : RAt s lim (q1 + 1) z := peek_next hzr htz
                have hg2a : At s lim (q1 + 1) g2 := by rw [hg2]; exact ⟨i6.fl, rfl, i2, by show ((q1 + 1 : Nat) : Int) ≤ lim.b; omega, i6.err⟩
                have hps2 := pass_sim (s := s) (lim := lim) (s.length + 1 - (q1 + 1)) (q1 + 1) z g2 (by omega) hg2a hz2 (by rw [hg2]; exact hzf) (by rw [hg2]; exact hg.now) (by rw [hg2]; show (0 : Nat) ≠ 6; decide)
                cases hp2 : R6.passN s lim (s.length + 1 - (q1 + 1)) z (q1 + 1) with
                | mk o u =>
                  rw [hp2] at hps2
                  cases o with
                  | none => exact hwr.trans hps2
                  | some q2 =>
                    obtain ⟨j1, j2, j3, j4, j5, j6, j7⟩ := hps2
                    have hlt2 := hg.lt
                    have hu : VIn s lim d u q2 { g2 with n := q2 } Q := by
                      refine ⟨j6, ⟨by rw [j5]; exact Nat.le_succ _, by rw [j5]; exact Nat.le_refl _, fun _ => ⟨j2, j3⟩, by rw [j5]; exact hz2.err, by rw [j5]; exact hz2.place, by rw [j5]; exact hz2.ended⟩, by rw [j5], j4, ?_, by rw [hg2]; exact hg.now, .inl (by rw [hg2]), ?_, ?_, ?_, ?_, by rw [j5]; exact hoi⟩
                      · rw [j5, hg2]; exact hzf
                      · rw [j5, hg2]; show g.out = bl Q z.out; rw [hgo, hzo]
                      · intro i hi; rw [j5]; exact Nat.lt_of_lt_of_le (h.ix i hi) hext.1
                      · intro b hb
                        rw [hg2] at hb
                        have hb : g.stack.head? = some b := hb
                        rw [hgs] at hb
                        simp only [List.head?_cons, Option.some.injEq] at hb
                        rw [← hb, hme, j5]
                        exact Nat.lt_of_lt_of_le hml hext.1
                      · rw [hg2]; show ((g.stack.length + d : Nat) : Int) = lim.d; rw [hg.st]; exact h.dep
                    have hk2 : (u.out.getD me v0).kind = 5 := by rw [j5]; exact (hext.2 me hml).trans hk
                    have hml2 : me < u.out.length := by rw [j5]; exact Nat.lt_of_lt_of_le hml hext.1
                    have hi := ih q2 u { g2 with n := q2 } a (by omega) hu (by rw [hg2]; exact hgs) hme hml2 hk2
                    simp only
                    cases hl2 : R6.arrayN s lim rc me m u q2 with
                    | mk o v =>
                      rw [hl2] at hi
                      cases o with
                      | none => exact hwr.trans ((congrArg obs j7).trans hi)
                      | some q3 =>
                        obtain ⟨g3, hg3⟩ := hi
                        refine ⟨g3, by have := hg3.lt; omega, hg3.r, hg3.tk, ?_, ?_, hg3.oi, hg3.a, hg3.now, hg3.st, hg3.nx, hg3.out, hwr.trans ((congrArg obs j7).trans hg3.ob)⟩
                        · rw [hg3.fr, j5]
                          show z.r.frames - 1 = _
                          rw [hzf, hxf]
                        · have := hg3.ext
                          rw [j5] at this
                          exact hext.trans this
              · rw [if_pos (by simpa using c2)]
                have e1 : structure_ { g with n := q1 + 1 } (s.getD q1 0) = wrong { g with n := q1 + 1 } (q1 + 1 - 1 : Nat) 9 :=
                  behind_bad hgn i4 (by rw [hob g.n]; exact fun e => c1 (by unfold R6.at_; rw [e]; rfl)) (fun e => c2 (by unfold R6.at_; rw [e]; rfl))
                rw [hg.ob, i7, hsw]
                refine (congrArg (fun w => obs (write w (s.drop (q1 + 1)))) e1).trans ?_
                exact fault_sim (e := 9) (p := q1) (g := { g with n := q1 + 1 }) (by decide) rfl htz hzr.ended hzf _
/-- A whole array, its first sign looked at. -/
theorem array_val {d : Nat} {P : List Nat} {rc : R6.St → Nat → Option Nat × R6.St} (hrc : VSim s lim d rc) (h : VIn s lim (d + 1) x p f P) (hl : ¬ (x.out.length : Int) = lim.i) (hc : at_ s p = 91) :
    match R6.array s lim rc x.out.length { x with out := x.out ++ [⟨5, 0, []⟩] } (p + 1) with
    | (none, y) => obs (write f (s.drop p)) = told y.r
    | (some q, y) => ∃ g, VOut s lim x y p q f P g := by
  obtain ⟨hw, h1, h2⟩ := peek_want h.r h.tk
  obtain ⟨Q, hQ⟩ : ∃ Q, Q = hold f.stack P := ⟨_, rfl⟩
  obtain ⟨f1, hf1⟩ : ∃ f1 : Feed, f1 = { f with n := p + 1, out := bl Q (x.out ++ [⟨5, 0, []⟩]), now := .none, stack := ⟨x.out.length, 0, []⟩ :: f.stack, next := 1 } := ⟨_, rfl⟩
  have hwr : write f (s.drop p) = write f1 (s.drop (p + 1)) := by
    rw [vin_write h, at_byte (k := 91) hc, hf1, hQ]
    have hv : value { f with n := p + 1 } 91 = valueOn { f with n := p + 1 } 91 ⟨5, 0, []⟩ .none := rfl
    rw [hv, open_ok h hl]
    rfl
  obtain ⟨x1, hx1⟩ : ∃ x1 : R6.St, x1 = R6.frame { x with out := x.out ++ [⟨5, 0, []⟩] } 1 := ⟨_, rfl⟩
  have hx1r : RAt s lim (p + 1) x1 := by
    have := peek_next h.r h.tk
    rw [hx1]
    exact ⟨this.lo, this.hi, this.pk, this.err, this.place, this.ended⟩
  have hx1f : x1.r.frames = f1.stack.length := by
    rw [hx1, hf1]
    show ((x.r.frames : Int) + 1).toNat = f.stack.length + 1
    rw [h.fr]
    omega
  have hx1o : x1.out = x.out ++ [⟨5, 0, []⟩] := by rw [hx1]; rfl
  have hf1a : At s lim (p + 1) f1 := by rw [hf1]; exact h.a.on h1 h2 rfl (by rw [h.a.n]) rfl
  have hQix : ∀ i ∈ Q, i < x.out.length := by rw [hQ]; exact hold_ix h
  have hk1 : (x1.out.getD x.out.length v0).kind = 5 := by
    rw [hx1o]
    simp [List.getD_eq_getElem?_getD]
  have hext1 : Ext x.out x1.out := by rw [hx1o]; exact Ext.snoc _ _
  have hl1 : x1.out.length = x.out.length + 1 := by rw [hx1o, List.length_append]; rfl
  have hoi1 : (x1.out.length : Int) ≤ lim.i := by have := h.oi; rw [hl1]; omega
  have hob : ∀ n : Nat, object ({ f1 with n := n } : Feed) = false := by
    intro n
    rw [object_eq (f := { f1 with n := n }) (a := ⟨x.out.length, 0, []⟩) (st := f.stack) (by rw [hf1])]
    show ((f1.out.getD x.out.length v0).kind == 6) = false
    rw [hf1]
    show (((bl Q (x.out ++ [⟨5, 0, []⟩])).getD x.out.length v0).kind == 6) = false
    rw [bl_kind, ← hx1o, hk1]
    rfl
  have hps := pass_sim (s := s) (lim := lim) (s.length + 1 - (p + 1)) (p + 1) x1 f1 (by omega) hf1a hx1r hx1f (by rw [hf1]) (by rw [hf1]; show (1 : Nat) ≠ 6; decide)
  unfold R6.array R6.pass
  rw [← hx1, hwr]
  cases hp : R6.passN s lim (s.length + 1 - (p + 1)) x1 (p + 1) with
  | mk o z =>
    rw [hp] at hps
    cases o with
    | none => exact hps
    | some q =>
      obtain ⟨i1, i2, i3, i4, i5, i6, i7⟩ := hps
      have htz : z.r.taken = q + 1 := by rw [i5]
      have hzr : RAt s lim q z := ⟨by omega, by omega, fun _ => ⟨i2, i3⟩, by rw [i5]; exact hx1r.err, by rw [i5]; exact hx1r.place, by rw [i5]; exact hx1r.ended⟩
      have hzf : z.r.frames = f1.stack.length := by rw [i5]; exact hx1f
      have hf1l : f1.stack.length = f.stack.length + 1 := by rw [hf1]; rfl
      have hob1 := hob q
      have hsw := struct_write (f := { f1 with n := q }) i6 hzr htz (by rw [hf1])
      simp only
      by_cases c1 : at_ s q = 93
      · rw [if_pos (by simpa using c1)]
        have e1 : structure_ { f1 with n := q + 1 } (s.getD q 0) = { f1 with n := q + 1, stack := f.stack, next := if f.stack.isEmpty then 6 else 5 } :=
          close_struct (a := ⟨x.out.length, 0, []⟩) (by rw [hf1]) i4 (by rw [hob f1.n]; exact at_byte (k := 93) c1) (.inl (by rw [hf1]))
        refine ⟨{ f1 with n := q + 1, stack := f.stack, next := if f.stack.isEmpty then 6 else 5 }, by omega, frame_next hzr htz, htz, ?_, ?_, ?_, ⟨i6.fl, rfl, i2, by show ((q + 1 : Nat) : Int) ≤ lim.b; omega, i6.err⟩, by rw [hf1], rfl, rfl, ?_, ?_⟩
        · show ((z.r.frames : Int) + -1).toNat = x.r.frames
          rw [hzf, hf1l, h.fr]
          omega
        · show Ext x.out z.out; rw [i5]; exact hext1
        · show (z.out.length : Int) ≤ _; rw [i5]; exact hoi1
        · show f1.out = bl (hold f.stack P) z.out
          rw [i5, hx1o, hf1, hQ]
        · rw [hwr, i7, hsw]
          exact congrArg (fun w => obs (write w (s.drop (q + 1)))) e1
      · rw [if_neg (by simpa using c1)]
        have hu : VIn s lim d z q { f1 with n := q } Q := by
          refine ⟨i6, hzr, htz, i4, hzf, by rw [hf1], .inr ⟨by rw [hf1], hob1, c1⟩, ?_, ?_, ?_, ?_, by rw [i5]; exact hoi1⟩
          · show f1.out = bl Q z.out; rw [i5, hx1o, hf1]
          · intro i hi; rw [i5]; have := hQix i hi; show i < x1.out.length; omega
          · intro b hb
            have hb : f1.stack.head? = some b := hb
            rw [hf1] at hb
            simp only [List.head?_cons, Option.some.injEq] at hb
            rw [← hb, i5]
            show x.out.length < x1.out.length
            omega
          · show ((f1.stack.length + d : Nat) : Int) = lim.d
            have := h.dep
            rw [hf1l]
            omega
        have hi := array_loop (st := f.stack) (me := x.out.length) hrc (s.length + 1 - q) q z { f1 with n := q } ⟨x.out.length, 0, []⟩ (by omega) hu (by rw [hf1]) rfl (by rw [i5]; show _ < x1.out.length; omega) (by rw [i5]; exact hk1)
        rw [i7]
        cases hl2 : R6.arrayN s lim rc x.out.length (s.length + 1 - q) z q with
        | mk o v =>
          rw [hl2] at hi
          cases o with
          | none => exact hi
          | some q3 =>
            obtain ⟨g3, hg3⟩ := hi
            refine ⟨g3, by have := hg3.lt; omega, hg3.r, hg3.tk, ?_, ?_, hg3.oi, hg3.a, hg3.now, hg3.st, hg3.nx, ?_, ?_⟩
            · rw [hg3.fr, hzf, hf1l, h.fr]
              rfl
            · have e := hg3.ext
              rw [i5] at e
              exact hext1.trans e
            · rw [hg3.out, hQ]
            · rw [hwr, i7]; exact hg3.ob
end Go.Px.J6

/-! The feed of layer 19 against the reference's reader of layer 16 (plain law): objects. No program is named here. -/
namespace Go.Px.J6
open R6 (at_ blank numNext numEnd setText setKind bump)
variable {s : Bytes} {lim : Lim} {p : Nat} {f : Feed} {x y : R6.St}
/-- Ahead of a name whose first byte was looked at. -/
structure NIn (s : Bytes) (lim : Lim) (d me : Nat) (x : R6.St) (p : Nat) (f : Feed) (names : List Bytes) (st0 : List Fm) (Q : List Nat) : Prop where
  a : At s lim p f
  r : RAt s lim p x
  tk : x.r.taken = p + 1
  nb : blank (at_ s p) = false
  fr : x.r.frames = f.stack.length
  now : f.now = .none
  nx : f.next = 2 ∨ (f.next = 3 ∧ at_ s p ≠ 125)
  sk : ∃ a0, f.stack = ⟨me, a0, names⟩ :: st0
  out : f.out = bl Q x.out
  ix : ∀ i ∈ Q, i < x.out.length
  ml : me < x.out.length
  kd : (x.out.getD me v0).kind = 6
  dep : ((f.stack.length + d : Nat) : Int) = lim.d
  oi : (x.out.length : Int) ≤ lim.i
theorem obj_true {a : Fm} {st : List Fm} {l : List Val} {Q : List Nat} (hs : f.stack = a :: st) (ho : f.out = bl Q l) (hk : (l.getD a.no v0).kind = 6) : object f = true := by
  rw [object_eq hs, ho, bl_kind, hk]
  rfl
theorem name_struct {n : Nat} {c : UInt8} (hn : f.next = 2 ∨ (f.next = 3 ∧ c ≠ 125)) (hb : blank c.toNat = false) (ho : object f = true) :
    structure_ { f with n := n } c = if c == 34 then
      (match one { f with n := n } ⟨4, 0, []⟩ with
       | (false, g) => g
       | (true, g) => match g.stack with
         | [] => g
         | x :: rest => { g with stack := { x with at_ := n - 1 } :: rest, now := .str txt0, next := 2 })
      else wrong { f with n := n } (n - 1 : Nat) 9 := by
  unfold structure_
  rw [if_neg (by rw [hb]; decide)]
  simp only [show object ({ f with n := n } : Feed) = object f from rfl, ho, if_true]
  have h1 : (c == 125 && (f.next == 1 || f.next == 3 || f.next == 5)) = false := by
    rcases hn with e | ⟨e, hc⟩
    · simp [e]
    · rw [show (c == 125) = false by simpa using hc]; rfl
  have h2 : (f.next == 2 || f.next == 3) = true := by rcases hn with e | ⟨e, _⟩ <;> simp [e]
  have h3 : ¬ (f.next == 0 || f.next == 1) = true := by rcases hn with e | ⟨e, _⟩ <;> simp [e]
  have h4 : ¬ (f.next == 4 && c == 58) = true := by rcases hn with e | ⟨e, _⟩ <;> simp [e]
  have h5 : ¬ (f.next == 5 && c == 44) = true := by rcases hn with e | ⟨e, _⟩ <;> simp [e]
  rw [h1, if_neg (by decide), if_neg h3, h2, Bool.true_and, if_neg h4, if_neg h5]
  rfl
theorem colon_struct {n : Nat} {c : UInt8} (hn : f.next = 4) (hb : blank c.toNat = false) : structure_ { f with n := n } c = if c == 58 then { f with n := n, next := 0 } else wrong { f with n := n } (n - 1 : Nat) 9 := by
  unfold structure_
  rw [if_neg (by rw [hb]; decide)]
  simp only
  rw [if_neg (by simp [hn]), if_neg (by simp [hn]), if_neg (by simp [hn])]
  by_cases h : c = 58
  · rw [if_pos (by simp [hn, h]), if_pos (by simp [h])]
  · rw [if_neg (by simp [h]), if_neg (by simp [hn]), if_neg (by simp [h])]
/-- A fault at some place behind bytes that were read. -/
theorem fault_at {y : R6.St} {g : Feed} {a e : Int} (he : e ≠ 0) (ht : y.r.taken = g.n) (hend : y.r.ended = false) (hfr : y.r.frames = g.stack.length) (r : Bytes) :
    obs (write (wrong g a e) r) = told (R6.fault y a e).r := by
  rw [obs_wrong _ _ _ he]
  unfold told R6.fault R5.fault
  simp only [hend, ht, hfr]
  rfl
/-- A name, what names it, and its value. -/
theorem member_sim {d me : Nat} {names : List Bytes} {st0 : List Fm} {Q : List Nat} {rc : R6.St → Nat → Option Nat × R6.St} (hrc : VSim s lim d rc) (h : NIn s lim d me x p f names st0 Q) :
    match R6.member s lim rc x p names with
    | (none, y) => obs (write f (s.drop p)) = told y.r
    | (some (b, q), y) => p < q ∧ RAt s lim q y ∧ y.r.taken = q ∧ y.r.frames = x.r.frames ∧ Ext x.out y.out ∧ (y.out.length : Int) ≤ lim.i ∧
        ∃ g a1, At s lim q g ∧ g.now = .none ∧ g.stack = ⟨me, a1, names ++ [b]⟩ :: st0 ∧ g.next = 5 ∧ g.out = bl Q (bump y.out me 2) ∧ obs (write f (s.drop p)) = obs (write g (s.drop q)) := by
  obtain ⟨hw, h1, h2⟩ := peek_want h.r h.tk
  obtain ⟨a0, hsk⟩ := h.sk
  have hobj : object f = true := obj_true hsk h.out h.kd
  have hsw := struct_write h.a h.r h.tk h.now
  have hns := name_struct (f := f) (n := p + 1) (c := s.getD p 0) (by
    rcases h.nx with e | ⟨e, hc⟩
    · exact .inl e
    · exact .inr ⟨e, fun w => hc (by unfold R6.at_; rw [w]; rfl)⟩) h.nb hobj
  rw [hns] at hsw
  unfold R6.member R6.is
  rw [hw]
  simp only
  by_cases c1 : at_ s p = 34
  · rw [if_pos (show (at_ s p == 34) = true by simpa using c1)]
    rw [at_byte (k := 34) c1, if_pos (by decide)] at hsw
    simp only
    have hol : f.out.length = x.out.length := by rw [h.out, bl_len]
    by_cases hl : lim.i ≤ x.out.length
    · rw [if_pos hl]
      have hfull : one { f with n := p + 1 } ⟨4, 0, []⟩ = (false, wrong { f with n := p + 1 } (p + 1 - 1 : Nat) 10) := by
        unfold one
        rw [if_pos (by
          show ((f.out.length : Int) == f.lim.i) = true
          rw [hol, h.a.fl]
          have := h.oi
          simp
          omega)]
      rw [hfull] at hsw
      simp only
      rw [hsw]
      exact peek_fault (by decide) h.r h.tk h.fr _
    · rw [if_neg hl]
      obtain ⟨R, hR⟩ : ∃ R, R = me :: Q := ⟨_, rfl⟩
      have hRix : ∀ i ∈ R, i < x.out.length := by
        intro i hi
        rw [hR] at hi
        rcases List.mem_cons.1 hi with e | e
        · rw [e]; exact h.ml
        · exact h.ix i e
      obtain ⟨f1, hf1⟩ : ∃ f1 : Feed, f1 = { f with n := p + 1, out := bl R (x.out ++ [⟨4, 0, []⟩]), stack := ⟨me, p, names⟩ :: st0, now := .str txt0, next := 2 } := ⟨_, rfl⟩
      have hone : one { f with n := p + 1 } ⟨4, 0, []⟩ = (true, { f with n := p + 1, out := bl R (x.out ++ [⟨4, 0, []⟩]) }) := by
        rw [bl_app _ _ _ hRix, hR]
        unfold one
        rw [if_neg (by
          show ¬ ((f.out.length : Int) == f.lim.i) = true
          rw [hol, h.a.fl]
          simp
          omega)]
        simp only [hsk, h.out]
        rfl
      have hwr : write f (s.drop p) = write f1 (s.drop (p + 1)) := by
        rw [hsw, hone, hf1]
        simp only [hsk]
        rfl
      have hf1a : At s lim (p + 1) f1 := by rw [hf1]; exact h.a.on h1 h2 rfl (by rw [h.a.n]) rfl
      have hfl1 : f1.stack.length = f.stack.length := by rw [hf1, hsk]; rfl
      have hx1 : RAt s lim (p + 1) x := peek_next h.r h.tk
      have kk := text_sim (s := s) (lim := lim) (s.length + 1 - p) (p + 1) x f1 txt0 (by omega) hf1a hx1 (by rw [hfl1]; exact h.fr) (by rw [hf1]) rfl rfl
      rw [show txt0.out = [] from rfl] at kk
      unfold R6.text
      rw [hwr]
      cases hs : R6.textN s lim (s.length + 1 - p) x (p + 1) [] with
      | mk o z =>
        rw [hs] at kk
        cases o with
        | none => exact kk
        | some v =>
          obtain ⟨b, q⟩ := v
          obtain ⟨k1, k2, k3, t', k4, k5⟩ := kk
          simp only
          have hfin : finish { f1 with n := q, now := .str t' } = if names.contains b then wrong { f1 with n := q, now := .none, out := bl R (x.out ++ [⟨4, 0, b⟩]) } p 9 else { f1 with n := q, now := .none, out := bl R (x.out ++ [⟨4, 0, b⟩]), stack := ⟨me, p, names ++ [b]⟩ :: st0, next := 4 } := by
            unfold finish
            simp only [hf1]
            rw [setText_bl _ _ _ _ hRix, k4, if_pos (by decide)]
          rw [hfin] at k5
          have hzf : z.r.frames = f.stack.length := k2.fr.trans h.fr
          by_cases hcon : names.contains b = true
          · rw [if_pos hcon]
            rw [if_pos hcon] at k5
            simp only
            rw [k5]
            exact fault_at (g := { f1 with n := q, now := .none, out := bl R (x.out ++ [⟨4, 0, b⟩]) }) (by decide) k2.tk k2.r.ended (by rw [hzf]; exact hfl1.symm) _
          · rw [if_neg hcon]
            rw [if_neg hcon] at k5
            obtain ⟨f2, hf2⟩ : ∃ f2 : Feed, f2 = { f1 with n := q, now := .none, out := bl R (x.out ++ [⟨4, 0, b⟩]), stack := ⟨me, p, names ++ [b]⟩ :: st0, next := 4 } := ⟨_, rfl⟩
            rw [← hf2] at k5
            obtain ⟨z1, hz1⟩ : ∃ z1 : R6.St, z1 = { z with out := z.out ++ [⟨4, 0, b⟩] } := ⟨_, rfl⟩
            have hz1o : z1.out = x.out ++ [⟨4, 0, b⟩] := by rw [hz1, k2.out]
            have hz1r : RAt s lim q z1 := by rw [hz1]; exact ⟨k2.r.lo, k2.r.hi, k2.r.pk, k2.r.err, k2.r.place, k2.r.ended⟩
            have hf2l : f2.stack.length = f.stack.length := by rw [hf2, hsk]; rfl
            have hz1f : z1.r.frames = f2.stack.length := by rw [hz1, hf2l]; exact hzf
            have hf2a : At s lim q f2 := by rw [hf2]; exact ⟨k3.fl, rfl, k3.ps, k3.pb, k3.err⟩
            have hps := pass_sim (s := s) (lim := lim) (s.length + 1 - q) q z1 f2 (by have := k3.ps; omega) hf2a hz1r hz1f (by rw [hf2]) (by rw [hf2]; show (4 : Nat) ≠ 6; decide)
            rw [k5, ← hz1]
            unfold R6.pass
            cases hp : R6.passN s lim (s.length + 1 - q) z1 q with
            | mk o u =>
              rw [hp] at hps
              cases o with
              | none => exact hps
              | some q1 =>
                obtain ⟨i1, i2, i3, i4, i5, i6, i7⟩ := hps
                have htu : u.r.taken = q1 + 1 := by rw [i5]
                have hur : RAt s lim q1 u := ⟨by omega, by omega, fun _ => ⟨i2, i3⟩, by rw [i5]; exact hz1r.err, by rw [i5]; exact hz1r.place, by rw [i5]; exact hz1r.ended⟩
                have huf : u.r.frames = f2.stack.length := by rw [i5]; exact hz1f
                have huo : u.out = x.out ++ [⟨4, 0, b⟩] := by rw [i5]; exact hz1o
                obtain ⟨hwu, _, _⟩ := peek_want hur htu
                have hsw2 := struct_write (f := { f2 with n := q1 }) i6 hur htu (by rw [hf2])
                have e2 : structure_ { f2 with n := q1 + 1 } (s.getD q1 0) = _ := colon_struct (f := f2) (n := q1 + 1) (c := s.getD q1 0) (by rw [hf2]) i4
                have hsw2 : write { f2 with n := q1 } (s.drop q1) = write (structure_ { f2 with n := q1 + 1 } (s.getD q1 0)) (s.drop (q1 + 1)) := hsw2
                rw [e2] at hsw2
                simp only
                rw [hwu, i7]
                simp only
                by_cases c2 : at_ s q1 = 58
                · rw [if_pos (show (at_ s q1 == 58) = true by simpa using c2)]
                  rw [at_byte (k := 58) c2, if_pos (by decide)] at hsw2
                  obtain ⟨f3, hf3⟩ : ∃ f3 : Feed, f3 = { f2 with n := q1 + 1, next := 0 } := ⟨_, rfl⟩
                  rw [← hf3] at hsw2
                  have hf3a : At s lim (q1 + 1) f3 := by rw [hf3]; exact ⟨i6.fl, rfl, i2, by show ((q1 + 1 : Nat) : Int) ≤ lim.b; omega, i6.err⟩
                  have hur1 : RAt s lim (q1 + 1) u := peek_next hur htu
                  have hf3l : f3.stack.length = f2.stack.length := by rw [hf3]
                  have hps2 := pass_sim (s := s) (lim := lim) (s.length + 1 - (q1 + 1)) (q1 + 1) u f3 (by omega) hf3a hur1 (by rw [hf3l]; exact huf) (by rw [hf3, hf2]) (by rw [hf3]; show (0 : Nat) ≠ 6; decide)
                  simp only
                  rw [hsw2]
                  cases hp2 : R6.passN s lim (s.length + 1 - (q1 + 1)) u (q1 + 1) with
                  | mk o w =>
                    rw [hp2] at hps2
                    cases o with
                    | none => exact hps2
                    | some q2 =>
                      obtain ⟨j1, j2, j3, j4, j5, j6, j7⟩ := hps2
                      have hwo : w.out = x.out ++ [⟨4, 0, b⟩] := by rw [j5]; exact huo
                      have hwl : w.out.length = x.out.length + 1 := by rw [hwo, List.length_append]; rfl
                      have hwf : w.r.frames = f3.stack.length := by rw [j5, hf3l]; exact huf
                      have hf3s : f3.stack = ⟨me, p, names ++ [b]⟩ :: st0 := by rw [hf3, hf2]
                      have hin : VIn s lim d w q2 { f3 with n := q2 } R := by
                        refine ⟨j6, ⟨by rw [j5]; exact Nat.le_succ _, by rw [j5]; exact Nat.le_refl _, fun _ => ⟨j2, j3⟩, by rw [j5]; exact hur1.err, by rw [j5]; exact hur1.place, by rw [j5]; exact hur1.ended⟩, by rw [j5], j4, hwf, by rw [hf3, hf2], .inl (by rw [hf3]), ?_, ?_, ?_, ?_, ?_⟩
                        · show f3.out = bl R w.out; rw [hwo, hf3, hf2]
                        · intro i hi; have := hRix i hi; omega
                        · intro c hc
                          have hc : f3.stack.head? = some c := hc
                          rw [hf3s] at hc
                          simp only [List.head?_cons, Option.some.injEq] at hc
                          rw [← hc]
                          show me < w.out.length
                          have := h.ml
                          omega
                        · show ((f3.stack.length + d : Nat) : Int) = lim.d
                          rw [hf3l, hf2l]
                          exact h.dep
                        · have := h.oi; omega
                      have hv := hrc w q2 { f3 with n := q2 } R hin
                      simp only
                      rw [j7]
                      cases hr : rc w q2 with
                      | mk o v =>
                        rw [hr] at hv
                        cases o with
                        | none => exact hv
                        | some q3 =>
                          obtain ⟨g, hg⟩ := hv
                          have hlt := hg.lt
                          refine ⟨by omega, hg.r, hg.tk, ?_, ?_, hg.oi, g, p, hg.a, hg.now, ?_, ?_, ?_, ?_⟩
                          · rw [hg.fr, hwf, hf3l, hf2l, h.fr]
                          · have e := hg.ext
                            rw [hwo] at e
                            exact (Ext.snoc _ _).trans e
                          · rw [hg.st]; exact hf3s
                          · rw [hg.nx]
                            show (if f3.stack.isEmpty then 6 else 5) = 5
                            rw [hf3s]
                            rfl
                          · rw [hg.out]
                            show bl (hold f3.stack R) v.out = _
                            rw [hf3s, hR, bl_bump, ← bump_two]
                            rfl
                          · exact hg.ob
                · rw [if_neg (show ¬ (at_ s q1 == 58) = true by simpa using c2)]
                  rw [if_neg (byte_ne (k := 58) c2)] at hsw2
                  simp only
                  rw [hsw2]
                  exact fault_sim (e := 9) (p := q1) (g := { f2 with n := q1 + 1 }) (by decide) rfl htu hur.ended huf _
  · rw [if_neg (show ¬ (at_ s p == 34) = true by simpa using c1)]
    rw [if_neg (byte_ne (k := 34) c1)] at hsw
    simp only
    rw [hsw]
    exact peek_fault (by decide) h.r h.tk h.fr _
end Go.Px.J6

/-! The feed of layer 19 tells what the reference's reader of layer 16 tells (plain law). No program is named here. -/
namespace Go.Px.J6
open R6 (at_ blank numNext numEnd setText setKind bump)
variable {s : Bytes} {lim : Lim} {p : Nat} {f : Feed} {x y : R6.St}
theorem object_loop {d me : Nat} {Q : List Nat} {st : List Fm} {rc : R6.St → Nat → Option Nat × R6.St} (hrc : VSim s lim d rc) : ∀ (m p : Nat) (x : R6.St) (f : Feed) (names : List Bytes), s.length + 1 ≤ m + p → NIn s lim d me x p f names st Q →
    match R6.objectN s lim rc me m x p names with
    | (none, y) => obs (write f (s.drop p)) = told y.r
    | (some q, y) => ∃ g, COut s lim x y p q f st Q g := by
  intro m
  induction m with
  | zero => intro p x f names hm h; have := h.a.ps; have := (h.r.pk h.tk).1; omega
  | succ m ih =>
    intro p x f names hm h
    unfold R6.objectN
    have hv := member_sim hrc h
    cases hr : R6.member s lim rc x p names with
    | mk o y =>
      rw [hr] at hv
      cases o with
      | none => exact hv
      | some v =>
        obtain ⟨b, q⟩ := v
        obtain ⟨g0, g1, g2, g3, g4, g5, g, a1, g6, g7, g8, g9, g10, g11⟩ := hv
        obtain ⟨a0, hsk⟩ := h.sk
        have hxf : x.r.frames = g.stack.length := by rw [h.fr, hsk, g8]; rfl
        have hyl : me < y.out.length := Nat.lt_of_lt_of_le h.ml g4.1
        have hyk : (y.out.getD me v0).kind = 6 := (g4.2 me h.ml).trans h.kd
        have hob : object g = true := by
          rw [object_eq g8, g10, bl_kind, bump_kind, hyk]
          rfl
        obtain ⟨y1, hy1⟩ : ∃ y1 : R6.St, y1 = { y with out := bump y.out me 2 } := ⟨_, rfl⟩
        have hy1r : RAt s lim q y1 := by rw [hy1]; exact ⟨g1.lo, g1.hi, g1.pk, g1.err, g1.place, g1.ended⟩
        have hfr1 : y1.r.frames = g.stack.length := by rw [hy1]; show y.r.frames = _; rw [g3]; exact hxf
        have hps := pass_sim (s := s) (lim := lim) (s.length + 1 - q) q y1 g (by have := g6.ps; omega) g6 hy1r hfr1 g7 (by omega)
        simp only
        rw [← hy1]
        unfold R6.pass
        cases hp : R6.passN s lim (s.length + 1 - q) y1 q with
        | mk o z =>
          rw [hp] at hps
          cases o with
          | none => exact g11.trans hps
          | some q1 =>
            obtain ⟨i1, i2, i3, i4, i5, i6, i7⟩ := hps
            have htz : z.r.taken = q1 + 1 := by rw [i5]
            have hzr : RAt s lim q1 z := ⟨by omega, by omega, fun _ => ⟨i2, i3⟩, by rw [i5]; exact hy1r.err, by rw [i5]; exact hy1r.place, by rw [i5]; exact hy1r.ended⟩
            have hzo : z.out = bump y.out me 2 := by rw [i5, hy1]
            have hzf : z.r.frames = g.stack.length := by rw [i5]; exact hfr1
            have hext : Ext x.out z.out := by rw [hzo]; exact g4.trans (Ext.bump _ _ _)
            have hoi : (z.out.length : Int) ≤ lim.i := by rw [hzo, vbump_len]; exact g5
            have hsw := struct_write (f := { g with n := q1 }) i6 hzr htz g7
            have hsw : write { g with n := q1 } (s.drop q1) = write (structure_ { g with n := q1 + 1 } (s.getD q1 0)) (s.drop (q1 + 1)) := hsw
            simp only
            by_cases c1 : at_ s q1 = 125
            · rw [if_pos (by simpa using c1)]
              have e1 : structure_ { g with n := q1 + 1 } (s.getD q1 0) = { g with n := q1 + 1, stack := st, next := if st.isEmpty then 6 else 5 } :=
                close_struct g8 i4 (by rw [hob]; exact at_byte (k := 125) c1) (.inr (.inr g9))
              refine ⟨{ g with n := q1 + 1, stack := st, next := if st.isEmpty then 6 else 5 }, by omega, frame_next hzr htz, htz, ?_, hext, hoi, ⟨i6.fl, rfl, i2, by show ((q1 + 1 : Nat) : Int) ≤ lim.b; omega, i6.err⟩, g7, rfl, rfl, ?_, ?_⟩
              · show ((z.r.frames : Int) + -1).toNat = x.r.frames - 1
                rw [hzf, hxf]
                omega
              · show g.out = bl Q z.out
                rw [g10, hzo]
              · rw [g11, i7, hsw, e1]
            · rw [if_neg (by simpa using c1)]
              by_cases c2 : at_ s q1 = 44
              · rw [if_neg (by simp [c2])]
                have e1 : structure_ { g with n := q1 + 1 } (s.getD q1 0) = { g with n := q1 + 1, next := 2 } := by
                  rw [at_byte (k := 44) c2, comma_struct g9, hob]
                  rfl
                obtain ⟨g', hg'⟩ : ∃ g' : Feed, g' = { g with n := q1 + 1, next := 2 } := ⟨_, rfl⟩
                have hwr : obs (write f (s.drop p)) = obs (write g' (s.drop (q1 + 1))) := by
                  rw [g11, i7, hsw, e1, hg']
                have hz2 : RAt s lim (q1 + 1) z := peek_next hzr htz
                have hg2a : At s lim (q1 + 1) g' := by rw [hg']; exact ⟨i6.fl, rfl, i2, by show ((q1 + 1 : Nat) : Int) ≤ lim.b; omega, i6.err⟩
                have hps2 := pass_sim (s := s) (lim := lim) (s.length + 1 - (q1 + 1)) (q1 + 1) z g' (by omega) hg2a hz2 (by rw [hg']; exact hzf) (by rw [hg']; exact g7) (by rw [hg']; show (2 : Nat) ≠ 6; decide)
                cases hp2 : R6.passN s lim (s.length + 1 - (q1 + 1)) z (q1 + 1) with
                | mk o u =>
                  rw [hp2] at hps2
                  cases o with
                  | none => exact hwr.trans hps2
                  | some q2 =>
                    obtain ⟨j1, j2, j3, j4, j5, j6, j7⟩ := hps2
                    have hu : NIn s lim d me u q2 { g' with n := q2 } (names ++ [b]) st Q := by
                      refine ⟨j6, ⟨by rw [j5]; exact Nat.le_succ _, by rw [j5]; exact Nat.le_refl _, fun _ => ⟨j2, j3⟩, by rw [j5]; exact hz2.err, by rw [j5]; exact hz2.place, by rw [j5]; exact hz2.ended⟩, by rw [j5], j4, ?_, by rw [hg']; exact g7, .inl (by rw [hg']), ⟨a1, by rw [hg']; exact g8⟩, ?_, ?_, ?_, ?_, ?_, by rw [j5]; exact hoi⟩
                      · rw [j5, hg']; exact hzf
                      · rw [j5, hg']; show g.out = bl Q z.out; rw [g10, hzo]
                      · intro i hi; rw [j5]; exact Nat.lt_of_lt_of_le (h.ix i hi) hext.1
                      · rw [j5]; exact Nat.lt_of_lt_of_le h.ml hext.1
                      · rw [j5]; exact (hext.2 me h.ml).trans h.kd
                      · rw [hg']; show ((g.stack.length + d : Nat) : Int) = lim.d; rw [← hxf, h.fr]; exact h.dep
                    have hi := ih q2 u { g' with n := q2 } (names ++ [b]) (by omega) hu
                    simp only
                    cases hl2 : R6.objectN s lim rc me m u q2 (names ++ [b]) with
                    | mk o v =>
                      rw [hl2] at hi
                      cases o with
                      | none => exact hwr.trans ((congrArg obs j7).trans hi)
                      | some q3 =>
                        obtain ⟨g3', hg3⟩ := hi
                        refine ⟨g3', by have := hg3.lt; omega, hg3.r, hg3.tk, ?_, ?_, hg3.oi, hg3.a, hg3.now, hg3.st, hg3.nx, hg3.out, hwr.trans ((congrArg obs j7).trans hg3.ob)⟩
                        · rw [hg3.fr, j5]
                          show z.r.frames - 1 = _
                          rw [hzf, hxf]
                        · have := hg3.ext
                          rw [j5] at this
                          exact hext.trans this
              · rw [if_pos (by simpa using c2)]
                have e1 : structure_ { g with n := q1 + 1 } (s.getD q1 0) = wrong { g with n := q1 + 1 } (q1 + 1 - 1 : Nat) 9 :=
                  behind_bad g9 i4 (by rw [hob]; exact fun e => c1 (by unfold R6.at_; rw [e]; rfl)) (fun e => c2 (by unfold R6.at_; rw [e]; rfl))
                rw [g11, i7, hsw, e1]
                exact fault_sim (e := 9) (p := q1) (g := { g with n := q1 + 1 }) (by decide) rfl htz hzr.ended hzf _
/-- A whole object, its first sign looked at. -/
theorem object_val {d : Nat} {P : List Nat} {rc : R6.St → Nat → Option Nat × R6.St} (hrc : VSim s lim d rc) (h : VIn s lim (d + 1) x p f P) (hl : ¬ (x.out.length : Int) = lim.i) (hc : at_ s p = 123) :
    match R6.object s lim rc x.out.length { x with out := x.out ++ [⟨6, 0, []⟩] } (p + 1) with
    | (none, y) => obs (write f (s.drop p)) = told y.r
    | (some q, y) => ∃ g, VOut s lim x y p q f P g := by
  obtain ⟨hw, h1, h2⟩ := peek_want h.r h.tk
  obtain ⟨Q, hQ⟩ : ∃ Q, Q = hold f.stack P := ⟨_, rfl⟩
  obtain ⟨f1, hf1⟩ : ∃ f1 : Feed, f1 = { f with n := p + 1, out := bl Q (x.out ++ [⟨6, 0, []⟩]), now := .none, stack := ⟨x.out.length, 0, []⟩ :: f.stack, next := 3 } := ⟨_, rfl⟩
  have hwr : write f (s.drop p) = write f1 (s.drop (p + 1)) := by
    rw [vin_write h, at_byte (k := 123) hc, hf1, hQ]
    have hv : value { f with n := p + 1 } 123 = valueOn { f with n := p + 1 } 123 ⟨6, 0, []⟩ .none := rfl
    rw [hv, open_ok h hl]
    rfl
  obtain ⟨x1, hx1⟩ : ∃ x1 : R6.St, x1 = R6.frame { x with out := x.out ++ [⟨6, 0, []⟩] } 1 := ⟨_, rfl⟩
  have hx1r : RAt s lim (p + 1) x1 := by
    have := peek_next h.r h.tk
    rw [hx1]
    exact ⟨this.lo, this.hi, this.pk, this.err, this.place, this.ended⟩
  have hx1f : x1.r.frames = f1.stack.length := by
    rw [hx1, hf1]
    show ((x.r.frames : Int) + 1).toNat = f.stack.length + 1
    rw [h.fr]
    omega
  have hx1o : x1.out = x.out ++ [⟨6, 0, []⟩] := by rw [hx1]; rfl
  have hf1a : At s lim (p + 1) f1 := by rw [hf1]; exact h.a.on h1 h2 rfl (by rw [h.a.n]) rfl
  have hQix : ∀ i ∈ Q, i < x.out.length := by rw [hQ]; exact hold_ix h
  have hk1 : (x1.out.getD x.out.length v0).kind = 6 := by
    rw [hx1o]
    simp [List.getD_eq_getElem?_getD]
  have hext1 : Ext x.out x1.out := by rw [hx1o]; exact Ext.snoc _ _
  have hl1 : x1.out.length = x.out.length + 1 := by rw [hx1o, List.length_append]; rfl
  have hoi1 : (x1.out.length : Int) ≤ lim.i := by have := h.oi; rw [hl1]; omega
  have hf1o : f1.out = bl Q x1.out := by rw [hx1o, hf1]
  have hob : object f1 = true := by
    rw [object_eq (f := f1) (a := ⟨x.out.length, 0, []⟩) (st := f.stack) (by rw [hf1]), hf1o, bl_kind, hk1]
    rfl
  have hps := pass_sim (s := s) (lim := lim) (s.length + 1 - (p + 1)) (p + 1) x1 f1 (by omega) hf1a hx1r hx1f (by rw [hf1]) (by rw [hf1]; show (3 : Nat) ≠ 6; decide)
  unfold R6.object R6.pass
  rw [← hx1, hwr]
  cases hp : R6.passN s lim (s.length + 1 - (p + 1)) x1 (p + 1) with
  | mk o z =>
    rw [hp] at hps
    cases o with
    | none => exact hps
    | some q =>
      obtain ⟨i1, i2, i3, i4, i5, i6, i7⟩ := hps
      have htz : z.r.taken = q + 1 := by rw [i5]
      have hzr : RAt s lim q z := ⟨by omega, by omega, fun _ => ⟨i2, i3⟩, by rw [i5]; exact hx1r.err, by rw [i5]; exact hx1r.place, by rw [i5]; exact hx1r.ended⟩
      have hzf : z.r.frames = f1.stack.length := by rw [i5]; exact hx1f
      have hzo : z.out = x1.out := by rw [i5]
      have hf1l : f1.stack.length = f.stack.length + 1 := by rw [hf1]; rfl
      have hsw := struct_write (f := { f1 with n := q }) i6 hzr htz (by rw [hf1])
      have hsw : write { f1 with n := q } (s.drop q) = write (structure_ { f1 with n := q + 1 } (s.getD q 0)) (s.drop (q + 1)) := hsw
      simp only
      by_cases c1 : at_ s q = 125
      · rw [if_pos (by simpa using c1)]
        have e1 : structure_ { f1 with n := q + 1 } (s.getD q 0) = { f1 with n := q + 1, stack := f.stack, next := if f.stack.isEmpty then 6 else 5 } :=
          close_struct (a := ⟨x.out.length, 0, []⟩) (by rw [hf1]) i4 (by rw [hob]; exact at_byte (k := 125) c1) (.inr (.inl (by rw [hf1])))
        refine ⟨{ f1 with n := q + 1, stack := f.stack, next := if f.stack.isEmpty then 6 else 5 }, by omega, frame_next hzr htz, htz, ?_, ?_, ?_, ⟨i6.fl, rfl, i2, by show ((q + 1 : Nat) : Int) ≤ lim.b; omega, i6.err⟩, by rw [hf1], rfl, rfl, ?_, ?_⟩
        · show ((z.r.frames : Int) + -1).toNat = x.r.frames
          rw [hzf, hf1l, h.fr]
          omega
        · show Ext x.out z.out; rw [hzo]; exact hext1
        · show (z.out.length : Int) ≤ _; rw [hzo]; exact hoi1
        · show f1.out = bl (hold f.stack P) z.out
          rw [hzo, hf1o, hQ]
        · rw [hwr, i7, hsw, e1]
      · rw [if_neg (by simpa using c1)]
        have hu : NIn s lim d x.out.length z q { f1 with n := q } [] f.stack Q := by
          refine ⟨i6, hzr, htz, i4, hzf, by rw [hf1], .inr ⟨by rw [hf1], c1⟩, ⟨0, by rw [hf1]⟩, ?_, ?_, by rw [hzo]; omega, by rw [hzo]; exact hk1, ?_, by rw [hzo]; exact hoi1⟩
          · show f1.out = bl Q z.out; rw [hzo]; exact hf1o
          · intro i hi; rw [hzo]; have := hQix i hi; omega
          · show ((f1.stack.length + d : Nat) : Int) = lim.d
            have := h.dep
            rw [hf1l]
            omega
        have hi := object_loop (st := f.stack) (me := x.out.length) hrc (s.length + 1 - q) q z { f1 with n := q } [] (by omega) hu
        rw [i7]
        cases hl2 : R6.objectN s lim rc x.out.length (s.length + 1 - q) z q [] with
        | mk o v =>
          rw [hl2] at hi
          cases o with
          | none => exact hi
          | some q3 =>
            obtain ⟨g3, hg3⟩ := hi
            refine ⟨g3, by have := hg3.lt; omega, hg3.r, hg3.tk, ?_, ?_, hg3.oi, hg3.a, hg3.now, hg3.st, hg3.nx, ?_, ?_⟩
            · rw [hg3.fr, hzf, hf1l, h.fr]
              rfl
            · have e := hg3.ext
              rw [hzo] at e
              exact hext1.trans e
            · rw [hg3.out, hQ]
            · rw [hwr, i7]; exact hg3.ob
/-- Any value. -/
theorem value_sim (hb : 0 ≤ lim.b) : ∀ d, VSim s lim d (R6.value s lim d) := by
  intro d
  induction d with
  | zero =>
    intro x p f P h
    obtain ⟨hw, h1, h2⟩ := peek_want h.r h.tk
    unfold R6.value
    rw [hw]
    simp only
    by_cases hf : R6.firsts (at_ s p) = true
    · rw [if_neg (by rw [hf]; decide)]
      by_cases hl : lim.i ≤ x.out.length
      · rw [if_pos (by simp [hl])]
        have := h.oi
        exact plain_full h (by omega) hf
      · by_cases hc : at_ s p = 123 ∨ at_ s p = 91
        · rw [if_pos (by simp [hc])]
          simp only
          rw [vin_write h]
          rcases hc with hc | hc
          · rw [at_byte (k := 123) hc, show value { f with n := p + 1 } 123 = valueOn { f with n := p + 1 } 123 ⟨6, 0, []⟩ .none from rfl, open_deep h]
            exact peek_fault (by decide) h.r h.tk h.fr _
          · rw [at_byte (k := 91) hc, show value { f with n := p + 1 } 91 = valueOn { f with n := p + 1 } 91 ⟨5, 0, []⟩ .none from rfl, open_deep h]
            exact peek_fault (by decide) h.r h.tk h.fr _
        · rw [if_neg (by simp only [Bool.or_eq_true, decide_eq_true_eq, beq_iff_eq]; rintro (w | w); exact hl w; exact hc w)]
          exact plain_val hb h (by omega) hf (fun e => hc (.inl e)) (fun e => hc (.inr e))
    · rw [if_pos (by simpa using hf)]
      exact plain_bad h (by simpa using hf)
  | succ d ih =>
    intro x p f P h
    obtain ⟨hw, h1, h2⟩ := peek_want h.r h.tk
    unfold R6.value
    rw [hw]
    simp only
    by_cases hf : R6.firsts (at_ s p) = true
    · rw [if_neg (by rw [hf]; decide)]
      by_cases hl : lim.i ≤ x.out.length
      · rw [if_pos hl]
        have := h.oi
        exact plain_full h (by omega) hf
      · rw [if_neg hl]
        have hl' : ¬ (x.out.length : Int) = lim.i := by omega
        by_cases hc : at_ s p = 123
        · rw [if_pos (by simpa using hc), setKind_last]
          exact object_val ih h hl' hc
        · rw [if_neg (by simpa using hc)]
          by_cases hc2 : at_ s p = 91
          · rw [if_pos (by simpa using hc2), setKind_last]
            exact array_val ih h hl' hc2
          · rw [if_neg (by simpa using hc2)]
            exact plain_val hb h hl' hf hc hc2
    · rw [if_pos (by simpa using hf)]
      exact plain_bad h (by simpa using hf)
theorem may_of {lim : Lim} (hm : lim.may = true) : 1 ≤ lim.d ∧ lim.d ≤ 32 ∧ 1 ≤ lim.i ∧ lim.i ≤ 4096 ∧ 1 ≤ lim.b ∧ lim.b ≤ 262144 := by
  unfold Lim.may at hm
  simp only [Bool.and_eq_true, decide_eq_true_eq] at hm
  omega
end Go.Px.J6
