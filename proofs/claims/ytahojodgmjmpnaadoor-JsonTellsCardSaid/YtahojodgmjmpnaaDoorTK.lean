/-
  Several texts in one: Package json's numeral is the reference's Number (plain law). No program is named here. The reference's Encode of package json as plain functions on plain data. No program is named here. Package json's shape is the reference's Behind, and no name twice (plain law). No program is named here. Lists of values that are one value: rows, their text, and whether a name stands twice (plain law). No program is named here. One value in a list: the reference's Behind goes over it, twice sees its names (plain law). No program is named here. The program's Encode of package json is the reference's (plain law). No program is named here. What is told is read: words, numbers, strings (plain law). No program is named here. What is told is read: strings (plain law). No program is named here. What is told is read: one value, by the program's reader (plain law). No program is named here. What is told is read: arrays, objects (plain law). No program is named here. What is told is read: the list that it was (plain law: JsonBack). No program is named here. Valid strings, joined (plain law). No program is named here. A string that is read is valid, and not longer than what was read (plain law). No program is named here. What is read is right: the leaves (plain law, towards JsonNormal). No program is named here.
-/
import Derived.Test.YtahojodgmjmpnaaDoorTM
import Derived.Test.YtahojodgmjmpnaaDoorTG
import Derived.Test.YtahojodgmjmpnaaDoorUtfP
/-! Package json's numeral is the reference's Number (plain law). No program is named here. -/
namespace Go.Px.E6
open R6 (digit numNext numEnd numN)
/-- Whether all bytes go on with a number's text, and end it. -/
def whole (q : Nat) (s : Bytes) : Bool := (numN q s).2 && (numN q s).1 == s.length
theorem whole_cons (q : Nat) (c : UInt8) (r : Bytes) : whole q (c :: r) = match numNext q c.toNat with
    | none => false
    | some k => whole k r := by
  unfold whole
  rw [numN]
  cases numNext q c.toNat with
  | none => simp
  | some k =>
    simp only [List.length_cons]
    congr 1
    rw [Bool.eq_iff_iff, beq_iff_eq, beq_iff_eq]
    omega
theorem digit_lo {c : Nat} (h : digit c = true) : 48 ≤ c ∧ c ≤ 57 := by
  unfold digit at h
  simpa using h
theorem next8' (c : Nat) : numNext 8 c = if digit c then some 8 else none := by simp [numNext]
theorem next7' (c : Nat) : numNext 7 c = if digit c then some 8 else none := by simp [numNext]
theorem next6' (c : Nat) : numNext 6 c = if c == 43 || c == 45 then some 7 else if digit c then some 8 else none := by simp [numNext]
theorem next5' (c : Nat) : numNext 5 c = if digit c then some 5 else if c == 101 || c == 69 then some 6 else none := by simp [numNext]
theorem next4' (c : Nat) : numNext 4 c = if digit c then some 5 else none := by simp [numNext]
theorem next3' (c : Nat) : numNext 3 c = if digit c then some 3 else if c == 46 then some 4 else if c == 101 || c == 69 then some 6 else none := by simp [numNext]
theorem next2' (c : Nat) : numNext 2 c = if c == 46 then some 4 else if c == 101 || c == 69 then some 6 else none := by simp [numNext]
theorem next1' (c : Nat) : numNext 1 c = if c == 48 then some 2 else if digit c then some 3 else none := by simp [numNext]
theorem next0' (c : Nat) : numNext 0 c = if c == 45 then some 1 else numNext 1 c := by simp [numNext]
theorem run_yes {c : UInt8} {r : Bytes} (h : digit c.toNat = true) : run (c :: r) = run r + 1 := by rw [run, if_pos h]
theorem run_no {c : UInt8} {r : Bytes} (h : digit c.toNat = false) : run (c :: r) = 0 := by rw [run, if_neg (by rw [h]; decide)]
theorem run_le (s : Bytes) : run s ≤ s.length := by
  induction s with
  | nil => exact Nat.le_refl _
  | cons c r ih =>
    cases h : digit c.toNat with
    | true => rw [run_yes h, List.length_cons]; omega
    | false => rw [run_no h]; exact Nat.zero_le _
theorem whole8 (s : Bytes) : whole 8 s = (run s == s.length) := by
  induction s with
  | nil => rfl
  | cons c r ih =>
    rw [whole_cons, next8']
    cases h : digit c.toNat with
    | true =>
      rw [run_yes h, List.length_cons]
      simp only [if_true]
      rw [ih, Bool.eq_iff_iff, beq_iff_eq, beq_iff_eq]
      omega
    | false =>
      rw [run_no h, List.length_cons]
      simp
theorem whole7 (s : Bytes) : whole 7 s = all s := by
  unfold all
  cases s with
  | nil => rfl
  | cons c r =>
    rw [whole_cons, next7']
    cases h : digit c.toNat with
    | true =>
      rw [run_yes h, List.length_cons]
      simp only [if_true]
      rw [whole8, Bool.eq_iff_iff, Bool.and_eq_true, beq_iff_eq, beq_iff_eq, decide_eq_true_eq]
      omega
    | false => rw [run_no h]; rfl
theorem whole6 (s : Bytes) : whole 6 s = expo s := by
  cases s with
  | nil => rfl
  | cons c r =>
    rw [whole_cons, next6']
    unfold expo unsign
    simp only
    by_cases h : (c.toNat == 43 || c.toNat == 45) = true
    · rw [if_pos h, if_pos h]
      exact whole7 r
    · rw [if_neg h, if_neg h, ← whole7, whole_cons, next7']
theorem tail_digit {c : UInt8} {r : Bytes} (h : digit c.toNat = true) : tail (c :: r) = false := by
  have := digit_lo h
  unfold tail
  simp only
  rw [if_neg]
  simp
  omega
theorem whole5 (s : Bytes) : whole 5 s = tail (s.drop (run s)) := by
  induction s with
  | nil => rfl
  | cons c r ih =>
    rw [whole_cons, next5']
    cases h : digit c.toNat with
    | true =>
      rw [run_yes h, List.drop_succ_cons]
      exact ih
    | false =>
      rw [run_no h, List.drop_zero]
      unfold tail
      simp only
      by_cases he : (c.toNat == 101 || c.toNat == 69) = true
      · rw [if_pos he, if_neg (by decide), if_pos he]
        exact whole6 r
      · rw [if_neg he, if_neg (by decide), if_neg he]
theorem whole4 (s : Bytes) : whole 4 s = if run s == 0 then false else tail (s.drop (run s)) := by
  cases s with
  | nil => rfl
  | cons c r =>
    rw [whole_cons, next4']
    cases h : digit c.toNat with
    | true =>
      rw [run_yes h, List.drop_succ_cons, if_pos rfl, if_neg (by simp)]
      exact whole5 r
    | false => rw [run_no h]; rfl
theorem whole2 (s : Bytes) : whole 2 s = frac s := by
  cases s with
  | nil => rfl
  | cons c r =>
    rw [whole_cons, next2']
    unfold frac
    simp only
    by_cases hd : (c.toNat == 46) = true
    · rw [if_pos hd, if_pos hd]
      exact whole4 r
    · rw [if_neg hd, if_neg hd]
      unfold tail
      simp only
      by_cases he : (c.toNat == 101 || c.toNat == 69) = true
      · rw [if_pos he, if_pos he]
        exact whole6 r
      · rw [if_neg he, if_neg he]
theorem frac_digit {c : UInt8} {r : Bytes} (h : digit c.toNat = true) : frac (c :: r) = false := by
  have := digit_lo h
  unfold frac
  simp only
  rw [if_neg (by simp; omega)]
  exact tail_digit h
theorem whole3 (s : Bytes) : whole 3 s = frac (s.drop (run s)) := by
  induction s with
  | nil => rfl
  | cons c r ih =>
    rw [whole_cons, next3']
    cases h : digit c.toNat with
    | true =>
      rw [run_yes h, List.drop_succ_cons]
      exact ih
    | false =>
      rw [run_no h, List.drop_zero, ← whole2, whole_cons, next2']
      rfl
theorem whole1 (s : Bytes) : whole 1 s = unum s := by
  unfold unum
  cases s with
  | nil => rfl
  | cons c r =>
    rw [whole_cons, next1']
    have h0 : R6.at_ (c :: r) 0 = c.toNat := rfl
    rw [h0]
    by_cases hz : (c.toNat == 48) = true
    · have hd : digit c.toNat = true := by rw [eq_of_beq hz]; rfl
      rw [if_pos hz, run_yes hd, hz, List.drop_succ_cons]
      simp only
      rw [whole2]
      cases hr : run r with
      | zero => simp
      | succ n =>
        rw [if_pos (by simp)]
        cases r with
        | nil => cases hr
        | cons c2 r2 =>
          cases h2 : digit c2.toNat with
          | true => exact frac_digit h2
          | false => rw [run_no h2] at hr; cases hr
    · rw [if_neg hz]
      cases h : digit c.toNat with
      | true =>
        rw [run_yes h, List.drop_succ_cons, if_pos rfl, if_neg (by simp; intro _ e; exact hz (by simpa using e))]
        exact whole3 r
      | false => rw [run_no h]; rfl
/-- Package json's numeral: all bytes are a number's text, and a whole one. -/
theorem numeral_whole (s : Bytes) : numeral s = ((R6.number s).2 && (R6.number s).1 == s.length) := by
  show numeral s = whole 0 s
  cases s with
  | nil => rfl
  | cons c r =>
    rw [whole_cons, next0']
    unfold numeral unsigned
    simp only
    by_cases hm : (c.toNat == 45) = true
    · rw [if_pos hm, if_pos hm]
      exact (whole1 r).symm
    · rw [if_neg hm, if_neg hm, ← whole1, whole_cons]
end Go.Px.E6

/-! The reference's Encode of package json as plain functions on plain data. No program is named here. -/
namespace Go.Px.R6
/-- May a value be, but for its Kids' kinds? -/
def right (v : Val) : Bool :=
  if decide (v.kids < 0) || (decide (0 < v.kids) && v.kind != 5 && v.kind != 6) || (v.kind == 6 && v.kids.tmod 2 != 0) then false
  else if v.kind == 3 then (number v.text).2 && (number v.text).1 == v.text.length
  else if v.kind == 4 then Lib.validD v.text
  else if v.kind == 0 || v.kind == 1 || v.kind == 2 || v.kind == 5 || v.kind == 6 then v.text == []
  else false
/-- One that is begun: how many are left, how many all are, an object. -/
structure Bf where
  left : Nat
  all : Nat
  obj : Bool
def bad (v : Val) : List Bf → Bool
  | [] => false
  | b :: _ => b.obj && (b.all - b.left) % 2 == 0 && v.kind != 4
def less : List Bf → List Bf
  | [] => []
  | b :: r => { b with left := b.left - 1 } :: r
def opened (v : Val) (st : List Bf) : List Bf := if v.kind == 5 || v.kind == 6 then ⟨v.kids.toNat, v.kids.toNat, v.kind == 6⟩ :: st else st
def drop0 : List Bf → List Bf
  | [] => []
  | b :: r => if b.left = 0 then drop0 r else b :: r
def behN : List Val → List Bf → Nat → Nat → Option Nat × Nat
  | [], _, most, _ => (none, most)
  | v :: r, st, most, i =>
    if v.kids < 0 then (none, most)
    else if bad v st then (none, most)
    else match drop0 (opened v (less st)) with
      | [] => (some (i + 1), max most (opened v (less st)).length)
      | b :: q => behN r (b :: q) (max most (opened v (less st)).length) (i + 1)
/-- The place behind the value at a place; how many stand within one another. -/
def behind (l : List Val) (p : Nat) : Option Nat × Nat := behN (l.drop p) [] 0 p
def twN (l : List Val) : Nat → Nat → Nat → List Bytes → Bool
  | 0, _, _, _ => false
  | m + 1, i, next, names =>
    if i % 2 == 0 then
      (if names.contains (l.getD next ⟨0, 0, []⟩).text then true
       else twN l m (i + 1) ((behind l next).1.getD 0) (names ++ [(l.getD next ⟨0, 0, []⟩).text]))
    else twN l m (i + 1) ((behind l next).1.getD 0) names
/-- Has an object at a place a name twice? -/
def twice (l : List Val) (p : Nat) : Bool := twN l (l.getD p ⟨0, 0, []⟩).kids.toNat 0 (p + 1) []
/-- The value that stands at a place, told; the place behind it; too long. -/
structure Ts where
  at_ : Nat
  bad : Bool
  long : Bool
def sep (obj : Bool) (i : Nat) : Bytes := if obj && i % 2 == 1 then [58] else if 0 < i then [44] else []
def kidsT (rc : Ts → Bytes × Ts) (obj : Bool) : Nat → Nat → Ts → Bytes → Bytes × Ts
  | 0, _, x, out => (out, x)
  | m + 1, i, x, out =>
    if x.bad || x.long then (out, x)
    else
      kidsT rc obj m (i + 1) { (rc x).2 with long := (rc x).2.long || decide (262144 < (out ++ sep obj i ++ (rc x).1).length) } (out ++ sep obj i ++ (rc x).1)
def tell (l : List Val) : Nat → Ts → Bytes × Ts
  | 0, x => ([], x)
  | m + 1, x =>
    if l.length ≤ x.at_ ∨ x.bad = true then ([], { x with bad := true })
    else
      let v := l.getD x.at_ ⟨0, 0, []⟩
      if v.kind == 0 || v.kind == 1 || v.kind == 2 || v.kind == 3 || v.kind == 4 then (E6.body v, { x with at_ := x.at_ + 1 })
      else
        let k := kidsT (tell l m) (v.kind == 6) v.kids.toNat 0 { x with at_ := x.at_ + 1 } []
        ((if v.kind == 5 then 91 else 123) :: k.1 ++ [if v.kind == 5 then 93 else 125], k.2)
def total : List Val → Nat
  | [] => 0
  | v :: r => v.text.length + total r
def encode (l : List Val) : Bytes × Int :=
  if 4096 < l.length then ([], 10)
  else if l.any (fun v => !right v) then ([], 9)
  else if (behind l 0).1 != some l.length || l.isEmpty then ([], 9)
  else if (List.range l.length).any (fun i => (l.getD i ⟨0, 0, []⟩).kind == 6 && twice l i) then ([], 9)
  else if 32 < (behind l 0).2 ∨ 262144 < total l then ([], 10)
  else
    let t := tell l (l.length + 1) ⟨0, false, false⟩
    if t.2.long || decide (262144 < t.1.length) then ([], 10) else (t.1, 0)
/-- What may be is the same. -/
theorem right_eq (v : Val) : right v = E6.right v := by
  unfold right E6.right
  rw [E6.numeral_whole]
  by_cases hneg : v.kids < 0
  · rw [if_pos (by simp [hneg])]
    have h0 : (v.kids == 0) = false := by simp; omega
    have h1 : decide (0 ≤ v.kids) = false := by simp; omega
    rw [h0, h1]
    simp
  · have h1 : decide (0 ≤ v.kids) = true := by simp; omega
    rw [h1]
    by_cases h5 : v.kind = 5
    · simp [h5, hneg]
    · by_cases h6 : v.kind = 6
      · simp only [h6, hneg]
        by_cases ht : v.kids.tmod 2 = 0 <;> simp [ht]
      · by_cases hp : 0 < v.kids
        · have h0 : (v.kids == 0) = false := by simp; omega
          rw [if_pos (by simp [hp, h5, h6]), h0]
          simp [h5, h6]
        · have h0 : v.kids = 0 := by omega
          simp [h0, h5, h6]
          split
          · rename_i h3
            simp [h3]
          · split
            · rename_i h4
              simp [h4]
            · rename_i h3 h4
              by_cases hk : (v.kind = 0 ∨ v.kind = 1) ∨ v.kind = 2
              · rw [if_pos hk]
                rcases hk with (e | e) | e <;> simp [e]
              · rw [if_neg hk]
                have a0 : ¬ v.kind = 0 := fun e => hk (.inl (.inl e))
                have a1 : ¬ v.kind = 1 := fun e => hk (.inl (.inr e))
                have a2 : ¬ v.kind = 2 := fun e => hk (.inr e)
                simp [a0, a1, a2, h4]
end Go.Px.R6

/-! Package json's shape is the reference's Behind, and no name twice (plain law). No program is named here. -/
namespace Go.Px.E6
open R6 (Bf bad less opened drop0 behN)
/-- The same one, in the program's words and in the reference's. -/
structure Rel (o : Op) (b : Bf) : Prop where
  kind : o.kind = 5 ∨ o.kind = 6
  obj : b.obj = (o.kind == 6)
  all : o.all = (b.all : Int)
  sum : o.told + b.left = b.all
def Rels : List Op → List Bf → Prop
  | [], [] => True
  | o :: r, b :: q => Rel o b ∧ Rels r q
  | _, _ => False
def Live : List Bf → Prop
  | [] => True
  | b :: _ => b.left ≠ 0
/-- A name that stands twice. -/
def dup (v : Val) : List Op → Bool
  | [] => false
  | o :: _ => o.kind == 6 && o.told % 2 == 0 && o.names.contains v.text
/-- A value is told in the innermost one, whatever it is. -/
def grown (v : Val) : List Op → List Op
  | [] => []
  | o :: r => { o with names := if o.kind == 6 && o.told % 2 == 0 then o.names ++ [v.text] else o.names, told := o.told + 1 } :: r
def dupN : List Val → List Op → Bool
  | [], _ => false
  | v :: r, st => dup v st || dupN r (close (begun v (grown v st)))
variable {st : List Op} {bs : List Bf} {v : Val}
theorem Rels.len : ∀ {st : List Op} {bs : List Bf}, Rels st bs → st.length = bs.length
  | [], [], _ => rfl
  | [], _ :: _, h => h.elim
  | _ :: _, [], h => h.elim
  | _ :: r, _ :: q, h => by rw [List.length_cons, List.length_cons, Rels.len h.2]
theorem Rels.close : ∀ {st : List Op} {bs : List Bf}, Rels st bs → Rels (close st) (drop0 bs)
  | [], [], _ => trivial
  | [], _ :: _, h => h.elim
  | _ :: _, [], h => h.elim
  | o :: r, b :: q, h => by
    unfold E6.close drop0
    have h1 := h.1.all
    have h2 := h.1.sum
    by_cases hz : b.left = 0
    · rw [if_pos (by omega), if_pos hz]
      exact Rels.close h.2
    · rw [if_neg (by omega), if_neg hz]
      exact h
theorem live_drop0 : ∀ (bs : List Bf), Live (drop0 bs)
  | [] => trivial
  | b :: q => by
    unfold drop0
    by_cases hz : b.left = 0
    · rw [if_pos hz]; exact live_drop0 q
    · rw [if_neg hz]; exact hz
theorem enter_grown (hd : dup v st = false) (h : Rels st bs) (hb : bad v bs = false) : enter v st = some (grown v st) := by
  cases st with
  | nil => rfl
  | cons o r =>
    cases bs with
    | nil => exact h.elim
    | cons b q =>
      have h1 := h.1.obj
      have h2 := h.1.sum
      have hb : (b.obj && (b.all - b.left) % 2 == 0 && v.kind != 4) = false := hb
      have hd : (o.kind == 6 && o.told % 2 == 0 && o.names.contains v.text) = false := hd
      simp only [enter, grown]
      have e : b.all - b.left = o.told := by omega
      rw [h1, e] at hb
      by_cases ho : (o.kind == 6 && o.told % 2 == 0) = true
      · rw [ho] at hb hd ⊢
        have hb' : v.kind = 4 := by simpa using hb
        have hd' : o.names.contains v.text = false := by simpa using hd
        have hx : (v.kind != 4 || o.names.contains v.text) = false := by rw [hd', hb']; rfl
        rw [if_pos rfl, if_neg (by rw [hx]; decide)]
        rfl
      · rw [if_neg ho, if_neg ho]
theorem enter_none (h : Rels st bs) (hx : dup v st = true ∨ bad v bs = true) : enter v st = none := by
  cases st with
  | nil =>
    cases bs with
    | nil => rcases hx with e | e <;> cases e
    | cons b q => exact h.elim
  | cons o r =>
    cases bs with
    | nil => exact h.elim
    | cons b q =>
      have h1 := h.1.obj
      have h2 := h.1.sum
      have e : b.all - b.left = o.told := by omega
      have hx : (o.kind == 6 && o.told % 2 == 0 && o.names.contains v.text) = true ∨ (b.obj && (b.all - b.left) % 2 == 0 && v.kind != 4) = true := hx
      rw [h1, e] at hx
      simp only [enter]
      have ho : (o.kind == 6 && o.told % 2 == 0) = true := by
        rcases hx with hx | hx
        · simp only [Bool.and_eq_true] at hx ⊢; exact hx.1
        · simp only [Bool.and_eq_true] at hx ⊢; exact hx.1
      rw [if_pos ho, if_pos]
      rw [ho] at hx
      rcases hx with hx | hx
      · rw [show o.names.contains v.text = true by simpa using hx, Bool.or_true]
      · rw [show (v.kind != 4) = true by simpa using hx]; rfl
theorem Rels.grown (h : Rels st bs) (hl : Live bs) : Rels (grown v st) (less bs) := by
  cases st with
  | nil =>
    cases bs with
    | nil => trivial
    | cons b q => exact h.elim
  | cons o r =>
    cases bs with
    | nil => exact h.elim
    | cons b q =>
      have h2 := h.1.sum
      have hl : b.left ≠ 0 := hl
      refine ⟨⟨h.1.kind, h.1.obj, h.1.all, ?_⟩, h.2⟩
      show o.told + 1 + (b.left - 1) = b.all
      omega
theorem right_kids (h : right v = true) : (5 ≤ v.kind → (v.kind = 5 ∨ v.kind = 6)) ∧ 0 ≤ v.kids := by
  rw [← R6.right_eq] at h
  unfold R6.right at h
  split at h
  · cases h
  · rename_i hc
    have h0 : ¬ v.kids < 0 := fun e => hc (by simp [e])
    refine ⟨fun h5 => ?_, by omega⟩
    by_cases e5 : v.kind = 5
    · exact .inl e5
    · by_cases e6 : v.kind = 6
      · exact .inr e6
      · split at h
        · rename_i e; have : v.kind = 3 := by simpa using e
          omega
        · split at h
          · rename_i e; have : v.kind = 4 := by simpa using e
            omega
          · split at h
            · rename_i e
              simp only [Bool.or_eq_true, beq_iff_eq] at e
              omega
            · cases h
theorem Rels.begun (h : Rels st bs) (hr : right v = true) : Rels (begun v st) (opened v bs) := by
  obtain ⟨h1, h2⟩ := right_kids hr
  unfold E6.begun opened
  by_cases h5 : 5 ≤ v.kind
  · rw [if_pos (by simpa using h5), if_pos (by rcases h1 h5 with e | e <;> simp [e])]
    exact ⟨⟨h1 h5, rfl, by show v.kids = ((v.kids.toNat : Nat) : Int); omega, by show 0 + v.kids.toNat = v.kids.toNat; omega⟩, h⟩
  · rw [if_neg (by simpa using h5), if_neg (by simp; omega)]
    exact h
theorem shape_beh : ∀ (l : List Val) (first : Bool) (st : List Op) (bs : List Bf) (most i : Nat), (∀ v ∈ l, right v = true) → Rels st bs → Live bs → l ≠ [] → (first = true ∨ st ≠ []) →
    ((shapeN l first st most).2 = true ↔ ((behN l bs most i).1 = some (i + l.length) ∧ dupN l st = false)) ∧ ((shapeN l first st most).2 = true → (shapeN l first st most).1 = (behN l bs most i).2)
  | [], _, _, _, _, _, _, _, _, hne, _ => absurd rfl hne
  | v :: r, first, st, bs, most, i, hall, h, hl, _, hf => by
    have hr := hall v (List.mem_cons_self ..)
    have hk := (right_kids hr).2
    rw [shapeN, behN, dupN]
    have hc : ((!first && st.isEmpty) || !right v) = false := by
      rw [hr]
      rcases hf with e | e
      · rw [e]; rfl
      · have : st.isEmpty = false := by simpa using e
        rw [this]; simp
    rw [if_neg (by rw [hc]; decide), if_neg (by omega)]
    by_cases hx : dup v st = true ∨ bad v bs = true
    · rw [enter_none h hx]
      refine ⟨⟨fun e => (by cases e), fun ⟨e1, e2⟩ => ?_⟩, fun e => (by cases e)⟩
      rcases hx with hx | hx
      · rw [hx] at e2; cases e2
      · rw [if_pos hx] at e1; cases e1
    · have hd : dup v st = false := by simpa using fun e => hx (.inl e)
      have hb : bad v bs = false := by simpa using fun e => hx (.inr e)
      rw [enter_grown hd h hb, hd, if_neg (by rw [hb]; decide)]
      have hg : Rels (grown v st) (less bs) := h.grown hl
      have ho : Rels (begun v (grown v st)) (opened v (less bs)) := hg.begun hr
      have hcl := ho.close
      have hlen := ho.len
      have hlv := live_drop0 (opened v (less bs))
      simp only [Bool.false_or]
      rw [hlen]
      obtain ⟨st3, hst3⟩ : ∃ x, x = close (begun v (grown v st)) := ⟨_, rfl⟩
      obtain ⟨bs3, hbs3⟩ : ∃ x, x = drop0 (opened v (less bs)) := ⟨_, rfl⟩
      rw [← hst3, ← hbs3] at hcl
      rw [← hbs3] at hlv
      rw [← hst3, ← hbs3]
      cases bs3 with
      | nil =>
        cases st3 with
        | cons o q => exact hcl.elim
        | nil =>
          cases r with
          | nil => exact ⟨⟨fun _ => ⟨rfl, rfl⟩, fun _ => rfl⟩, fun _ => rfl⟩
          | cons v2 r2 =>
            refine ⟨⟨fun e => ?_, fun ⟨e, _⟩ => ?_⟩, fun e => ?_⟩
            · rw [shapeN, if_pos (by rfl)] at e; cases e
            · simp at e
            · rw [shapeN, if_pos (by rfl)] at e; cases e
      | cons b q =>
        cases st3 with
        | nil => exact hcl.elim
        | cons o t =>
          cases r with
          | nil =>
            refine ⟨⟨fun e => ?_, fun ⟨e, _⟩ => ?_⟩, fun e => ?_⟩
            · rw [shapeN] at e; cases e
            · simp [behN] at e
            · rw [shapeN] at e; cases e
          | cons v2 r2 =>
            have ih := shape_beh (v2 :: r2) false (o :: t) (b :: q) (max most (opened v (less bs)).length) (i + 1) (fun u hu => hall u (List.mem_cons_of_mem _ hu)) hcl hlv (by simp) (.inr (by simp))
            rw [show i + (v :: v2 :: r2).length = i + 1 + (v2 :: r2).length by simp only [List.length_cons]; omega]
            exact ih
end Go.Px.E6

/-! Lists of values that are one value: rows, their text, and whether a name stands twice (plain law). No program is named here. -/
namespace Go.Px.E6
open R6 (Bf bad less opened drop0 behN sep)
/-! Values in a row -/
def nmOf (x : List Val) : Bytes := (x.headD ⟨0, 0, []⟩).text
def Kids (R : List Val → Bytes → Bool → Prop) (ob : Bool) : Nat → Nat → List Bytes → List Val → Bytes → Bool → Prop
  | 0, _, _, l, t, dp => l = [] ∧ t = [] ∧ dp = false
  | m + 1, i, nm, l, t, dp => ∃ x y u v d1 d2, l = x ++ y ∧ t = sep ob i ++ u ++ v ∧ R x u d1 ∧ (ob = true → i % 2 = 0 → ∃ a : Val, x = [a] ∧ a.kind = 4) ∧
      Kids R ob m (i + 1) (if ob && i % 2 == 0 then nm ++ [nmOf x] else nm) y v d2 ∧ dp = ((ob && i % 2 == 0 && nm.contains (nmOf x)) || d1 || d2)
def opn (a : Val) : UInt8 := if a.kind == 5 then 91 else 123
def cls (k : Int) : UInt8 := if k == 5 then 93 else 125
/-- One value, within which at most d stand within one another: its text, and whether a name stands twice. -/
def ItF : Nat → List Val → Bytes → Bool → Prop
  | 0, l, t, dp => ∃ a, l = [a] ∧ right a = true ∧ a.kind ≤ 4 ∧ t = body a ∧ dp = false
  | d + 1, l, t, dp => (∃ a, l = [a] ∧ right a = true ∧ a.kind ≤ 4 ∧ t = body a ∧ dp = false) ∨
      (∃ a r u, l = a :: r ∧ right a = true ∧ 5 ≤ a.kind ∧ t = opn a :: u ++ [cls a.kind] ∧ Kids (ItF d) (a.kind == 6) a.kids.toNat 0 [] r u dp)
theorem ItF.one {d : Nat} {a : Val} (h1 : right a = true) (h2 : a.kind ≤ 4) : ItF d [a] (body a) false := by
  cases d with
  | zero => exact ⟨a, rfl, h1, h2, rfl, rfl⟩
  | succ d => exact .inl ⟨a, rfl, h1, h2, rfl, rfl⟩
theorem ItF.node {d : Nat} {a : Val} {r : List Val} {u : Bytes} {dp : Bool} (h1 : right a = true) (h2 : 5 ≤ a.kind) (h3 : Kids (ItF d) (a.kind == 6) a.kids.toNat 0 [] r u dp) : ItF (d + 1) (a :: r) (opn a :: u ++ [cls a.kind]) dp := .inr ⟨a, r, u, rfl, h1, h2, rfl, h3⟩
theorem ItF.pos {d : Nat} {l : List Val} {t : Bytes} {dp : Bool} (h : ItF d l t dp) : 1 ≤ l.length := by
  cases d with
  | zero => obtain ⟨a, rfl, _⟩ := h; exact Nat.le_refl _
  | succ d =>
    rcases h with ⟨a, rfl, _⟩ | ⟨a, r, u, rfl, _⟩
    · exact Nat.le_refl _
    · simp
/-- The text that is told, without limits. -/
def txtN : List Val → List Op → Bytes
  | [], _ => []
  | v :: r, st => ahead st ++ body v ++ ends (begun v (grown v st)) ++ txtN r (close (begun v (grown v st)))
def Stk (D : Nat) : List Op → List Val → Bytes → Bool → Prop
  | [], l, t, dp => l = [] ∧ t = [] ∧ dp = false
  | o :: r, l, t, dp => ∃ l1 l2 u v d1 d2, l = l1 ++ l2 ∧ t = u ++ (cls o.kind :: v) ∧ Kids (ItF (D - (r.length + 1))) (o.kind == 6) (o.all.toNat - o.told) o.told o.names l1 u d1 ∧ Stk D r l2 v d2 ∧ dp = (d1 || d2)
theorem Stk.close {D : Nat} : ∀ {st : List Op} {l : List Val} {t : Bytes} {dp : Bool}, Stk D (close st) l t dp → Stk D st l (ends st ++ t) dp
  | [], _, _, _, h => h
  | o :: r, l, t, dp, h => by
    unfold E6.close at h
    unfold ends
    by_cases hz : (o.told : Int) = o.all
    · rw [if_pos hz] at h ⊢
      refine ⟨[], l, [], ends r ++ t, false, dp, rfl, rfl, ?_, Stk.close h, by simp⟩
      rw [show o.all.toNat - o.told = 0 by omega]
      exact ⟨rfl, rfl, rfl⟩
    · rw [if_neg hz] at h ⊢
      exact h
theorem beh_most : ∀ (l : List Val) (bs : List Bf) (most i : Nat), most ≤ (behN l bs most i).2
  | [], _, _, _ => Nat.le_refl _
  | v :: r, bs, most, i => by
    rw [behN]
    by_cases h1 : v.kids < 0
    · rw [if_pos h1]; exact Nat.le_refl _
    · rw [if_neg h1]
      by_cases h2 : bad v bs = true
      · rw [if_pos h2]; exact Nat.le_refl _
      · rw [if_neg h2]
        cases drop0 (opened v (less bs)) with
        | nil => exact Nat.le_max_left _ _
        | cons b q => exact Nat.le_trans (Nat.le_max_left _ _) (beh_most r (b :: q) _ (i + 1))
theorem stk_of_beh (D : Nat) : ∀ (l : List Val) (st : List Op) (bs : List Bf) (most i : Nat), (∀ v ∈ l, right v = true) → Rels st bs → Live bs → (behN l bs most i).1 = some (i + l.length) → (behN l bs most i).2 ≤ D → st ≠ [] →
    Stk D st l (txtN l st) (dupN l st)
  | [], _, _, _, _, _, _, _, h, _, _ => by rw [behN] at h; cases h
  | a :: r, [], _, _, _, _, _, _, _, _, hne => absurd rfl hne
  | a :: r, o :: rest, [], _, _, _, hrel, _, _, _, _ => hrel.elim
  | a :: r, o :: rest, b :: q, most, i, hall, hrel, hl, hb, hD, _ => by
    have hr := hall a (List.mem_cons_self ..)
    obtain ⟨hk1, hk2⟩ := right_kids hr
    have hl0 : b.left ≠ 0 := hl
    have r1 := hrel.1.obj
    have r2 := hrel.1.all
    have r3 := hrel.1.sum
    have hg : Rels (grown a (o :: rest)) (less (b :: q)) := hrel.grown hl
    have ho : Rels (begun a (grown a (o :: rest))) (opened a (less (b :: q))) := hg.begun hr
    have hcl := ho.close
    have hlen := ho.len
    have hlv := live_drop0 (opened a (less (b :: q)))
    rw [behN, if_neg (by omega)] at hb hD
    by_cases hbad : bad a (b :: q) = true
    · rw [if_pos hbad] at hb; cases hb
    · rw [if_neg hbad] at hb hD
      have hfa : (b.obj && (b.all - b.left) % 2 == 0 && a.kind != 4) = false := Bool.eq_false_iff.2 hbad
      rw [r1, show b.all - b.left = o.told by omega] at hfa
      -- what the rest of the list is
      have key : Stk D (begun a (grown a (o :: rest))) r (ends (begun a (grown a (o :: rest))) ++ txtN r (close (begun a (grown a (o :: rest))))) (dupN r (close (begun a (grown a (o :: rest))))) ∧ (begun a (grown a (o :: rest))).length ≤ D := by
        rw [hlen]
        obtain ⟨st3, hst3⟩ : ∃ x, x = close (begun a (grown a (o :: rest))) := ⟨_, rfl⟩
        obtain ⟨bs3, hbs3⟩ : ∃ x, x = drop0 (opened a (less (b :: q))) := ⟨_, rfl⟩
        rw [← hbs3] at hb hD hcl hlv
        rw [← hst3] at hcl ⊢
        cases bs3 with
        | nil =>
          cases st3 with
          | cons o2 q2 => exact hcl.elim
          | nil =>
            have hr0 : r = [] := by
              have : i + 1 = i + (a :: r).length := Option.some.inj hb
              rw [List.length_cons] at this
              exact List.length_eq_zero_iff.1 (by omega)
            subst hr0
            refine ⟨Stk.close ?_, Nat.le_trans (Nat.le_max_right _ _) hD⟩
            rw [← hst3]
            exact ⟨rfl, rfl, rfl⟩
        | cons b2 q2 =>
          cases st3 with
          | nil => exact hcl.elim
          | cons o2 t2 =>
            have hmm := beh_most r (b2 :: q2) (max most (opened a (less (b :: q))).length) (i + 1)
            refine ⟨Stk.close ?_, by simp only at hD; omega⟩
            rw [← hst3]
            exact stk_of_beh D r (o2 :: t2) (b2 :: q2) _ (i + 1) (fun u hu => hall u (List.mem_cons_of_mem _ hu)) hcl hlv (by rw [hb, List.length_cons]; congr 1; omega) hD (by simp)
      obtain ⟨key, hlD⟩ := key
      rw [txtN, dupN]
      have hrem : o.all.toNat - o.told = (o.all.toNat - (o.told + 1)) + 1 := by omega
      have hahd : ahead (o :: rest) = sep (o.kind == 6) o.told := rfl
      have hname : (o.kind == 6) = true → o.told % 2 = 0 → a.kind = 4 := by
        intro e1 e2
        rw [e1, e2] at hfa
        simpa using hfa
      unfold begun at key hlD ⊢
      by_cases h5 : 5 ≤ a.kind
      · rw [if_pos (by simpa using h5)] at key hlD ⊢
        obtain ⟨l1, l2, u, v, d1, d2, rfl, e2, k1, ⟨l3, l4, u2, v2, d3, d4, rfl, e4, k3, k4, e5⟩, e6⟩ := key
        rw [List.append_assoc, e2, e4]
        have hit : ItF (D - (rest.length + 1)) (a :: l1) (opn a :: u ++ [cls a.kind]) d1 := by
          have hd1 : D - (rest.length + 1) = D - ((o :: rest).length + 1) + 1 := by simp only [grown, List.length_cons] at hlD ⊢; omega
          rw [hd1]
          exact ItF.node hr h5 k1
        have hbod : body a = [opn a] := by
          unfold body opn
          rcases hk1 h5 with e | e <;> rw [e] <;> rfl
        have hdup : dup a (o :: rest) = (o.kind == 6 && o.told % 2 == 0 && o.names.contains (nmOf (a :: l1))) := rfl
        refine ⟨a :: l1 ++ l3, l4, sep (o.kind == 6) o.told ++ (opn a :: u ++ [cls a.kind]) ++ u2, v2, dup a (o :: rest) || d1 || d3, d4, by simp, ?_, ?_, k4, ?_⟩
        · rw [hahd, hbod]
          simp
        · rw [hrem]
          exact ⟨a :: l1, l3, _, u2, d1, d3, rfl, rfl, hit, fun e1 e2 => by have := hname e1 (by simpa using e2); omega, k3, by rw [hdup]⟩
        · rw [e6, e5]
          cases dup a (o :: rest) <;> cases d1 <;> cases d3 <;> cases d4 <;> rfl
      · rw [if_neg (by simpa using h5)] at key hlD ⊢
        obtain ⟨l1, l2, u, v, d1, d2, rfl, e2, k1, k2, e6⟩ := key
        rw [List.append_assoc, e2]
        have hdup : dup a (o :: rest) = (o.kind == 6 && o.told % 2 == 0 && o.names.contains (nmOf [a])) := rfl
        refine ⟨a :: l1, l2, sep (o.kind == 6) o.told ++ body a ++ u, v, dup a (o :: rest) || d1, d2, rfl, ?_, ?_, k2, ?_⟩
        · rw [hahd]
          simp
        · rw [hrem]
          exact ⟨[a], l1, _, u, false, d1, rfl, rfl, ItF.one hr (by omega), fun e1 e2 => ⟨a, rfl, hname e1 (by simpa using e2)⟩, k1, by rw [hdup]; simp⟩
        · rw [e6, Bool.or_assoc]
/-- A list that Behind goes through is one value. -/
theorem it_of_beh {D : Nat} {l : List Val} (hall : ∀ v ∈ l, right v = true) (hb : (R6.behind l 0).1 = some l.length) (hD : (R6.behind l 0).2 ≤ D) : ItF D l (txtN l []) (dupN l []) := by
  unfold R6.behind at hb hD
  rw [List.drop_zero] at hb hD
  cases l with
  | nil => rw [behN] at hb; cases hb
  | cons a r =>
    have hr := hall a (List.mem_cons_self ..)
    obtain ⟨hk1, hk2⟩ := right_kids hr
    have hg : Rels (grown a []) (less []) := trivial
    have ho : Rels (begun a (grown a [])) (opened a (less [])) := hg.begun hr
    have hcl := ho.close
    have hlen := ho.len
    have hlv := live_drop0 (opened a (less []))
    rw [behN, if_neg (by omega), if_neg (by simp [bad])] at hb hD
    have key : Stk D (begun a (grown a [])) r (ends (begun a (grown a [])) ++ txtN r (close (begun a (grown a [])))) (dupN r (close (begun a (grown a [])))) ∧ (begun a (grown a [])).length ≤ D := by
      rw [hlen]
      obtain ⟨st3, hst3⟩ : ∃ x, x = close (begun a (grown a [])) := ⟨_, rfl⟩
      obtain ⟨bs3, hbs3⟩ : ∃ x, x = drop0 (opened a (less [])) := ⟨_, rfl⟩
      rw [← hbs3] at hb hD hcl hlv
      rw [← hst3] at hcl ⊢
      cases bs3 with
      | nil =>
        cases st3 with
        | cons o2 q2 => exact hcl.elim
        | nil =>
          have hr0 : r = [] := by
            have : 0 + 1 = (a :: r).length := Option.some.inj hb
            rw [List.length_cons] at this
            exact List.length_eq_zero_iff.1 (by omega)
          subst hr0
          refine ⟨Stk.close ?_, Nat.le_trans (Nat.le_max_right _ _) hD⟩
          rw [← hst3]
          exact ⟨rfl, rfl, rfl⟩
      | cons b2 q2 =>
        cases st3 with
        | nil => exact hcl.elim
        | cons o2 t2 =>
          have hmm := beh_most r (b2 :: q2) (max 0 (opened a (less [])).length) (0 + 1)
          refine ⟨Stk.close ?_, by simp only at hD; omega⟩
          rw [← hst3]
          exact stk_of_beh D r (o2 :: t2) (b2 :: q2) _ (0 + 1) (fun u hu => hall u (List.mem_cons_of_mem _ hu)) hcl hlv (by rw [hb, List.length_cons]; congr 1; omega) hD (by simp)
    obtain ⟨key, hlD⟩ := key
    rw [txtN, dupN]
    unfold begun at key hlD ⊢
    by_cases h5 : 5 ≤ a.kind
    · rw [if_pos (by simpa using h5)] at key hlD ⊢
      obtain ⟨l1, l2, u, v, d1, d2, rfl, e2, k1, ⟨rfl, rfl, rfl⟩, e6⟩ := key
      have hbod : body a = [opn a] := by
        unfold body opn
        rcases hk1 h5 with e | e <;> rw [e] <;> rfl
      rw [List.append_assoc, e2, hbod, e6]
      have hd1 : D = D - (([] : List Op).length + 1) + 1 := by simp only [grown, List.length_cons, List.length_nil] at hlD ⊢; omega
      rw [hd1, List.append_nil]
      have := ItF.node (d := D - (([] : List Op).length + 1)) hr h5 k1
      simpa [ahead, dup] using this
    · rw [if_neg (by simpa using h5)] at key hlD ⊢
      obtain ⟨rfl, e2, e3⟩ := key
      have e2' : ends (grown a []) ++ txtN [] (close (grown a [])) = [] := rfl
      rw [List.append_assoc, e2', e3]
      simpa [ahead, dup] using ItF.one (d := D) hr (by omega)
end Go.Px.E6

/-! One value in a list: the reference's Behind goes over it, twice sees its names (plain law). No program is named here. -/
namespace Go.Px.E6
open R6 (Bf bad less opened drop0 behN sep)
def afterB (st : List Bf) (r : List Val) (m i : Nat) : Option Nat × Nat := match drop0 st with
  | [] => (some i, m)
  | b :: q => behN r (b :: q) m i
theorem beh_step {a : Val} {bs : List Bf} (r : List Val) (most i : Nat) (hr : right a = true) (hb : bad a bs = false) : behN (a :: r) bs most i = afterB (opened a (less bs)) r (max most (opened a (less bs)).length) (i + 1) := by
  have hk := (right_kids hr).2
  rw [behN, if_neg (by omega), if_neg (by rw [hb]; decide)]
  unfold afterB
  cases drop0 (opened a (less bs)) <;> rfl
theorem afterB_zero (k : Nat) (ob : Bool) (st : List Bf) (r : List Val) (m i : Nat) : afterB (⟨0, k, ob⟩ :: st) r m i = afterB st r m i := by
  unfold afterB
  rw [drop0, if_pos rfl]
theorem afterB_live (n k : Nat) (ob : Bool) (st : List Bf) (r : List Val) (m i : Nat) : afterB (⟨n + 1, k, ob⟩ :: st) r m i = behN r (⟨n + 1, k, ob⟩ :: st) m i := by
  unfold afterB
  rw [drop0, if_neg (by simp)]
theorem bad_kids {ob : Bool} {m k : Nat} {st : List Bf} {a : Val} (h : ob = true → k % 2 = 0 → a.kind = 4) : bad a (⟨m + 1, k + (m + 1), ob⟩ :: st) = false := by
  show (ob && (k + (m + 1) - (m + 1)) % 2 == 0 && a.kind != 4) = false
  rw [Nat.add_sub_cancel]
  cases ob with
  | false => rfl
  | true =>
    by_cases hk : k % 2 = 0
    · rw [h rfl hk]; simp
    · simp [hk]
theorem ItF.head {d : Nat} {x : List Val} {t : Bytes} {dp : Bool} (h : ItF d x t dp) : ∃ a r, x = a :: r ∧ right a = true := by
  cases d with
  | zero => obtain ⟨a, e, h1, _⟩ := h; exact ⟨a, [], e, h1⟩
  | succ d =>
    rcases h with ⟨a, e, h1, _⟩ | ⟨a, r, u, e, h1, _⟩
    · exact ⟨a, [], e, h1⟩
    · exact ⟨a, r, e, h1⟩
theorem opened_leaf {a : Val} {st : List Bf} (h : a.kind ≤ 4) : opened a st = st := by
  unfold opened
  rw [if_neg (by simp; omega)]
theorem opened_node {a : Val} {st : List Bf} (hr : right a = true) (h : 5 ≤ a.kind) : opened a st = ⟨a.kids.toNat, a.kids.toNat, a.kind == 6⟩ :: st := by
  unfold opened
  rw [if_pos (by rcases (right_kids hr).1 h with e | e <;> simp [e])]
def BehIt (d : Nat) : Prop := ∀ x t dp, ItF d x t dp → ∀ (bs : List Bf) (r : List Val) (most i : Nat), (∀ a q, x = a :: q → bad a bs = false) → ∃ m1, behN (x ++ r) bs most i = afterB (less bs) r m1 (i + x.length)
theorem beh_kids {d : Nat} (ih : BehIt d) {ob : Bool} : ∀ (m k : Nat) (nm : List Bytes) (x : List Val) (u : Bytes) (dp : Bool), Kids (ItF d) ob m k nm x u dp → ∀ (st : List Bf) (r : List Val) (most i : Nat), ∃ m1, afterB (⟨m, k + m, ob⟩ :: st) (x ++ r) most i = afterB st r m1 (i + x.length)
  | 0, k, nm, x, u, dp, h, st, r, most, i => by
    obtain ⟨rfl, _, _⟩ := h
    exact ⟨most, by rw [afterB_zero]; rfl⟩
  | m + 1, k, nm, x, u, dp, h, st, r, most, i => by
    obtain ⟨x1, y, u1, v, d1, d2, rfl, _, h1, h2, h3, _⟩ := h
    rw [afterB_live, List.append_assoc]
    obtain ⟨m1, e1⟩ := ih x1 u1 d1 h1 (⟨m + 1, k + (m + 1), ob⟩ :: st) (y ++ r) most i (fun a q e => bad_kids fun e1 e2 => by
      obtain ⟨b, hb, hb4⟩ := h2 e1 e2
      rw [e] at hb
      cases hb
      exact hb4)
    rw [e1]
    have e2 : less (⟨m + 1, k + (m + 1), ob⟩ :: st) = ⟨m, (k + 1) + m, ob⟩ :: st := by
      unfold less
      simp only [Nat.add_sub_cancel]
      rw [show k + (m + 1) = k + 1 + m by omega]
    rw [e2]
    obtain ⟨m2, e3⟩ := beh_kids ih m (k + 1) _ y v d2 h3 st r m1 (i + x1.length)
    exact ⟨m2, by rw [e3, List.length_append, Nat.add_assoc]⟩
theorem beh_it : ∀ d, BehIt d
  | 0 => by
    intro x t dp h bs r most i hb
    obtain ⟨a, rfl, hr, h4, _⟩ := h
    rw [List.singleton_append, beh_step r most i hr (hb a [] rfl), opened_leaf h4]
    exact ⟨_, rfl⟩
  | d + 1 => by
    intro x t dp h bs r most i hb
    rcases h with ⟨a, rfl, hr, h4, _⟩ | ⟨a, r', u, rfl, hr, h5, _, hk⟩
    · rw [List.singleton_append, beh_step r most i hr (hb a [] rfl), opened_leaf h4]
      exact ⟨_, rfl⟩
    · rw [List.cons_append, beh_step _ most i hr (hb a r' rfl), opened_node hr h5]
      obtain ⟨m1, e⟩ := beh_kids (beh_it d) a.kids.toNat 0 [] r' u dp hk (less bs) r (max most (⟨a.kids.toNat, a.kids.toNat, a.kind == 6⟩ :: less bs).length) (i + 1)
      rw [Nat.zero_add] at e
      exact ⟨m1, by rw [e, List.length_cons, Nat.add_assoc, Nat.add_comm 1]⟩
/-- The place behind a value of a list. -/
theorem behind_it {d : Nat} {L x r : List Val} {t : Bytes} {dp : Bool} {p : Nat} (h : ItF d x t dp) (hL : L.drop p = x ++ r) : (R6.behind L p).1 = some (p + x.length) := by
  unfold R6.behind
  rw [hL]
  obtain ⟨m1, e⟩ := beh_it d x t dp h [] r 0 p (fun a q _ => rfl)
  rw [e]
  rfl
/-! Names -/
/-- Whether an object that begins in a stretch of a list has a name twice. -/
def anyT (L : List Val) (p n : Nat) : Bool := (List.range n).any fun j => (L.getD (p + j) ⟨0, 0, []⟩).kind == 6 && R6.twice L (p + j)
theorem anyT_add (L : List Val) (p a b : Nat) : anyT L p (a + b) = (anyT L p a || anyT L (p + a) b) := by
  unfold anyT
  rw [List.range_add, List.any_append, List.any_map]
  congr 1
  congr 1
  funext j
  simp only [Function.comp, Nat.add_assoc]
theorem anyT_one (L : List Val) (p : Nat) : anyT L p 1 = ((L.getD p ⟨0, 0, []⟩).kind == 6 && R6.twice L p) := by
  unfold anyT
  simp [List.range_succ]
theorem getD_drop {L : List Val} {p : Nat} {a : Val} {r : List Val} (h : L.drop p = a :: r) : L.getD p ⟨0, 0, []⟩ = a := by
  have : (L.drop p)[0]? = some a := by rw [h]; rfl
  rw [List.getElem?_drop, Nat.add_zero] at this
  rw [List.getD_eq_getElem?_getD, this]
  rfl
def DupIt (d : Nat) : Prop := ∀ x t dp, ItF d x t dp → ∀ (L r : List Val) (p : Nat), L.drop p = x ++ r → dp = anyT L p x.length
theorem dup_kids {d : Nat} (ih : DupIt d) {ob : Bool} : ∀ (m k : Nat) (nm : List Bytes) (x : List Val) (u : Bytes) (dp : Bool), Kids (ItF d) ob m k nm x u dp → ∀ (L r : List Val) (p : Nat), L.drop p = x ++ r →
    dp = ((ob && R6.twN L m k p nm) || anyT L p x.length)
  | 0, k, nm, x, u, dp, h, L, r, p, hL => by
    obtain ⟨rfl, _, rfl⟩ := h
    rw [R6.twN]
    cases ob <;> rfl
  | m + 1, k, nm, x, u, dp, h, L, r, p, hL => by
    obtain ⟨x1, y, u1, v, d1, d2, rfl, _, h1, h2, h3, rfl⟩ := h
    rw [List.append_assoc] at hL
    have hbe := behind_it h1 hL
    have hL2 : L.drop (p + x1.length) = y ++ r := by rw [← List.drop_drop, hL, List.drop_left]
    have e1 := ih x1 u1 d1 h1 L (y ++ r) p hL
    have e2 := dup_kids ih m (k + 1) _ y v d2 h3 L r (p + x1.length) hL2
    obtain ⟨a, q, ha, _⟩ := h1.head
    have hnm : (L.getD p ⟨0, 0, []⟩).text = nmOf x1 := by
      rw [ha] at hL
      rw [getD_drop hL, ha]
      rfl
    rw [R6.twN, hbe, hnm, List.length_append, anyT_add, ← e1, e2, Option.getD_some]
    cases ob with
    | false => simp
    | true =>
      by_cases hk : k % 2 = 0
      · rw [if_pos (by simp [hk]), if_pos (by simp [hk])]
        cases hc : nm.contains (nmOf x1) with
        | true => simp [hk]
        | false =>
          rw [if_neg (by decide)]
          simp only [Bool.and_false, Bool.false_or, Bool.true_and]
          cases d1 <;> cases R6.twN L m (k + 1) (p + x1.length) (nm ++ [nmOf x1]) <;> rfl
      · rw [if_neg (by simp [hk]), if_neg (by simp [hk])]
        have hk' : (k % 2 == 0) = false := by simpa using hk
        rw [hk']
        simp only [Bool.and_false, Bool.false_and, Bool.false_or, Bool.true_and]
        cases d1 <;> cases R6.twN L m (k + 1) (p + x1.length) nm <;> rfl
theorem dup_it : ∀ d, DupIt d
  | 0 => by
    intro x t dp h L r p hL
    obtain ⟨a, rfl, hr, h4, _, rfl⟩ := h
    show false = anyT L p 1
    rw [anyT_one, getD_drop hL]
    have : (a.kind == 6) = false := by simp; omega
    rw [this]
    rfl
  | d + 1 => by
    intro x t dp h L r p hL
    rcases h with ⟨a, rfl, hr, h4, _, rfl⟩ | ⟨a, r', u, rfl, hr, h5, _, hk⟩
    · show false = anyT L p 1
      rw [anyT_one, getD_drop hL]
      have : (a.kind == 6) = false := by simp; omega
      rw [this]
      rfl
    · have hL2 : L.drop (p + 1) = r' ++ r := by rw [← List.drop_drop, hL]; rfl
      have e := dup_kids (dup_it d) a.kids.toNat 0 [] r' u dp hk L r (p + 1) hL2
      rw [List.length_cons, Nat.add_comm, anyT_add, anyT_one, getD_drop hL, e]
      unfold R6.twice
      rw [getD_drop hL]
end Go.Px.E6

/-! The program's Encode of package json is the reference's (plain law). No program is named here. -/
namespace Go.Px.E6
open R6 (Bf bad less opened drop0 behN sep Ts kidsT tell)
/-! The reference's Teller -/
theorem kidsT_long (rc : Ts → Bytes × Ts) (ob : Bool) (m k : Nat) (x : Ts) (out : Bytes) (h : x.long = true) : kidsT rc ob m k x out = (out, x) := by
  cases m with
  | zero => rfl
  | succ m => rw [kidsT, if_pos (by rw [h]; simp)]
def TellIt (d : Nat) : Prop := ∀ x t dp, ItF d x t dp → ∀ (L r : List Val) (p m : Nat), L.drop p = x ++ r → d + 1 ≤ m → ∃ t' q g, tell L m ⟨p, false, false⟩ = (t', ⟨q, false, g⟩) ∧ (g = false → t' = t ∧ q = p + x.length) ∧ (g = true → 262144 < t.length)
theorem tell_kids {d : Nat} (ih : TellIt d) {ob : Bool} (fu : Nat) (hfu : d + 1 ≤ fu) : ∀ (m k : Nat) (nm : List Bytes) (x : List Val) (u : Bytes) (dp : Bool), Kids (ItF d) ob m k nm x u dp → ∀ (L r : List Val) (p : Nat) (out : Bytes), L.drop p = x ++ r →
    ∃ o' q g, kidsT (tell L fu) ob m k ⟨p, false, false⟩ out = (o', ⟨q, false, g⟩) ∧ (g = false → o' = out ++ u ∧ q = p + x.length) ∧ (g = true → 262144 < (out ++ u).length)
  | 0, k, nm, x, u, dp, h, L, r, p, out, hL => by
    obtain ⟨rfl, rfl, _⟩ := h
    exact ⟨out, p, false, rfl, fun _ => ⟨by rw [List.append_nil], rfl⟩, fun e => by cases e⟩
  | m + 1, k, nm, x, u, dp, h, L, r, p, out, hL => by
    obtain ⟨x1, y, u1, v, d1, d2, rfl, rfl, h1, h2, h3, _⟩ := h
    rw [List.append_assoc] at hL
    have hL2 : L.drop (p + x1.length) = y ++ r := by rw [← List.drop_drop, hL, List.drop_left]
    obtain ⟨t1, q1, g1, e1, e2, e3⟩ := ih x1 u1 d1 h1 L (y ++ r) p fu hL hfu
    rw [kidsT, if_neg (by simp), e1]
    cases g1 with
    | true =>
      rw [kidsT_long _ _ _ _ _ _ (by simp)]
      refine ⟨_, _, _, rfl, fun e => by simp at e, fun _ => ?_⟩
      have := e3 rfl
      simp only [List.length_append]
      omega
    | false =>
      obtain ⟨rfl, rfl⟩ := e2 rfl
      by_cases hz : 262144 < (out ++ sep ob k ++ t1).length
      · rw [kidsT_long _ _ _ _ _ _ (by simp only [Bool.false_or]; exact decide_eq_true hz)]
        refine ⟨_, _, _, rfl, fun e => ?_, fun _ => ?_⟩
        · simp only [Bool.false_or] at e
          rw [decide_eq_true hz] at e
          cases e
        · simp only [List.length_append] at hz ⊢
          omega
      · simp only [Bool.false_or]
        rw [decide_eq_false hz]
        obtain ⟨o', q, g, f1, f2, f3⟩ := tell_kids ih fu hfu m (k + 1) _ y v d2 h3 L r (p + x1.length) (out ++ sep ob k ++ t1) hL2
        refine ⟨o', q, g, f1, fun e => ?_, fun e => ?_⟩
        · obtain ⟨rfl, rfl⟩ := f2 e
          exact ⟨by simp, by rw [List.length_append, Nat.add_assoc]⟩
        · have := f3 e
          simp only [List.length_append] at this ⊢
          omega
theorem right_kind {a : Val} (h : right a = true) : 0 ≤ a.kind ∧ a.kind ≤ 6 := by
  unfold right at h
  by_cases h1 : (a.kind == 0 || a.kind == 1 || a.kind == 2) = true
  · simp only [Bool.or_eq_true, beq_iff_eq] at h1; omega
  · rw [if_neg h1] at h
    by_cases h3 : (a.kind == 3) = true
    · simp only [beq_iff_eq] at h3; omega
    · rw [if_neg h3] at h
      by_cases h4 : (a.kind == 4) = true
      · simp only [beq_iff_eq] at h4; omega
      · rw [if_neg h4] at h
        by_cases h5 : (a.kind == 5) = true
        · simp only [beq_iff_eq] at h5; omega
        · rw [if_neg h5] at h
          by_cases h6 : (a.kind == 6) = true
          · simp only [beq_iff_eq] at h6; omega
          · rw [if_neg h6] at h; cases h
theorem tell_leaf {L r : List Val} {a : Val} {p m : Nat} (hr : right a = true) (h4 : a.kind ≤ 4) (hL : L.drop p = a :: r) : tell L (m + 1) ⟨p, false, false⟩ = (body a, ⟨p + 1, false, false⟩) := by
  have hp : p < L.length := by
    have : (L.drop p).length = r.length + 1 := by rw [hL]; rfl
    rw [List.length_drop] at this
    omega
  have hk := right_kind hr
  rw [tell, if_neg (by simp; omega)]
  simp only
  rw [getD_drop hL, if_pos (by simp only [Bool.or_eq_true, beq_iff_eq]; omega)]
theorem tell_it : ∀ d, TellIt d
  | 0 => by
    intro x t dp h L r p m hL hm
    obtain ⟨a, rfl, hr, h4, rfl, _⟩ := h
    obtain ⟨m, rfl⟩ : ∃ k, m = k + 1 := ⟨m - 1, by omega⟩
    exact ⟨_, _, _, tell_leaf hr h4 hL, fun _ => ⟨rfl, rfl⟩, fun e => by cases e⟩
  | d + 1 => by
    intro x t dp h L r p m hL hm
    obtain ⟨m, rfl⟩ : ∃ k, m = k + 1 := ⟨m - 1, by omega⟩
    rcases h with ⟨a, rfl, hr, h4, rfl, _⟩ | ⟨a, r', u, rfl, hr, h5, rfl, hk⟩
    · exact ⟨_, _, _, tell_leaf hr h4 hL, fun _ => ⟨rfl, rfl⟩, fun e => by cases e⟩
    · have hp : p < L.length := by
        have : (L.drop p).length = (a :: r' ++ r).length := by rw [hL]
        rw [List.length_drop, List.length_append, List.length_cons] at this
        omega
      have hL2 : L.drop (p + 1) = r' ++ r := by rw [← List.drop_drop, hL]; rfl
      obtain ⟨o', q, g, f1, f2, f3⟩ := tell_kids (tell_it d) m (by omega) a.kids.toNat 0 [] r' u dp hk L r (p + 1) [] hL2
      rw [tell, if_neg (by simp; omega)]
      simp only
      rw [getD_drop hL, if_neg (by simp only [Bool.or_eq_true, beq_iff_eq]; omega), f1]
      refine ⟨_, _, _, rfl, fun e => ?_, fun e => ?_⟩
      · obtain ⟨rfl, rfl⟩ := f2 e
        exact ⟨rfl, by rw [List.length_cons]; omega⟩
      · have := f3 e
        simp only [List.nil_append] at this
        simp only [List.length_append, List.length_cons]
        omega
/-! Lengths -/
theorem drop0_len : ∀ (bs : List Bf), (drop0 bs).length ≤ bs.length
  | [] => Nat.le_refl _
  | b :: q => by
    rw [drop0]
    by_cases h : b.left = 0
    · rw [if_pos h, List.length_cons]; have := drop0_len q; omega
    · rw [if_neg h]; exact Nat.le_refl _
theorem less_len (bs : List Bf) : (less bs).length = bs.length := by cases bs <;> rfl
theorem opened_len (a : Val) (bs : List Bf) : (opened a bs).length ≤ bs.length + 1 := by
  unfold opened
  split
  · exact Nat.le_refl _
  · exact Nat.le_succ _
theorem beh_deep : ∀ (l : List Val) (bs : List Bf) (most i : Nat), (behN l bs most i).2 ≤ max most (bs.length + l.length)
  | [], _, _, _ => Nat.le_max_left _ _
  | v :: r, bs, most, i => by
    rw [behN]
    by_cases h1 : v.kids < 0
    · rw [if_pos h1]; exact Nat.le_max_left _ _
    · rw [if_neg h1]
      by_cases h2 : bad v bs = true
      · rw [if_pos h2]; exact Nat.le_max_left _ _
      · rw [if_neg h2]
        have h3 := opened_len v (less bs)
        rw [less_len] at h3
        have h4 := drop0_len (opened v (less bs))
        cases hd : drop0 (opened v (less bs)) with
        | nil =>
          show max most (opened v (less bs)).length ≤ _
          rw [List.length_cons]
          omega
        | cons b q =>
          rw [hd] at h4
          have := beh_deep r (b :: q) (max most (opened v (less bs)).length) (i + 1)
          show (behN r (b :: q) _ _).2 ≤ _
          rw [List.length_cons]
          omega
theorem toldC_pos (c : UInt8) : 1 ≤ (toldC c).length := by
  unfold toldC
  split
  · simp
  · split <;> simp
theorem told_le (s : Bytes) : s.length ≤ (told s).length := by
  unfold told
  rw [List.length_append, List.length_cons]
  induction s with
  | nil => simp
  | cons c r ih =>
    have := toldC_pos c
    simp only [List.flatMap_cons, List.length_append, List.length_cons] at ih ⊢
    omega
theorem body_le {a : Val} (h : right a = true) : a.text.length ≤ (body a).length := by
  have hk := right_kind h
  unfold right at h
  by_cases h3 : a.kind = 3
  · unfold body
    simp [h3]
  · by_cases h4 : a.kind = 4
    · unfold body
      simp only [h4]
      exact told_le a.text
    · have : a.text = [] := by
        by_cases h1 : (a.kind == 0 || a.kind == 1 || a.kind == 2) = true
        · rw [if_pos h1] at h; simp only [Bool.and_eq_true, beq_iff_eq] at h; exact h.2
        · rw [if_neg h1, if_neg (by simpa using h3), if_neg (by simpa using h4)] at h
          by_cases h5 : (a.kind == 5) = true
          · rw [if_pos h5] at h; simp only [Bool.and_eq_true, beq_iff_eq] at h; exact h.2
          · rw [if_neg h5] at h
            by_cases h6 : (a.kind == 6) = true
            · rw [if_pos h6] at h; simp only [Bool.and_eq_true, beq_iff_eq] at h; exact h.2
            · rw [if_neg h6] at h; cases h
      rw [this]
      exact Nat.zero_le _
theorem total_le : ∀ (l : List Val) (st : List Op), (∀ v ∈ l, right v = true) → R6.total l ≤ (txtN l st).length
  | [], _, _ => Nat.le_refl _
  | v :: r, st, h => by
    have h1 := body_le (h v (List.mem_cons_self ..))
    have h2 := total_le r (close (begun v (grown v st))) (fun u hu => h u (List.mem_cons_of_mem _ hu))
    rw [txtN, R6.total]
    simp only [List.length_append]
    omega
/-! The program's own telling -/
def Alike : List Op → List Op → Prop
  | [], [] => True
  | a :: r, b :: q => a.kind = b.kind ∧ a.all = b.all ∧ a.told = b.told ∧ Alike r q
  | _, _ => False
theorem Alike.close : ∀ {a b : List Op}, Alike a b → Alike (close a) (close b)
  | [], [], _ => trivial
  | [], _ :: _, h => h.elim
  | _ :: _, [], h => h.elim
  | a :: r, b :: q, h => by
    unfold E6.close
    rw [h.2.1, h.2.2.1]
    split
    · exact Alike.close h.2.2.2
    · exact h
theorem Alike.ends : ∀ {a b : List Op}, Alike a b → ends a = ends b
  | [], [], _ => rfl
  | [], _ :: _, h => h.elim
  | _ :: _, [], h => h.elim
  | a :: r, b :: q, h => by
    unfold E6.ends
    rw [h.1, h.2.1, h.2.2.1, Alike.ends h.2.2.2]
theorem Alike.ahead {a b : List Op} (h : Alike a b) : ahead a = ahead b := by
  cases a with
  | nil =>
    cases b with
    | nil => rfl
    | cons b q => exact h.elim
  | cons a r =>
    cases b with
    | nil => exact h.elim
    | cons b q =>
      unfold E6.ahead
      simp only
      rw [h.1, h.2.2.1]
theorem Alike.grown {a b : List Op} (v : Val) (h : Alike a b) : Alike (more a) (grown v b) := by
  cases a with
  | nil =>
    cases b with
    | nil => trivial
    | cons b q => exact h.elim
  | cons a r =>
    cases b with
    | nil => exact h.elim
    | cons b q => exact ⟨h.1, h.2.1, by show a.told + 1 = b.told + 1; rw [h.2.2.1], h.2.2.2⟩
theorem Alike.begun {a b : List Op} {v : Val} (hr : right v = true) (h : Alike a b) : Alike (push v a) (begun v b) := by
  have hk := right_kind hr
  unfold E6.push E6.begun
  by_cases h5 : 5 ≤ v.kind
  · rw [if_neg (by simp; omega), if_pos (by simpa using h5)]
    exact ⟨rfl, rfl, rfl, h⟩
  · rw [if_pos (by simp; omega), if_neg (by simpa using h5)]
    exact h
theorem encN_txt : ∀ (l : List Val) (st st' : List Op) (out : Bytes), Alike st st' → (∀ v ∈ l, right v = true) → encN l st out = if 262144 < (out ++ txtN l st').length then none else some (out ++ txtN l st')
  | [], st, st', out, _, _ => by rw [encN, txtN, List.append_nil]
  | v :: r, st, st', out, ha, h => by
    have hr := h v (List.mem_cons_self ..)
    have h1 := body_le hr
    rw [encN, txtN]
    by_cases hz : 262144 < out.length ∨ 262144 < v.text.length
    · rw [if_pos hz, if_pos (by simp only [List.length_append]; omega)]
    · have hg := Alike.begun hr (ha.grown v)
      rw [if_neg hz, encN_txt r (close (push v (more st))) (close (begun v (grown v st'))) _ hg.close (fun u hu => h u (List.mem_cons_of_mem _ hu)), ha.ahead, hg.ends]
      simp only [List.append_assoc]
theorem shape_right : ∀ (l : List Val) (first : Bool) (st : List Op) (most : Nat), (shapeN l first st most).2 = true → ∀ v ∈ l, right v = true
  | [], _, _, _, _, v, hv => by cases hv
  | a :: r, first, st, most, h, v, hv => by
    rw [shapeN] at h
    by_cases hc : ((!first && st.isEmpty) || !right a) = true
    · rw [if_pos hc] at h; cases h
    · rw [if_neg hc] at h
      have hra : right a = true := by
        cases hra : right a with
        | true => rfl
        | false => rw [hra] at hc; simp at hc
      rcases List.mem_cons.1 hv with rfl | hv
      · exact hra
      · cases he : enter a st with
        | none => rw [he] at h; cases h
        | some st2 => rw [he] at h; exact shape_right r _ _ _ h v hv
theorem any_right (l : List Val) : (l.any fun v => !R6.right v) = false ↔ ∀ v ∈ l, right v = true := by
  rw [List.any_eq_false]
  constructor
  · intro h v hv
    have := h v hv
    rw [R6.right_eq] at this
    simpa using this
  · intro h v hv
    rw [R6.right_eq, h v hv]
    decide
/-- The program's Encode is the reference's. -/
theorem encode_ref (l : List Val) : encode l = R6.encode l := by
  unfold encode R6.encode
  by_cases hn : 4096 < l.length
  · rw [if_pos hn, if_pos hn]
  · rw [if_neg hn, if_neg hn]
    unfold shape
    cases hs : shapeN l true [] 0 with
    | mk most ok =>
      by_cases hall : ∀ v ∈ l, right v = true
      · rw [if_neg (by rw [(any_right l).2 hall]; decide)]
        cases l with
        | nil =>
          rw [shapeN] at hs
          cases hs
          rfl
        | cons a r =>
          have hb := shape_beh (a :: r) true [] [] 0 0 hall trivial trivial (by simp) (.inl rfl)
          rw [hs] at hb
          have hbd : R6.behind (a :: r) 0 = behN (a :: r) [] 0 0 := rfl
          rw [← hbd, Nat.zero_add] at hb
          obtain ⟨hb1, hb2⟩ := hb
          simp only at hb1 hb2
          by_cases hbe : (R6.behind (a :: r) 0).1 = some (a :: r).length
          · have hdp := beh_deep (a :: r) [] 0 0
            rw [← hbd] at hdp
            have hit := it_of_beh (D := (R6.behind (a :: r) 0).2) hall hbe (Nat.le_refl _)
            have hdup := dup_it _ _ _ _ hit (a :: r) [] 0 (by simp)
            have hany : ((List.range (a :: r).length).any fun i => ((a :: r).getD i ⟨0, 0, []⟩).kind == 6 && R6.twice (a :: r) i) = anyT (a :: r) 0 (a :: r).length := by
              unfold anyT
              simp only [Nat.zero_add]
            rw [if_neg (by rw [hbe]; simp), hany, ← hdup]
            cases hdn : dupN (a :: r) [] with
            | true =>
              have hok : ok = false := by
                cases ok with
                | false => rfl
                | true => have := (hb1.1 rfl).2; rw [hdn] at this; cases this
              rw [hok]
              rfl
            | false =>
              have hok : ok = true := hb1.2 ⟨hbe, hdn⟩
              have hmost := hb2 hok
              rw [hok, if_neg (by decide), hmost]
              simp only [Bool.not_true, if_neg (show ¬ (false = true) by decide)]
              by_cases hm : 32 < (R6.behind (a :: r) 0).2
              · rw [if_pos hm, if_pos (.inl hm)]
              · rw [if_neg hm, encN_txt (a :: r) [] [] [] trivial hall, List.nil_append]
                have htot := total_le (a :: r) [] hall
                obtain ⟨t', q, g, e1, e2, e3⟩ := tell_it _ _ _ _ hit (a :: r) [] 0 ((a :: r).length + 1) (by simp) (by simp only [List.length_nil] at hdp; omega)
                rw [e1]
                by_cases hz : 262144 < (txtN (a :: r) []).length
                · rw [if_pos hz]
                  by_cases ht : 262144 < R6.total (a :: r)
                  · rw [if_pos (.inr ht)]
                  · rw [if_neg (by omega)]
                    cases g with
                    | true => rfl
                    | false =>
                      obtain ⟨rfl, _⟩ := e2 rfl
                      simp only [Bool.false_or]
                      rw [if_pos (decide_eq_true hz)]
                · rw [if_neg hz, if_neg (by omega)]
                  cases g with
                  | true => exact absurd (e3 rfl) hz
                  | false =>
                    obtain ⟨rfl, _⟩ := e2 rfl
                    simp only [Bool.false_or]
                    rw [decide_eq_false hz]
                    rfl
          · have hok : ok = false := by
              cases ok with
              | false => rfl
              | true => exact absurd (hb1.1 rfl).1 hbe
            rw [hok, if_pos (by rw [bne_iff_ne.2 hbe]; rfl)]
            rfl
      · have hok : ok = false := by
          cases ok with
          | false => rfl
          | true => exact absurd (shape_right l true [] 0 (by rw [hs])) hall
        rw [hok, if_pos]
        · rfl
        · cases ha : (l.any fun v => !R6.right v) with
          | true => rfl
          | false => exact absurd ((any_right l).1 ha) hall
end Go.Px.E6

/-! What is told is read: words, numbers, strings (plain law). No program is named here. -/
namespace Go.Px.E6
open R6 (at_ digit numNext numEnd numN)
variable {s r : Bytes} {lim : Lim} {p : Nat} {c : UInt8}
end Go.Px.E6

/-! What is told is read: strings (plain law). No program is named here. -/
namespace Go.Px.E6
open R6 (at_ digit)
variable {s r : Bytes} {lim : Lim} {p : Nat} {c : UInt8}
end Go.Px.E6

/-! What is told is read: one value, by the program's reader (plain law). No program is named here. -/
namespace Go.Px.E6
open R6 (at_ sep)
open D6 (Runs loopR afterS Dx Fm)
variable {s r : Bytes} {lim : Lim} {p : Nat} {st : List Fm} {o : List Val}
end Go.Px.E6

/-! What is told is read: arrays, objects (plain law). No program is named here. -/
namespace Go.Px.E6
open R6 (at_ sep)
open D6 (Runs loopR afterS Dx Fm)
variable {s r : Bytes} {lim : Lim} {p : Nat} {st : List Fm} {o : List Val}
end Go.Px.E6

/-! What is told is read: the list that it was (plain law: JsonBack). No program is named here. -/
namespace Go.Px.E6
open R6 (at_ sep)
open D6 (Runs loopR afterS Dx Fm)
end Go.Px.E6

/-! Valid strings, joined (plain law). No program is named here. -/
namespace Go.Px.E6
open Utf (utfE utfW)
theorem utfE_le {n x0 x1 x2 x3 : Nat} (hn : 1 ≤ n) : utfE n x0 x1 x2 x3 ≤ n := by
  unfold utfE
  repeat' split
  all_goals omega
theorem utfW_le {a : Bytes} : utfW a ≤ a.length := by
  by_cases h : a = []
  · subst h; exact Nat.le_refl _
  · rw [Utf.utfW_eq a h]
    exact utfE_le (by cases a with | nil => exact absurd rfl h | cons c r => simp)
end Go.Px.E6

/-! A string that is read is valid, and not longer than what was read (plain law). No program is named here. -/
namespace Go.Px.E6
open R6 (at_)
open Utf (utfE utfW)
variable {s : Bytes} {lim : Lim}
theorem want_ok {p c : Nat} (h : D6.want s lim p = .ok c) : p < s.length ∧ (p : Int) < lim.b ∧ c = at_ s p := by
  unfold D6.want at h
  by_cases h1 : s.length ≤ p
  · rw [if_pos h1] at h; cases h
  · rw [if_neg h1] at h
    by_cases h2 : lim.b ≤ p
    · rw [if_pos h2] at h; cases h
    · rw [if_neg h2] at h
      cases h
      exact ⟨by omega, by omega, rfl⟩
theorem sign8_len (n : Nat) : (R6.sign8 n).length ≤ 4 := by
  unfold R6.sign8
  repeat' split
  all_goals simp
theorem signN_ok {m p l h q : Nat} (e : D6.signN s lim (m + 1) p l h = .ok q) : p < s.length ∧ l ≤ at_ s p ∧ at_ s p ≤ h ∧ D6.signN s lim m (p + 1) 128 191 = .ok q := by
  rw [D6.signN] at e
  cases hw : D6.want s lim p with
  | error e2 => rw [hw] at e; cases e
  | ok c =>
    rw [hw] at e
    simp only at e
    obtain ⟨h1, _, rfl⟩ := want_ok hw
    by_cases hc : (decide (at_ s p < l) || decide (h < at_ s p)) = true
    · rw [if_pos hc] at e; cases e
    · rw [if_neg hc] at e
      simp only [Bool.or_eq_true, decide_eq_true_eq] at hc
      exact ⟨h1, by omega, by omega, e⟩
end Go.Px.E6

/-! What is read is right: the leaves (plain law, towards JsonNormal). No program is named here. -/
namespace Go.Px.E6
open R6 (at_ numN numNext numEnd)
variable {s : Bytes} {lim : Lim}
theorem toldC_six (c : UInt8) : (toldC c).length ≤ 6 := by
  unfold toldC
  repeat' split
  all_goals simp
theorem told_six (b : Bytes) : (told b).length ≤ 6 * b.length + 2 := by
  have h : (b.flatMap toldC).length ≤ 6 * b.length := by
    induction b with
    | nil => simp
    | cons c r ih =>
      have := toldC_six c
      rw [List.flatMap_cons, List.length_append, List.length_cons]
      omega
  unfold told
  rw [List.length_append, List.length_cons, List.length_singleton]
  omega
end Go.Px.E6
