/-
  Several texts in one: Package json's numeral is the reference's Number (plain law). No program is named here. The reference's Encode of package json as plain functions on plain data. No program is named here. Package json's shape is the reference's Behind, and no name twice (plain law). No program is named here. Lists of values that are one value: rows, their text, and whether a name stands twice (plain law). No program is named here. One value in a list: the reference's Behind goes over it, twice sees its names (plain law). No program is named here. The program's Encode of package json is the reference's (plain law). No program is named here. What is told is read: words, numbers, strings (plain law). No program is named here. What is told is read: strings (plain law). No program is named here. What is told is read: one value, by the program's reader (plain law). No program is named here. What is told is read: arrays, objects (plain law). No program is named here. What is told is read: the list that it was (plain law: JsonBack). No program is named here. Valid strings, joined (plain law). No program is named here. A string that is read is valid, and not longer than what was read (plain law). No program is named here. What is read is right: the leaves (plain law, towards JsonNormal). No program is named here.
-/
import Derived.Test.YtahojodgmjmpnaaDoorVM
import Derived.Test.YtahojodgmjmpnaaDoorVG
import Derived.Test.YtahojodgmjmpnaaDoorUtfP
/-! Package json's numeral is the reference's Number (plain law). No program is named here. -/
namespace Go.Px.E6
open R6 (digit numNext numEnd numN)
/-- Whether all bytes go on with a number's text, and end it. -/
def whole (q : Nat) (s : Bytes) : Bool := (numN q s).2 && (numN q s).1 == s.length
theorem whole_nil (q : Nat) : whole q [] = numEnd q := by unfold whole; simp [numN]
theorem whole_cons (q : Nat) (c : UInt8) (r : Bytes) : whole q (c :: r) = match numNext q c.toNat with
    | none => false
    | some k => whole k r := by
  unfold whole
  rw [numN]
  cases numNext q c.toNat with
  | none => simp
  | some k =>
    simp only [List.length_cons]
    congr 1
    rw [Bool.eq_iff_iff, beq_iff_eq, beq_iff_eq]
    omega
theorem digit_lo {c : Nat} (h : digit c = true) : 48 ≤ c ∧ c ≤ 57 := by
  unfold digit at h
  simpa using h
theorem next8' (c : Nat) : numNext 8 c = if digit c then some 8 else none := by simp [numNext]
theorem next7' (c : Nat) : numNext 7 c = if digit c then some 8 else none := by simp [numNext]
theorem next6' (c : Nat) : numNext 6 c = if c == 43 || c == 45 then some 7 else if digit c then some 8 else none := by simp [numNext]
theorem next5' (c : Nat) : numNext 5 c = if digit c then some 5 else if c == 101 || c == 69 then some 6 else none := by simp [numNext]
theorem next4' (c : Nat) : numNext 4 c = if digit c then some 5 else none := by simp [numNext]
theorem next3' (c : Nat) : numNext 3 c = if digit c then some 3 else if c == 46 then some 4 else if c == 101 || c == 69 then some 6 else none := by simp [numNext]
theorem next2' (c : Nat) : numNext 2 c = if c == 46 then some 4 else if c == 101 || c == 69 then some 6 else none := by simp [numNext]
theorem next1' (c : Nat) : numNext 1 c = if c == 48 then some 2 else if digit c then some 3 else none := by simp [numNext]
theorem next0' (c : Nat) : numNext 0 c = if c == 45 then some 1 else numNext 1 c := by simp [numNext]
theorem run_yes {c : UInt8} {r : Bytes} (h : digit c.toNat = true) : run (c :: r) = run r + 1 := by rw [run, if_pos h]
theorem run_no {c : UInt8} {r : Bytes} (h : digit c.toNat = false) : run (c :: r) = 0 := by rw [run, if_neg (by rw [h]; decide)]
theorem run_le (s : Bytes) : run s ≤ s.length := by
  induction s with
  | nil => exact Nat.le_refl _
  | cons c r ih =>
    cases h : digit c.toNat with
    | true => rw [run_yes h, List.length_cons]; omega
    | false => rw [run_no h]; exact Nat.zero_le _
theorem whole8 (s : Bytes) : whole 8 s = (run s == s.length) := by
  induction s with
  | nil => rfl
  | cons c r ih =>
    rw [whole_cons, next8']
    cases h : digit c.toNat with
    | true =>
      rw [run_yes h, List.length_cons]
      simp only [if_true]
      rw [ih, Bool.eq_iff_iff, beq_iff_eq, beq_iff_eq]
      omega
    | false =>
      rw [run_no h, List.length_cons]
      simp
theorem whole7 (s : Bytes) : whole 7 s = all s := by
  unfold all
  cases s with
  | nil => rfl
  | cons c r =>
    rw [whole_cons, next7']
    cases h : digit c.toNat with
    | true =>
      rw [run_yes h, List.length_cons]
      simp only [if_true]
      rw [whole8, Bool.eq_iff_iff, Bool.and_eq_true, beq_iff_eq, beq_iff_eq, decide_eq_true_eq]
      omega
    | false => rw [run_no h]; rfl
theorem whole6 (s : Bytes) : whole 6 s = expo s := by
  cases s with
  | nil => rfl
  | cons c r =>
    rw [whole_cons, next6']
    unfold expo unsign
    simp only
    by_cases h : (c.toNat == 43 || c.toNat == 45) = true
    · rw [if_pos h, if_pos h]
      exact whole7 r
    · rw [if_neg h, if_neg h, ← whole7, whole_cons, next7']
theorem tail_digit {c : UInt8} {r : Bytes} (h : digit c.toNat = true) : tail (c :: r) = false := by
  have := digit_lo h
  unfold tail
  simp only
  rw [if_neg]
  simp
  omega
theorem whole5 (s : Bytes) : whole 5 s = tail (s.drop (run s)) := by
  induction s with
  | nil => rfl
  | cons c r ih =>
    rw [whole_cons, next5']
    cases h : digit c.toNat with
    | true =>
      rw [run_yes h, List.drop_succ_cons]
      exact ih
    | false =>
      rw [run_no h, List.drop_zero]
      unfold tail
      simp only
      by_cases he : (c.toNat == 101 || c.toNat == 69) = true
      · rw [if_pos he, if_neg (by decide), if_pos he]
        exact whole6 r
      · rw [if_neg he, if_neg (by decide), if_neg he]
theorem whole4 (s : Bytes) : whole 4 s = if run s == 0 then false else tail (s.drop (run s)) := by
  cases s with
  | nil => rfl
  | cons c r =>
    rw [whole_cons, next4']
    cases h : digit c.toNat with
    | true =>
      rw [run_yes h, List.drop_succ_cons, if_pos rfl, if_neg (by simp)]
      exact whole5 r
    | false => rw [run_no h]; rfl
theorem whole2 (s : Bytes) : whole 2 s = frac s := by
  cases s with
  | nil => rfl
  | cons c r =>
    rw [whole_cons, next2']
    unfold frac
    simp only
    by_cases hd : (c.toNat == 46) = true
    · rw [if_pos hd, if_pos hd]
      exact whole4 r
    · rw [if_neg hd, if_neg hd]
      unfold tail
      simp only
      by_cases he : (c.toNat == 101 || c.toNat == 69) = true
      · rw [if_pos he, if_pos he]
        exact whole6 r
      · rw [if_neg he, if_neg he]
theorem frac_digit {c : UInt8} {r : Bytes} (h : digit c.toNat = true) : frac (c :: r) = false := by
  have := digit_lo h
  unfold frac
  simp only
  rw [if_neg (by simp; omega)]
  exact tail_digit h
theorem whole3 (s : Bytes) : whole 3 s = frac (s.drop (run s)) := by
  induction s with
  | nil => rfl
  | cons c r ih =>
    rw [whole_cons, next3']
    cases h : digit c.toNat with
    | true =>
      rw [run_yes h, List.drop_succ_cons]
      exact ih
    | false =>
      rw [run_no h, List.drop_zero, ← whole2, whole_cons, next2']
      rfl
theorem whole1 (s : Bytes) : whole 1 s = unum s := by
  unfold unum
  cases s with
  | nil => rfl
  | cons c r =>
    rw [whole_cons, next1']
    have h0 : R6.at_ (c :: r) 0 = c.toNat := rfl
    rw [h0]
    by_cases hz : (c.toNat == 48) = true
    · have hd : digit c.toNat = true := by rw [eq_of_beq hz]; rfl
      rw [if_pos hz, run_yes hd, hz, List.drop_succ_cons]
      simp only
      rw [whole2]
      cases hr : run r with
      | zero => simp
      | succ n =>
        rw [if_pos (by simp)]
        cases r with
        | nil => cases hr
        | cons c2 r2 =>
          cases h2 : digit c2.toNat with
          | true => exact frac_digit h2
          | false => rw [run_no h2] at hr; cases hr
    · rw [if_neg hz]
      cases h : digit c.toNat with
      | true =>
        rw [run_yes h, List.drop_succ_cons, if_pos rfl, if_neg (by simp; intro _ e; exact hz (by simpa using e))]
        exact whole3 r
      | false => rw [run_no h]; rfl
/-- Package json's numeral: all bytes are a number's text, and a whole one. -/
theorem numeral_whole (s : Bytes) : numeral s = ((R6.number s).2 && (R6.number s).1 == s.length) := by
  show numeral s = whole 0 s
  cases s with
  | nil => rfl
  | cons c r =>
    rw [whole_cons, next0']
    unfold numeral unsigned
    simp only
    by_cases hm : (c.toNat == 45) = true
    · rw [if_pos hm, if_pos hm]
      exact (whole1 r).symm
    · rw [if_neg hm, if_neg hm, ← whole1, whole_cons]
end Go.Px.E6

/-! The reference's Encode of package json as plain functions on plain data. No program is named here. -/
namespace Go.Px.R6
/-- May a value be, but for its Kids' kinds? -/
def right (v : Val) : Bool :=
  if decide (v.kids < 0) || (decide (0 < v.kids) && v.kind != 5 && v.kind != 6) || (v.kind == 6 && v.kids.tmod 2 != 0) then false
  else if v.kind == 3 then (number v.text).2 && (number v.text).1 == v.text.length
  else if v.kind == 4 then Lib.validD v.text
  else if v.kind == 0 || v.kind == 1 || v.kind == 2 || v.kind == 5 || v.kind == 6 then v.text == []
  else false
/-- One that is begun: how many are left, how many all are, an object. -/
structure Bf where
  left : Nat
  all : Nat
  obj : Bool
def bad (v : Val) : List Bf → Bool
  | [] => false
  | b :: _ => b.obj && (b.all - b.left) % 2 == 0 && v.kind != 4
def less : List Bf → List Bf
  | [] => []
  | b :: r => { b with left := b.left - 1 } :: r
def opened (v : Val) (st : List Bf) : List Bf := if v.kind == 5 || v.kind == 6 then ⟨v.kids.toNat, v.kids.toNat, v.kind == 6⟩ :: st else st
def drop0 : List Bf → List Bf
  | [] => []
  | b :: r => if b.left = 0 then drop0 r else b :: r
def behN : List Val → List Bf → Nat → Nat → Option Nat × Nat
  | [], _, most, _ => (none, most)
  | v :: r, st, most, i =>
    if v.kids < 0 then (none, most)
    else if bad v st then (none, most)
    else match drop0 (opened v (less st)) with
      | [] => (some (i + 1), max most (opened v (less st)).length)
      | b :: q => behN r (b :: q) (max most (opened v (less st)).length) (i + 1)
/-- The place behind the value at a place; how many stand within one another. -/
def behind (l : List Val) (p : Nat) : Option Nat × Nat := behN (l.drop p) [] 0 p
def twN (l : List Val) : Nat → Nat → Nat → List Bytes → Bool
  | 0, _, _, _ => false
  | m + 1, i, next, names =>
    if i % 2 == 0 then
      (if names.contains (l.getD next ⟨0, 0, []⟩).text then true
       else twN l m (i + 1) ((behind l next).1.getD 0) (names ++ [(l.getD next ⟨0, 0, []⟩).text]))
    else twN l m (i + 1) ((behind l next).1.getD 0) names
/-- Has an object at a place a name twice? -/
def twice (l : List Val) (p : Nat) : Bool := twN l (l.getD p ⟨0, 0, []⟩).kids.toNat 0 (p + 1) []
/-- The value that stands at a place, told; the place behind it; too long. -/
structure Ts where
  at_ : Nat
  bad : Bool
  long : Bool
def sep (obj : Bool) (i : Nat) : Bytes := if obj && i % 2 == 1 then [58] else if 0 < i then [44] else []
def kidsT (rc : Ts → Bytes × Ts) (obj : Bool) : Nat → Nat → Ts → Bytes → Bytes × Ts
  | 0, _, x, out => (out, x)
  | m + 1, i, x, out =>
    if x.bad || x.long then (out, x)
    else
      kidsT rc obj m (i + 1) { (rc x).2 with long := (rc x).2.long || decide (262144 < (out ++ sep obj i ++ (rc x).1).length) } (out ++ sep obj i ++ (rc x).1)
def tell (l : List Val) : Nat → Ts → Bytes × Ts
  | 0, x => ([], x)
  | m + 1, x =>
    if l.length ≤ x.at_ ∨ x.bad = true then ([], { x with bad := true })
    else
      let v := l.getD x.at_ ⟨0, 0, []⟩
      if v.kind == 0 || v.kind == 1 || v.kind == 2 || v.kind == 3 || v.kind == 4 then (E6.body v, { x with at_ := x.at_ + 1 })
      else
        let k := kidsT (tell l m) (v.kind == 6) v.kids.toNat 0 { x with at_ := x.at_ + 1 } []
        ((if v.kind == 5 then 91 else 123) :: k.1 ++ [if v.kind == 5 then 93 else 125], k.2)
def total : List Val → Nat
  | [] => 0
  | v :: r => v.text.length + total r
def encode (l : List Val) : Bytes × Int :=
  if 4096 < l.length then ([], 10)
  else if l.any (fun v => !right v) then ([], 9)
  else if (behind l 0).1 != some l.length || l.isEmpty then ([], 9)
  else if (List.range l.length).any (fun i => (l.getD i ⟨0, 0, []⟩).kind == 6 && twice l i) then ([], 9)
  else if 32 < (behind l 0).2 ∨ 262144 < total l then ([], 10)
  else
    let t := tell l (l.length + 1) ⟨0, false, false⟩
    if t.2.long || decide (262144 < t.1.length) then ([], 10) else (t.1, 0)
/-- What may be is the same. -/
theorem right_eq (v : Val) : right v = E6.right v := by
  unfold right E6.right
  rw [E6.numeral_whole]
  by_cases hneg : v.kids < 0
  · rw [if_pos (by simp [hneg])]
    have h0 : (v.kids == 0) = false := by simp; omega
    have h1 : decide (0 ≤ v.kids) = false := by simp; omega
    rw [h0, h1]
    simp
  · have h1 : decide (0 ≤ v.kids) = true := by simp; omega
    rw [h1]
    by_cases h5 : v.kind = 5
    · simp [h5, hneg]
    · by_cases h6 : v.kind = 6
      · simp only [h6, hneg]
        by_cases ht : v.kids.tmod 2 = 0 <;> simp [ht]
      · by_cases hp : 0 < v.kids
        · have h0 : (v.kids == 0) = false := by simp; omega
          rw [if_pos (by simp [hp, h5, h6]), h0]
          simp [h5, h6]
        · have h0 : v.kids = 0 := by omega
          simp [h0, h5, h6]
          split
          · rename_i h3
            simp [h3]
          · split
            · rename_i h4
              simp [h4]
            · rename_i h3 h4
              by_cases hk : (v.kind = 0 ∨ v.kind = 1) ∨ v.kind = 2
              · rw [if_pos hk]
                rcases hk with (e | e) | e <;> simp [e]
              · rw [if_neg hk]
                have a0 : ¬ v.kind = 0 := fun e => hk (.inl (.inl e))
                have a1 : ¬ v.kind = 1 := fun e => hk (.inl (.inr e))
                have a2 : ¬ v.kind = 2 := fun e => hk (.inr e)
                simp [a0, a1, a2, h4]
end Go.Px.R6

/-! Package json's shape is the reference's Behind, and no name twice (plain law). No program is named here. -/
namespace Go.Px.E6
open R6 (Bf bad less opened drop0 behN)
/-- The same one, in the program's words and in the reference's. -/
structure Rel (o : Op) (b : Bf) : Prop where
  kind : o.kind = 5 ∨ o.kind = 6
  obj : b.obj = (o.kind == 6)
  all : o.all = (b.all : Int)
  sum : o.told + b.left = b.all
def Rels : List Op → List Bf → Prop
  | [], [] => True
  | o :: r, b :: q => Rel o b ∧ Rels r q
  | _, _ => False
def Live : List Bf → Prop
  | [] => True
  | b :: _ => b.left ≠ 0
/-- A name that stands twice. -/
def dup (v : Val) : List Op → Bool
  | [] => false
  | o :: _ => o.kind == 6 && o.told % 2 == 0 && o.names.contains v.text
/-- A value is told in the innermost one, whatever it is. -/
def grown (v : Val) : List Op → List Op
  | [] => []
  | o :: r => { o with names := if o.kind == 6 && o.told % 2 == 0 then o.names ++ [v.text] else o.names, told := o.told + 1 } :: r
def dupN : List Val → List Op → Bool
  | [], _ => false
  | v :: r, st => dup v st || dupN r (close (begun v (grown v st)))
variable {st : List Op} {bs : List Bf} {v : Val}
theorem Rels.len : ∀ {st : List Op} {bs : List Bf}, Rels st bs → st.length = bs.length
  | [], [], _ => rfl
  | [], _ :: _, h => h.elim
  | _ :: _, [], h => h.elim
  | _ :: r, _ :: q, h => by rw [List.length_cons, List.length_cons, Rels.len h.2]
theorem Rels.close : ∀ {st : List Op} {bs : List Bf}, Rels st bs → Rels (close st) (drop0 bs)
  | [], [], _ => trivial
  | [], _ :: _, h => h.elim
  | _ :: _, [], h => h.elim
  | o :: r, b :: q, h => by
    unfold E6.close drop0
    have h1 := h.1.all
    have h2 := h.1.sum
    by_cases hz : b.left = 0
    · rw [if_pos (by omega), if_pos hz]
      exact Rels.close h.2
    · rw [if_neg (by omega), if_neg hz]
      exact h
theorem live_drop0 : ∀ (bs : List Bf), Live (drop0 bs)
  | [] => trivial
  | b :: q => by
    unfold drop0
    by_cases hz : b.left = 0
    · rw [if_pos hz]; exact live_drop0 q
    · rw [if_neg hz]; exact hz
theorem enter_grown (hd : dup v st = false) (h : Rels st bs) (hb : bad v bs = false) : enter v st = some (grown v st) := by
  cases st with
  | nil => rfl
  | cons o r =>
    cases bs with
    | nil => exact h.elim
    | cons b q =>
      have h1 := h.1.obj
      have h2 := h.1.sum
      have hb : (b.obj && (b.all - b.left) % 2 == 0 && v.kind != 4) = false := hb
      have hd : (o.kind == 6 && o.told % 2 == 0 && o.names.contains v.text) = false := hd
      simp only [enter, grown]
      have e : b.all - b.left = o.told := by omega
      rw [h1, e] at hb
      by_cases ho : (o.kind == 6 && o.told % 2 == 0) = true
      · rw [ho] at hb hd ⊢
        have hb' : v.kind = 4 := by simpa using hb
        have hd' : o.names.contains v.text = false := by simpa using hd
        have hx : (v.kind != 4 || o.names.contains v.text) = false := by rw [hd', hb']; rfl
        rw [if_pos rfl, if_neg (by rw [hx]; decide)]
        rfl
      · rw [if_neg ho, if_neg ho]
theorem enter_none (h : Rels st bs) (hx : dup v st = true ∨ bad v bs = true) : enter v st = none := by
  cases st with
  | nil =>
    cases bs with
    | nil => rcases hx with e | e <;> cases e
    | cons b q => exact h.elim
  | cons o r =>
    cases bs with
    | nil => exact h.elim
    | cons b q =>
      have h1 := h.1.obj
      have h2 := h.1.sum
      have e : b.all - b.left = o.told := by omega
      have hx : (o.kind == 6 && o.told % 2 == 0 && o.names.contains v.text) = true ∨ (b.obj && (b.all - b.left) % 2 == 0 && v.kind != 4) = true := hx
      rw [h1, e] at hx
      simp only [enter]
      have ho : (o.kind == 6 && o.told % 2 == 0) = true := by
        rcases hx with hx | hx
        · simp only [Bool.and_eq_true] at hx ⊢; exact hx.1
        · simp only [Bool.and_eq_true] at hx ⊢; exact hx.1
      rw [if_pos ho, if_pos]
      rw [ho] at hx
      rcases hx with hx | hx
      · rw [show o.names.contains v.text = true by simpa using hx, Bool.or_true]
      · rw [show (v.kind != 4) = true by simpa using hx]; rfl
theorem Rels.grown (h : Rels st bs) (hl : Live bs) : Rels (grown v st) (less bs) := by
  cases st with
  | nil =>
    cases bs with
    | nil => trivial
    | cons b q => exact h.elim
  | cons o r =>
    cases bs with
    | nil => exact h.elim
    | cons b q =>
      have h2 := h.1.sum
      have hl : b.left ≠ 0 := hl
      refine ⟨⟨h.1.kind, h.1.obj, h.1.all, ?_⟩, h.2⟩
      show o.told + 1 + (b.left - 1) = b.all
      omega
theorem right_kids (h : right v = true) : (5 ≤ v.kind → (v.kind = 5 ∨ v.kind = 6)) ∧ 0 ≤ v.kids := by
  rw [← R6.right_eq] at h
  unfold R6.right at h
  split at h
  · cases h
  · rename_i hc
    have h0 : ¬ v.kids < 0 := fun e => hc (by simp [e])
    refine ⟨fun h5 => ?_, by omega⟩
    by_cases e5 : v.kind = 5
    · exact .inl e5
    · by_cases e6 : v.kind = 6
      · exact .inr e6
      · split at h
        · rename_i e; have : v.kind = 3 := by simpa using e
          omega
        · split at h
          · rename_i e; have : v.kind = 4 := by simpa using e
            omega
          · split at h
            · rename_i e
              simp only [Bool.or_eq_true, beq_iff_eq] at e
              omega
            · cases h
theorem Rels.begun (h : Rels st bs) (hr : right v = true) : Rels (begun v st) (opened v bs) := by
  obtain ⟨h1, h2⟩ := right_kids hr
  unfold E6.begun opened
  by_cases h5 : 5 ≤ v.kind
  · rw [if_pos (by simpa using h5), if_pos (by rcases h1 h5 with e | e <;> simp [e])]
    exact ⟨⟨h1 h5, rfl, by show v.kids = ((v.kids.toNat : Nat) : Int); omega, by show 0 + v.kids.toNat = v.kids.toNat; omega⟩, h⟩
  · rw [if_neg (by simpa using h5), if_neg (by simp; omega)]
    exact h
theorem shape_beh : ∀ (l : List Val) (first : Bool) (st : List Op) (bs : List Bf) (most i : Nat), (∀ v ∈ l, right v = true) → Rels st bs → Live bs → l ≠ [] → (first = true ∨ st ≠ []) →
    ((shapeN l first st most).2 = true ↔ ((behN l bs most i).1 = some (i + l.length) ∧ dupN l st = false)) ∧ ((shapeN l first st most).2 = true → (shapeN l first st most).1 = (behN l bs most i).2)
  | [], _, _, _, _, _, _, _, _, hne, _ => absurd rfl hne
  | v :: r, first, st, bs, most, i, hall, h, hl, _, hf => by
    have hr := hall v (List.mem_cons_self ..)
    have hk := (right_kids hr).2
    rw [shapeN, behN, dupN]
    have hc : ((!first && st.isEmpty) || !right v) = false := by
      rw [hr]
      rcases hf with e | e
      · rw [e]; rfl
      · have : st.isEmpty = false := by simpa using e
        rw [this]; simp
    rw [if_neg (by rw [hc]; decide), if_neg (by omega)]
    by_cases hx : dup v st = true ∨ bad v bs = true
    · rw [enter_none h hx]
      refine ⟨⟨fun e => (by cases e), fun ⟨e1, e2⟩ => ?_⟩, fun e => (by cases e)⟩
      rcases hx with hx | hx
      · rw [hx] at e2; cases e2
      · rw [if_pos hx] at e1; cases e1
    · have hd : dup v st = false := by simpa using fun e => hx (.inl e)
      have hb : bad v bs = false := by simpa using fun e => hx (.inr e)
      rw [enter_grown hd h hb, hd, if_neg (by rw [hb]; decide)]
      have hg : Rels (grown v st) (less bs) := h.grown hl
      have ho : Rels (begun v (grown v st)) (opened v (less bs)) := hg.begun hr
      have hcl := ho.close
      have hlen := ho.len
      have hlv := live_drop0 (opened v (less bs))
      simp only [Bool.false_or]
      rw [hlen]
      obtain ⟨st3, hst3⟩ : ∃ x, x = close (begun v (grown v st)) := ⟨_, rfl⟩
      obtain ⟨bs3, hbs3⟩ : ∃ x, x = drop0 (opened v (less bs)) := ⟨_, rfl⟩
      rw [← hst3, ← hbs3] at hcl
      rw [← hbs3] at hlv
      rw [← hst3, ← hbs3]
      cases bs3 with
      | nil =>
        cases st3 with
        | cons o q => exact hcl.elim
        | nil =>
          cases r with
          | nil => exact ⟨⟨fun _ => ⟨rfl, rfl⟩, fun _ => rfl⟩, fun _ => rfl⟩
          | cons v2 r2 =>
            refine ⟨⟨fun e => ?_, fun ⟨e, _⟩ => ?_⟩, fun e => ?_⟩
            · rw [shapeN, if_pos (by rfl)] at e; cases e
            · simp at e
            · rw [shapeN, if_pos (by rfl)] at e; cases e
      | cons b q =>
        cases st3 with
        | nil => exact hcl.elim
        | cons o t =>
          cases r with
          | nil =>
            refine ⟨⟨fun e => ?_, fun ⟨e, _⟩ => ?_⟩, fun e => ?_⟩
            · rw [shapeN] at e; cases e
            · simp [behN] at e
            · rw [shapeN] at e; cases e
          | cons v2 r2 =>
            have ih := shape_beh (v2 :: r2) false (o :: t) (b :: q) (max most (opened v (less bs)).length) (i + 1) (fun u hu => hall u (List.mem_cons_of_mem _ hu)) hcl hlv (by simp) (.inr (by simp))
            rw [show i + (v :: v2 :: r2).length = i + 1 + (v2 :: r2).length by simp only [List.length_cons]; omega]
            exact ih
end Go.Px.E6

/-! Lists of values that are one value: rows, their text, and whether a name stands twice (plain law). No program is named here. -/
namespace Go.Px.E6
open R6 (Bf bad less opened drop0 behN sep)
/-! Values in a row -/
def nmOf (x : List Val) : Bytes := (x.headD ⟨0, 0, []⟩).text
def Kids (R : List Val → Bytes → Bool → Prop) (ob : Bool) : Nat → Nat → List Bytes → List Val → Bytes → Bool → Prop
  | 0, _, _, l, t, dp => l = [] ∧ t = [] ∧ dp = false
  | m + 1, i, nm, l, t, dp => ∃ x y u v d1 d2, l = x ++ y ∧ t = sep ob i ++ u ++ v ∧ R x u d1 ∧ (ob = true → i % 2 = 0 → ∃ a : Val, x = [a] ∧ a.kind = 4) ∧
      Kids R ob m (i + 1) (if ob && i % 2 == 0 then nm ++ [nmOf x] else nm) y v d2 ∧ dp = ((ob && i % 2 == 0 && nm.contains (nmOf x)) || d1 || d2)
def opn (a : Val) : UInt8 := if a.kind == 5 then 91 else 123
def cls (k : Int) : UInt8 := if k == 5 then 93 else 125
/-- One value, within which at most d stand within one another: its text, and whether a name stands twice. -/
def ItF : Nat → List Val → Bytes → Bool → Prop
  | 0, l, t, dp => ∃ a, l = [a] ∧ right a = true ∧ a.kind ≤ 4 ∧ t = body a ∧ dp = false
  | d + 1, l, t, dp => (∃ a, l = [a] ∧ right a = true ∧ a.kind ≤ 4 ∧ t = body a ∧ dp = false) ∨
      (∃ a r u, l = a :: r ∧ right a = true ∧ 5 ≤ a.kind ∧ t = opn a :: u ++ [cls a.kind] ∧ Kids (ItF d) (a.kind == 6) a.kids.toNat 0 [] r u dp)
theorem ItF.one {d : Nat} {a : Val} (h1 : right a = true) (h2 : a.kind ≤ 4) : ItF d [a] (body a) false := by
  cases d with
  | zero => exact ⟨a, rfl, h1, h2, rfl, rfl⟩
  | succ d => exact .inl ⟨a, rfl, h1, h2, rfl, rfl⟩
theorem ItF.node {d : Nat} {a : Val} {r : List Val} {u : Bytes} {dp : Bool} (h1 : right a = true) (h2 : 5 ≤ a.kind) (h3 : Kids (ItF d) (a.kind == 6) a.kids.toNat 0 [] r u dp) : ItF (d + 1) (a :: r) (opn a :: u ++ [cls a.kind]) dp := .inr ⟨a, r, u, rfl, h1, h2, rfl, h3⟩
theorem ItF.pos {d : Nat} {l : List Val} {t : Bytes} {dp : Bool} (h : ItF d l t dp) : 1 ≤ l.length := by
  cases d with
  | zero => obtain ⟨a, rfl, _⟩ := h; exact Nat.le_refl _
  | succ d =>
    rcases h with ⟨a, rfl, _⟩ | ⟨a, r, u, rfl, _⟩
    · exact Nat.le_refl _
    · simp
/-- The text that is told, without limits. -/
def txtN : List Val → List Op → Bytes
  | [], _ => []
  | v :: r, st => ahead st ++ body v ++ ends (begun v (grown v st)) ++ txtN r (close (begun v (grown v st)))
def Stk (D : Nat) : List Op → List Val → Bytes → Bool → Prop
  | [], l, t, dp => l = [] ∧ t = [] ∧ dp = false
  | o :: r, l, t, dp => ∃ l1 l2 u v d1 d2, l = l1 ++ l2 ∧ t = u ++ (cls o.kind :: v) ∧ Kids (ItF (D - (r.length + 1))) (o.kind == 6) (o.all.toNat - o.told) o.told o.names l1 u d1 ∧ Stk D r l2 v d2 ∧ dp = (d1 || d2)
theorem Stk.close {D : Nat} : ∀ {st : List Op} {l : List Val} {t : Bytes} {dp : Bool}, Stk D (close st) l t dp → Stk D st l (ends st ++ t) dp
  | [], _, _, _, h => h
  | o :: r, l, t, dp, h => by
    unfold E6.close at h
    unfold ends
    by_cases hz : (o.told : Int) = o.all
    · rw [if_pos hz] at h ⊢
      refine ⟨[], l, [], ends r ++ t, false, dp, rfl, rfl, ?_, Stk.close h, by simp⟩
      rw [show o.all.toNat - o.told = 0 by omega]
      exact ⟨rfl, rfl, rfl⟩
    · rw [if_neg hz] at h ⊢
      exact h
theorem beh_most : ∀ (l : List Val) (bs : List Bf) (most i : Nat), most ≤ (behN l bs most i).2
  | [], _, _, _ => Nat.le_refl _
  | v :: r, bs, most, i => by
    rw [behN]
    by_cases h1 : v.kids < 0
    · rw [if_pos h1]; exact Nat.le_refl _
    · rw [if_neg h1]
      by_cases h2 : bad v bs = true
      · rw [if_pos h2]; exact Nat.le_refl _
      · rw [if_neg h2]
        cases drop0 (opened v (less bs)) with
        | nil => exact Nat.le_max_left _ _
        | cons b q => exact Nat.le_trans (Nat.le_max_left _ _) (beh_most r (b :: q) _ (i + 1))
theorem stk_of_beh (D : Nat) : ∀ (l : List Val) (st : List Op) (bs : List Bf) (most i : Nat), (∀ v ∈ l, right v = true) → Rels st bs → Live bs → (behN l bs most i).1 = some (i + l.length) → (behN l bs most i).2 ≤ D → st ≠ [] →
    Stk D st l (txtN l st) (dupN l st)
  | [], _, _, _, _, _, _, _, h, _, _ => by rw [behN] at h; cases h
  | a :: r, [], _, _, _, _, _, _, _, _, hne => absurd rfl hne
  | a :: r, o :: rest, [], _, _, _, hrel, _, _, _, _ => hrel.elim
  | a :: r, o :: rest, b :: q, most, i, hall, hrel, hl, hb, hD, _ => by
    have hr := hall a (List.mem_cons_self ..)
    obtain ⟨hk1, hk2⟩ := right_kids hr
    have hl0 : b.left ≠ 0 := hl
    have r1 := hrel.1.obj
    have r2 := hrel.1.all
    have r3 := hrel.1.sum
    have hg : Rels (grown a (o :: rest)) (less (b :: q)) := hrel.grown hl
    have ho : Rels (begun a (grown a (o :: rest))) (opened a (less (b :: q))) := hg.begun hr
    have hcl := ho.close
    have hlen := ho.len
    have hlv := live_drop0 (opened a (less (b :: q)))
    rw [behN, if_neg (by omega)] at hb hD
    by_cases hbad : bad a (b :: q) = true
    · rw [if_pos hbad] at hb; cases hb
    · rw [if_neg hbad] at hb hD
      have hfa : (b.obj && (b.all - b.left) % 2 == 0 && a.kind != 4) = false := Bool.eq_false_iff.2 hbad
      rw [r1, show b.all - b.left = o.told by omega] at hfa
      -- what the rest of the list is
      have key : Stk D (begun a (grown a (o :: rest))) r (ends (begun a (grown a (o :: rest))) ++ txtN r (close (begun a (grown a (o :: rest))))) (dupN r (close (begun a (grown a (o :: rest))))) ∧ (begun a (grown a (o :: rest))).length ≤ D := by
        rw [hlen]
        obtain ⟨st3, hst3⟩ : ∃ x, x = close (begun a (grown a (o :: rest))) := ⟨_, rfl⟩
        obtain ⟨bs3, hbs3⟩ : ∃ x, x = drop0 (opened a (less (b :: q))) := ⟨_, rfl⟩
        rw [← hbs3] at hb hD hcl hlv
        rw [← hst3] at hcl ⊢
        cases bs3 with
        | nil =>
          cases st3 with
          | cons o2 q2 => exact hcl.elim
          | nil =>
            have hr0 : r = [] := by
              have : i + 1 = i + (a :: r).length := Option.some.inj hb
              rw [List.length_cons] at this
              exact List.length_eq_zero_iff.1 (by omega)
            subst hr0
            refine ⟨Stk.close ?_, Nat.le_trans (Nat.le_max_right _ _) hD⟩
            rw [← hst3]
            exact ⟨rfl, rfl, rfl⟩
        | cons b2 q2 =>
          cases st3 with
          | nil => exact hcl.elim
          | cons o2 t2 =>
            have hmm := beh_most r (b2 :: q2) (max most (opened a (less (b :: q))).length) (i + 1)
            refine ⟨Stk.close ?_, by simp only at hD; omega⟩
            rw [← hst3]
            exact stk_of_beh D r (o2 :: t2) (b2 :: q2) _ (i + 1) (fun u hu => hall u (List.mem_cons_of_mem _ hu)) hcl hlv (by rw [hb, List.length_cons]; congr 1; omega) hD (by simp)
      obtain ⟨key, hlD⟩ := key
      rw [txtN, dupN]
      have hrem : o.all.toNat - o.told = (o.all.toNat - (o.told + 1)) + 1 := by omega
      have hahd : ahead (o :: rest) = sep (o.kind == 6) o.told := rfl
      have hname : (o.kind == 6) = true → o.told % 2 = 0 → a.kind = 4 := by
        intro e1 e2
        rw [e1, e2] at hfa
        simpa using hfa
      unfold begun at key hlD ⊢
      by_cases h5 : 5 ≤ a.kind
      · rw [if_pos (by simpa using h5)] at key hlD ⊢
        obtain ⟨l1, l2, u, v, d1, d2, rfl, e2, k1, ⟨l3, l4, u2, v2, d3, d4, rfl, e4, k3, k4, e5⟩, e6⟩ := key
        rw [List.append_assoc, e2, e4]
        have hit : ItF (D - (rest.length + 1)) (a :: l1) (opn a :: u ++ [cls a.kind]) d1 := by
          have hd1 : D - (rest.length + 1) = D - ((o :: rest).length + 1) + 1 := by simp only [grown, List.length_cons] at hlD ⊢; omega
          rw [hd1]
          exact ItF.node hr h5 k1
        have hbod : body a = [opn a] := by
          unfold body opn
          rcases hk1 h5 with e | e <;> rw [e] <;> rfl
        have hdup : dup a (o :: rest) = (o.kind == 6 && o.told % 2 == 0 && o.names.contains (nmOf (a :: l1))) := rfl
        refine ⟨a :: l1 ++ l3, l4, sep (o.kind == 6) o.told ++ (opn a :: u ++ [cls a.kind]) ++ u2, v2, dup a (o :: rest) || d1 || d3, d4, by simp, ?_, ?_, k4, ?_⟩
        · rw [hahd, hbod]
          simp
        · rw [hrem]
          exact ⟨a :: l1, l3, _, u2, d1, d3, rfl, rfl, hit, fun e1 e2 => by have := hname e1 (by simpa using e2); omega, k3, by rw [hdup]⟩
        · rw [e6, e5]
          cases dup a (o :: rest) <;> cases d1 <;> cases d3 <;> cases d4 <;> rfl
      · rw [if_neg (by simpa using h5)] at key hlD ⊢
        obtain ⟨l1, l2, u, v, d1, d2, rfl, e2, k1, k2, e6⟩ := key
        rw [List.append_assoc, e2]
        have hdup : dup a (o :: rest) = (o.kind == 6 && o.told % 2 == 0 && o.names.contains (nmOf [a])) := rfl
        refine ⟨a :: l1, l2, sep (o.kind == 6) o.told ++ body a ++ u, v, dup a (o :: rest) || d1, d2, rfl, ?_, ?_, k2, ?_⟩
        · rw [hahd]
          simp
        · rw [hrem]
          exact ⟨[a], l1, _, u, false, d1, rfl, rfl, ItF.one hr (by omega), fun e1 e2 => ⟨a, rfl, hname e1 (by simpa using e2)⟩, k1, by rw [hdup]; simp⟩
        · rw [e6, Bool.or_assoc]
/-- A list that Behind goes through is one value. -/
theorem it_of_beh {D : Nat} {l : List Val} (hall : ∀ v ∈ l, right v = true) (hb : (R6.behind l 0).1 = some l.length) (hD : (R6.behind l 0).2 ≤ D) : ItF D l (txtN l []) (dupN l []) := by
  unfold R6.behind at hb hD
  rw [List.drop_zero] at hb hD
  cases l with
  | nil => rw [behN] at hb; cases hb
  | cons a r =>
    have hr := hall a (List.mem_cons_self ..)
    obtain ⟨hk1, hk2⟩ := right_kids hr
    have hg : Rels (grown a []) (less []) := trivial
    have ho : Rels (begun a (grown a [])) (opened a (less [])) := hg.begun hr
    have hcl := ho.close
    have hlen := ho.len
    have hlv := live_drop0 (opened a (less []))
    rw [behN, if_neg (by omega), if_neg (by simp [bad])] at hb hD
    have key : Stk D (begun a (grown a [])) r (ends (begun a (grown a [])) ++ txtN r (close (begun a (grown a [])))) (dupN r (close (begun a (grown a [])))) ∧ (begun a (grown a [])).length ≤ D := by
      rw [hlen]
      obtain ⟨st3, hst3⟩ : ∃ x, x = close (begun a (grown a [])) := ⟨_, rfl⟩
      obtain ⟨bs3, hbs3⟩ : ∃ x, x = drop0 (opened a (less [])) := ⟨_, rfl⟩
      rw [← hbs3] at hb hD hcl hlv
      rw [← hst3] at hcl ⊢
      cases bs3 with
      | nil =>
        cases st3 with
        | cons o2 q2 => exact hcl.elim
        | nil =>
          have hr0 : r = [] := by
            have : 0 + 1 = (a :: r).length := Option.some.inj hb
            rw [List.length_cons] at this
            exact List.length_eq_zero_iff.1 (by omega)
          subst hr0
          refine ⟨Stk.close ?_, Nat.le_trans (Nat.le_max_right _ _) hD⟩
          rw [← hst3]
          exact ⟨rfl, rfl, rfl⟩
      | cons b2 q2 =>
        cases st3 with
        | nil => exact hcl.elim
        | cons o2 t2 =>
          have hmm := beh_most r (b2 :: q2) (max 0 (opened a (less [])).length) (0 + 1)
          refine ⟨Stk.close ?_, by simp only at hD; omega⟩
          rw [← hst3]
          exact stk_of_beh D r (o2 :: t2) (b2 :: q2) _ (0 + 1) (fun u hu => hall u (List.mem_cons_of_mem _ hu)) hcl hlv (by rw [hb, List.length_cons]; congr 1; omega) hD (by simp)
    obtain ⟨key, hlD⟩ := key
    rw [txtN, dupN]
    unfold begun at key hlD ⊢
    by_cases h5 : 5 ≤ a.kind
    · rw [if_pos (by simpa using h5)] at key hlD ⊢
      obtain ⟨l1, l2, u, v, d1, d2, rfl, e2, k1, ⟨rfl, rfl, rfl⟩, e6⟩ := key
      have hbod : body a = [opn a] := by
        unfold body opn
        rcases hk1 h5 with e | e <;> rw [e] <;> rfl
      rw [List.append_assoc, e2, hbod, e6]
      have hd1 : D = D - (([] : List Op).length + 1) + 1 := by simp only [grown, List.length_cons, List.length_nil] at hlD ⊢; omega
      rw [hd1, List.append_nil]
      have := ItF.node (d := D - (([] : List Op).length + 1)) hr h5 k1
      simpa [ahead, dup] using this
    · rw [if_neg (by simpa using h5)] at key hlD ⊢
      obtain ⟨rfl, e2, e3⟩ := key
      have e2' : ends (grown a []) ++ txtN [] (close (grown a [])) = [] := rfl
      rw [List.append_assoc, e2', e3]
      simpa [ahead, dup] using ItF.one (d := D) hr (by omega)
end Go.Px.E6

/-! One value in a list: the reference's Behind goes over it, twice sees its names (plain law). No program is named here. -/
namespace Go.Px.E6
open R6 (Bf bad less opened drop0 behN sep)
def afterB (st : List Bf) (r : List Val) (m i : Nat) : Option Nat × Nat := match drop0 st with
  | [] => (some i, m)
  | b :: q => behN r (b :: q) m i
theorem beh_step {a : Val} {bs : List Bf} (r : List Val) (most i : Nat) (hr : right a = true) (hb : bad a bs = false) : behN (a :: r) bs most i = afterB (opened a (less bs)) r (max most (opened a (less bs)).length) (i + 1) := by
  have hk := (right_kids hr).2
  rw [behN, if_neg (by omega), if_neg (by rw [hb]; decide)]
  unfold afterB
  cases drop0 (opened a (less bs)) <;> rfl
theorem afterB_zero (k : Nat) (ob : Bool) (st : List Bf) (r : List Val) (m i : Nat) : afterB (⟨0, k, ob⟩ :: st) r m i = afterB st r m i := by
  unfold afterB
  rw [drop0, if_pos rfl]
theorem afterB_live (n k : Nat) (ob : Bool) (st : List Bf) (r : List Val) (m i : Nat) : afterB (⟨n + 1, k, ob⟩ :: st) r m i = behN r (⟨n + 1, k, ob⟩ :: st) m i := by
  unfold afterB
  rw [drop0, if_neg (by simp)]
theorem bad_kids {ob : Bool} {m k : Nat} {st : List Bf} {a : Val} (h : ob = true → k % 2 = 0 → a.kind = 4) : bad a (⟨m + 1, k + (m + 1), ob⟩ :: st) = false := by
  show (ob && (k + (m + 1) - (m + 1)) % 2 == 0 && a.kind != 4) = false
  rw [Nat.add_sub_cancel]
  cases ob with
  | false => rfl
  | true =>
    by_cases hk : k % 2 = 0
    · rw [h rfl hk]; simp
    · simp [hk]
theorem ItF.head {d : Nat} {x : List Val} {t : Bytes} {dp : Bool} (h : ItF d x t dp) : ∃ a r, x = a :: r ∧ right a = true := by
  cases d with
  | zero => obtain ⟨a, e, h1, _⟩ := h; exact ⟨a, [], e, h1⟩
  | succ d =>
    rcases h with ⟨a, e, h1, _⟩ | ⟨a, r, u, e, h1, _⟩
    · exact ⟨a, [], e, h1⟩
    · exact ⟨a, r, e, h1⟩
theorem opened_leaf {a : Val} {st : List Bf} (h : a.kind ≤ 4) : opened a st = st := by
  unfold opened
  rw [if_neg (by simp; omega)]
theorem opened_node {a : Val} {st : List Bf} (hr : right a = true) (h : 5 ≤ a.kind) : opened a st = ⟨a.kids.toNat, a.kids.toNat, a.kind == 6⟩ :: st := by
  unfold opened
  rw [if_pos (by rcases (right_kids hr).1 h with e | e <;> simp [e])]
def BehIt (d : Nat) : Prop := ∀ x t dp, ItF d x t dp → ∀ (bs : List Bf) (r : List Val) (most i : Nat), (∀ a q, x = a :: q → bad a bs = false) → ∃ m1, behN (x ++ r) bs most i = afterB (less bs) r m1 (i + x.length)
theorem beh_kids {d : Nat} (ih : BehIt d) {ob : Bool} : ∀ (m k : Nat) (nm : List Bytes) (x : List Val) (u : Bytes) (dp : Bool), Kids (ItF d) ob m k nm x u dp → ∀ (st : List Bf) (r : List Val) (most i : Nat), ∃ m1, afterB (⟨m, k + m, ob⟩ :: st) (x ++ r) most i = afterB st r m1 (i + x.length)
  | 0, k, nm, x, u, dp, h, st, r, most, i => by
    obtain ⟨rfl, _, _⟩ := h
    exact ⟨most, by rw [afterB_zero]; rfl⟩
  | m + 1, k, nm, x, u, dp, h, st, r, most, i => by
    obtain ⟨x1, y, u1, v, d1, d2, rfl, _, h1, h2, h3, _⟩ := h
    rw [afterB_live, List.append_assoc]
    obtain ⟨m1, e1⟩ := ih x1 u1 d1 h1 (⟨m + 1, k + (m + 1), ob⟩ :: st) (y ++ r) most i (fun a q e => bad_kids fun e1 e2 => by
      obtain ⟨b, hb, hb4⟩ := h2 e1 e2
      rw [e] at hb
      cases hb
      exact hb4)
    rw [e1]
    have e2 : less (⟨m + 1, k + (m + 1), ob⟩ :: st) = ⟨m, (k + 1) + m, ob⟩ :: st := by
      unfold less
      simp only [Nat.add_sub_cancel]
      rw [show k + (m + 1) = k + 1 + m by omega]
    rw [e2]
    obtain ⟨m2, e3⟩ := beh_kids ih m (k + 1) _ y v d2 h3 st r m1 (i + x1.length)
    exact ⟨m2, by rw [e3, List.length_append, Nat.add_assoc]⟩
theorem beh_it : ∀ d, BehIt d
  | 0 => by
    intro x t dp h bs r most i hb
    obtain ⟨a, rfl, hr, h4, _⟩ := h
    rw [List.singleton_append, beh_step r most i hr (hb a [] rfl), opened_leaf h4]
    exact ⟨_, rfl⟩
  | d + 1 => by
    intro x t dp h bs r most i hb
    rcases h with ⟨a, rfl, hr, h4, _⟩ | ⟨a, r', u, rfl, hr, h5, _, hk⟩
    · rw [List.singleton_append, beh_step r most i hr (hb a [] rfl), opened_leaf h4]
      exact ⟨_, rfl⟩
    · rw [List.cons_append, beh_step _ most i hr (hb a r' rfl), opened_node hr h5]
      obtain ⟨m1, e⟩ := beh_kids (beh_it d) a.kids.toNat 0 [] r' u dp hk (less bs) r (max most (⟨a.kids.toNat, a.kids.toNat, a.kind == 6⟩ :: less bs).length) (i + 1)
      rw [Nat.zero_add] at e
      exact ⟨m1, by rw [e, List.length_cons, Nat.add_assoc, Nat.add_comm 1]⟩
/-- The place behind a value of a list. -/
theorem behind_it {d : Nat} {L x r : List Val} {t : Bytes} {dp : Bool} {p : Nat} (h : ItF d x t dp) (hL : L.drop p = x ++ r) : (R6.behind L p).1 = some (p + x.length) := by
  unfold R6.behind
  rw [hL]
  obtain ⟨m1, e⟩ := beh_it d x t dp h [] r 0 p (fun a q _ => rfl)
  rw [e]
  rfl
/-! Names -/
/-- Whether an object that begins in a stretch of a list has a name twice. -/
def anyT (L : List Val) (p n : Nat) : Bool := (List.range n).any fun j => (L.getD (p + j) ⟨0, 0, []⟩).kind == 6 && R6.twice L (p + j)
theorem anyT_zero (L : List Val) (p : Nat) : anyT L p 0 = false := rfl
theorem anyT_add (L : List Val) (p a b : Nat) : anyT L p (a + b) = (anyT L p a || anyT L (p + a) b) := by
  unfold anyT
  rw [List.range_add, List.any_append, List.any_map]
  congr 1
  congr 1
  funext j
  simp only [Function.comp, Nat.add_assoc]
theorem anyT_one (L : List Val) (p : Nat) : anyT L p 1 = ((L.getD p ⟨0, 0, []⟩).kind == 6 && R6.twice L p) := by
  unfold anyT
  simp [List.range_succ]
theorem getD_drop {L : List Val} {p : Nat} {a : Val} {r : List Val} (h : L.drop p = a :: r) : L.getD p ⟨0, 0, []⟩ = a := by
  have : (L.drop p)[0]? = some a := by rw [h]; rfl
  rw [List.getElem?_drop, Nat.add_zero] at this
  rw [List.getD_eq_getElem?_getD, this]
  rfl
def DupIt (d : Nat) : Prop := ∀ x t dp, ItF d x t dp → ∀ (L r : List Val) (p : Nat), L.drop p = x ++ r → dp = anyT L p x.length
theorem dup_kids {d : Nat} (ih : DupIt d) {ob : Bool} : ∀ (m k : Nat) (nm : List Bytes) (x : List Val) (u : Bytes) (dp : Bool), Kids (ItF d) ob m k nm x u dp → ∀ (L r : List Val) (p : Nat), L.drop p = x ++ r →
    dp = ((ob && R6.twN L m k p nm) || anyT L p x.length)
  | 0, k, nm, x, u, dp, h, L, r, p, hL => by
    obtain ⟨rfl, _, rfl⟩ := h
    rw [R6.twN]
    cases ob <;> rfl
  | m + 1, k, nm, x, u, dp, h, L, r, p, hL => by
    obtain ⟨x1, y, u1, v, d1, d2, rfl, _, h1, h2, h3, rfl⟩ := h
    rw [List.append_assoc] at hL
    have hbe := behind_it h1 hL
    have hL2 : L.drop (p + x1.length) = y ++ r := by rw [← List.drop_drop, hL, List.drop_left]
    have e1 := ih x1 u1 d1 h1 L (y ++ r) p hL
    have e2 := dup_kids ih m (k + 1) _ y v d2 h3 L r (p + x1.length) hL2
    obtain ⟨a, q, ha, _⟩ := h1.head
    have hnm : (L.getD p ⟨0, 0, []⟩).text = nmOf x1 := by
      rw [ha] at hL
      rw [getD_drop hL, ha]
      rfl
    rw [R6.twN, hbe, hnm, List.length_append, anyT_add, ← e1, e2, Option.getD_some]
    cases ob with
    | false => simp
    | true =>
      by_cases hk : k % 2 = 0
      · rw [if_pos (by simp [hk]), if_pos (by simp [hk])]
        cases hc : nm.contains (nmOf x1) with
        | true => simp [hk]
        | false =>
          rw [if_neg (by decide)]
          simp only [Bool.and_false, Bool.false_or, Bool.true_and]
          cases d1 <;> cases R6.twN L m (k + 1) (p + x1.length) (nm ++ [nmOf x1]) <;> rfl
      · rw [if_neg (by simp [hk]), if_neg (by simp [hk])]
        have hk' : (k % 2 == 0) = false := by simpa using hk
        rw [hk']
        simp only [Bool.and_false, Bool.false_and, Bool.false_or, Bool.true_and]
        cases d1 <;> cases R6.twN L m (k + 1) (p + x1.length) nm <;> rfl
theorem dup_it : ∀ d, DupIt d
  | 0 => by
    intro x t dp h L r p hL
    obtain ⟨a, rfl, hr, h4, _, rfl⟩ := h
    show false = anyT L p 1
    rw [anyT_one, getD_drop hL]
    have : (a.kind == 6) = false := by simp; omega
    rw [this]
    rfl
  | d + 1 => by
    intro x t dp h L r p hL
    rcases h with ⟨a, rfl, hr, h4, _, rfl⟩ | ⟨a, r', u, rfl, hr, h5, _, hk⟩
    · show false = anyT L p 1
      rw [anyT_one, getD_drop hL]
      have : (a.kind == 6) = false := by simp; omega
      rw [this]
      rfl
    · have hL2 : L.drop (p + 1) = r' ++ r := by rw [← List.drop_drop, hL]; rfl
      have e := dup_kids (dup_it d) a.kids.toNat 0 [] r' u dp hk L r (p + 1) hL2
      rw [List.length_cons, Nat.add_comm, anyT_add, anyT_one, getD_drop hL, e]
      unfold R6.twice
      rw [getD_drop hL]
end Go.Px.E6

/-! The program's Encode of package json is the reference's (plain law). No program is named here. -/
namespace Go.Px.E6
open R6 (Bf bad less opened drop0 behN sep Ts kidsT tell)
/-! The reference's Teller -/
theorem kidsT_long (rc : Ts → Bytes × Ts) (ob : Bool) (m k : Nat) (x : Ts) (out : Bytes) (h : x.long = true) : kidsT rc ob m k x out = (out, x) := by
  cases m with
  | zero => rfl
  | succ m => rw [kidsT, if_pos (by rw [h]; simp)]
def TellIt (d : Nat) : Prop := ∀ x t dp, ItF d x t dp → ∀ (L r : List Val) (p m : Nat), L.drop p = x ++ r → d + 1 ≤ m → ∃ t' q g, tell L m ⟨p, false, false⟩ = (t', ⟨q, false, g⟩) ∧ (g = false → t' = t ∧ q = p + x.length) ∧ (g = true → 262144 < t.length)
theorem tell_kids {d : Nat} (ih : TellIt d) {ob : Bool} (fu : Nat) (hfu : d + 1 ≤ fu) : ∀ (m k : Nat) (nm : List Bytes) (x : List Val) (u : Bytes) (dp : Bool), Kids (ItF d) ob m k nm x u dp → ∀ (L r : List Val) (p : Nat) (out : Bytes), L.drop p = x ++ r →
    ∃ o' q g, kidsT (tell L fu) ob m k ⟨p, false, false⟩ out = (o', ⟨q, false, g⟩) ∧ (g = false → o' = out ++ u ∧ q = p + x.length) ∧ (g = true → 262144 < (out ++ u).length)
  | 0, k, nm, x, u, dp, h, L, r, p, out, hL => by
    obtain ⟨rfl, rfl, _⟩ := h
    exact ⟨out, p, false, rfl, fun _ => ⟨by rw [List.append_nil], rfl⟩, fun e => by cases e⟩
  | m + 1, k, nm, x, u, dp, h, L, r, p, out, hL => by
    obtain ⟨x1, y, u1, v, d1, d2, rfl, rfl, h1, h2, h3, _⟩ := h
    rw [List.append_assoc] at hL
    have hL2 : L.drop (p + x1.length) = y ++ r := by rw [← List.drop_drop, hL, List.drop_left]
    obtain ⟨t1, q1, g1, e1, e2, e3⟩ := ih x1 u1 d1 h1 L (y ++ r) p fu hL hfu
    rw [kidsT, if_neg (by simp), e1]
    cases g1 with
    | true =>
      rw [kidsT_long _ _ _ _ _ _ (by simp)]
      refine ⟨_, _, _, rfl, fun e => by simp at e, fun _ => ?_⟩
      have := e3 rfl
      simp only [List.length_append]
      omega
    | false =>
      obtain ⟨rfl, rfl⟩ := e2 rfl
      by_cases hz : 262144 < (out ++ sep ob k ++ t1).length
      · rw [kidsT_long _ _ _ _ _ _ (by simp only [Bool.false_or]; exact decide_eq_true hz)]
        refine ⟨_, _, _, rfl, fun e => ?_, fun _ => ?_⟩
        · simp only [Bool.false_or] at e
          rw [decide_eq_true hz] at e
          cases e
        · simp only [List.length_append] at hz ⊢
          omega
      · simp only [Bool.false_or]
        rw [decide_eq_false hz]
        obtain ⟨o', q, g, f1, f2, f3⟩ := tell_kids ih fu hfu m (k + 1) _ y v d2 h3 L r (p + x1.length) (out ++ sep ob k ++ t1) hL2
        refine ⟨o', q, g, f1, fun e => ?_, fun e => ?_⟩
        · obtain ⟨rfl, rfl⟩ := f2 e
          exact ⟨by simp, by rw [List.length_append, Nat.add_assoc]⟩
        · have := f3 e
          simp only [List.length_append] at this ⊢
          omega
theorem right_kind {a : Val} (h : right a = true) : 0 ≤ a.kind ∧ a.kind ≤ 6 := by
  unfold right at h
  by_cases h1 : (a.kind == 0 || a.kind == 1 || a.kind == 2) = true
  · simp only [Bool.or_eq_true, beq_iff_eq] at h1; omega
  · rw [if_neg h1] at h
    by_cases h3 : (a.kind == 3) = true
    · simp only [beq_iff_eq] at h3; omega
    · rw [if_neg h3] at h
      by_cases h4 : (a.kind == 4) = true
      · simp only [beq_iff_eq] at h4; omega
      · rw [if_neg h4] at h
        by_cases h5 : (a.kind == 5) = true
        · simp only [beq_iff_eq] at h5; omega
        · rw [if_neg h5] at h
          by_cases h6 : (a.kind == 6) = true
          · simp only [beq_iff_eq] at h6; omega
          · rw [if_neg h6] at h; cases h
theorem tell_leaf {L r : List Val} {a : Val} {p m : Nat} (hr : right a = true) (h4 : a.kind ≤ 4) (hL : L.drop p = a :: r) : tell L (m + 1) ⟨p, false, false⟩ = (body a, ⟨p + 1, false, false⟩) := by
  have hp : p < L.length := by
    have : (L.drop p).length = r.length + 1 := by rw [hL]; rfl
    rw [List.length_drop] at this
    omega
  have hk := right_kind hr
  rw [tell, if_neg (by simp; omega)]
  simp only
  rw [getD_drop hL, if_pos (by simp only [Bool.or_eq_true, beq_iff_eq]; omega)]
theorem tell_it : ∀ d, TellIt d
  | 0 => by
    intro x t dp h L r p m hL hm
    obtain ⟨a, rfl, hr, h4, rfl, _⟩ := h
    obtain ⟨m, rfl⟩ : ∃ k, m = k + 1 := ⟨m - 1, by omega⟩
    exact ⟨_, _, _, tell_leaf hr h4 hL, fun _ => ⟨rfl, rfl⟩, fun e => by cases e⟩
  | d + 1 => by
    intro x t dp h L r p m hL hm
    obtain ⟨m, rfl⟩ : ∃ k, m = k + 1 := ⟨m - 1, by omega⟩
    rcases h with ⟨a, rfl, hr, h4, rfl, _⟩ | ⟨a, r', u, rfl, hr, h5, rfl, hk⟩
    · exact ⟨_, _, _, tell_leaf hr h4 hL, fun _ => ⟨rfl, rfl⟩, fun e => by cases e⟩
    · have hp : p < L.length := by
        have : (L.drop p).length = (a :: r' ++ r).length := by rw [hL]
        rw [List.length_drop, List.length_append, List.length_cons] at this
        omega
      have hL2 : L.drop (p + 1) = r' ++ r := by rw [← List.drop_drop, hL]; rfl
      obtain ⟨o', q, g, f1, f2, f3⟩ := tell_kids (tell_it d) m (by omega) a.kids.toNat 0 [] r' u dp hk L r (p + 1) [] hL2
      rw [tell, if_neg (by simp; omega)]
      simp only
      rw [getD_drop hL, if_neg (by simp only [Bool.or_eq_true, beq_iff_eq]; omega), f1]
      refine ⟨_, _, _, rfl, fun e => ?_, fun e => ?_⟩
      · obtain ⟨rfl, rfl⟩ := f2 e
        exact ⟨rfl, by rw [List.length_cons]; omega⟩
      · have := f3 e
        simp only [List.nil_append] at this
        simp only [List.length_append, List.length_cons]
        omega
/-! Lengths -/
theorem drop0_len : ∀ (bs : List Bf), (drop0 bs).length ≤ bs.length
  | [] => Nat.le_refl _
  | b :: q => by
    rw [drop0]
    by_cases h : b.left = 0
    · rw [if_pos h, List.length_cons]; have := drop0_len q; omega
    · rw [if_neg h]; exact Nat.le_refl _
theorem less_len (bs : List Bf) : (less bs).length = bs.length := by cases bs <;> rfl
theorem opened_len (a : Val) (bs : List Bf) : (opened a bs).length ≤ bs.length + 1 := by
  unfold opened
  split
  · exact Nat.le_refl _
  · exact Nat.le_succ _
theorem beh_deep : ∀ (l : List Val) (bs : List Bf) (most i : Nat), (behN l bs most i).2 ≤ max most (bs.length + l.length)
  | [], _, _, _ => Nat.le_max_left _ _
  | v :: r, bs, most, i => by
    rw [behN]
    by_cases h1 : v.kids < 0
    · rw [if_pos h1]; exact Nat.le_max_left _ _
    · rw [if_neg h1]
      by_cases h2 : bad v bs = true
      · rw [if_pos h2]; exact Nat.le_max_left _ _
      · rw [if_neg h2]
        have h3 := opened_len v (less bs)
        rw [less_len] at h3
        have h4 := drop0_len (opened v (less bs))
        cases hd : drop0 (opened v (less bs)) with
        | nil =>
          show max most (opened v (less bs)).length ≤ _
          rw [List.length_cons]
          omega
        | cons b q =>
          rw [hd] at h4
          have := beh_deep r (b :: q) (max most (opened v (less bs)).length) (i + 1)
          show (behN r (b :: q) _ _).2 ≤ _
          rw [List.length_cons]
          omega
theorem toldC_pos (c : UInt8) : 1 ≤ (toldC c).length := by
  unfold toldC
  split
  · simp
  · split <;> simp
theorem told_le (s : Bytes) : s.length ≤ (told s).length := by
  unfold told
  rw [List.length_append, List.length_cons]
  induction s with
  | nil => simp
  | cons c r ih =>
    have := toldC_pos c
    simp only [List.flatMap_cons, List.length_append, List.length_cons] at ih ⊢
    omega
theorem body_le {a : Val} (h : right a = true) : a.text.length ≤ (body a).length := by
  have hk := right_kind h
  unfold right at h
  by_cases h3 : a.kind = 3
  · unfold body
    simp [h3]
  · by_cases h4 : a.kind = 4
    · unfold body
      simp only [h4]
      exact told_le a.text
    · have : a.text = [] := by
        by_cases h1 : (a.kind == 0 || a.kind == 1 || a.kind == 2) = true
        · rw [if_pos h1] at h; simp only [Bool.and_eq_true, beq_iff_eq] at h; exact h.2
        · rw [if_neg h1, if_neg (by simpa using h3), if_neg (by simpa using h4)] at h
          by_cases h5 : (a.kind == 5) = true
          · rw [if_pos h5] at h; simp only [Bool.and_eq_true, beq_iff_eq] at h; exact h.2
          · rw [if_neg h5] at h
            by_cases h6 : (a.kind == 6) = true
            · rw [if_pos h6] at h; simp only [Bool.and_eq_true, beq_iff_eq] at h; exact h.2
            · rw [if_neg h6] at h; cases h
      rw [this]
      exact Nat.zero_le _
theorem total_le : ∀ (l : List Val) (st : List Op), (∀ v ∈ l, right v = true) → R6.total l ≤ (txtN l st).length
  | [], _, _ => Nat.le_refl _
  | v :: r, st, h => by
    have h1 := body_le (h v (List.mem_cons_self ..))
    have h2 := total_le r (close (begun v (grown v st))) (fun u hu => h u (List.mem_cons_of_mem _ hu))
    rw [txtN, R6.total]
    simp only [List.length_append]
    omega
/-! The program's own telling -/
def Alike : List Op → List Op → Prop
  | [], [] => True
  | a :: r, b :: q => a.kind = b.kind ∧ a.all = b.all ∧ a.told = b.told ∧ Alike r q
  | _, _ => False
theorem Alike.close : ∀ {a b : List Op}, Alike a b → Alike (close a) (close b)
  | [], [], _ => trivial
  | [], _ :: _, h => h.elim
  | _ :: _, [], h => h.elim
  | a :: r, b :: q, h => by
    unfold E6.close
    rw [h.2.1, h.2.2.1]
    split
    · exact Alike.close h.2.2.2
    · exact h
theorem Alike.ends : ∀ {a b : List Op}, Alike a b → ends a = ends b
  | [], [], _ => rfl
  | [], _ :: _, h => h.elim
  | _ :: _, [], h => h.elim
  | a :: r, b :: q, h => by
    unfold E6.ends
    rw [h.1, h.2.1, h.2.2.1, Alike.ends h.2.2.2]
theorem Alike.ahead {a b : List Op} (h : Alike a b) : ahead a = ahead b := by
  cases a with
  | nil =>
    cases b with
    | nil => rfl
    | cons b q => exact h.elim
  | cons a r =>
    cases b with
    | nil => exact h.elim
    | cons b q =>
      unfold E6.ahead
      simp only
      rw [h.1, h.2.2.1]
theorem Alike.grown {a b : List Op} (v : Val) (h : Alike a b) : Alike (more a) (grown v b) := by
  cases a with
  | nil =>
    cases b with
    | nil => trivial
    | cons b q => exact h.elim
  | cons a r =>
    cases b with
    | nil => exact h.elim
    | cons b q => exact ⟨h.1, h.2.1, by show a.told + 1 = b.told + 1; rw [h.2.2.1], h.2.2.2⟩
theorem Alike.begun {a b : List Op} {v : Val} (hr : right v = true) (h : Alike a b) : Alike (push v a) (begun v b) := by
  have hk := right_kind hr
  unfold E6.push E6.begun
  by_cases h5 : 5 ≤ v.kind
  · rw [if_neg (by simp; omega), if_pos (by simpa using h5)]
    exact ⟨rfl, rfl, rfl, h⟩
  · rw [if_pos (by simp; omega), if_neg (by simpa using h5)]
    exact h
theorem encN_txt : ∀ (l : List Val) (st st' : List Op) (out : Bytes), Alike st st' → (∀ v ∈ l, right v = true) → encN l st out = if 262144 < (out ++ txtN l st').length then none else some (out ++ txtN l st')
  | [], st, st', out, _, _ => by rw [encN, txtN, List.append_nil]
  | v :: r, st, st', out, ha, h => by
    have hr := h v (List.mem_cons_self ..)
    have h1 := body_le hr
    rw [encN, txtN]
    by_cases hz : 262144 < out.length ∨ 262144 < v.text.length
    · rw [if_pos hz, if_pos (by simp only [List.length_append]; omega)]
    · have hg := Alike.begun hr (ha.grown v)
      rw [if_neg hz, encN_txt r (close (push v (more st))) (close (begun v (grown v st'))) _ hg.close (fun u hu => h u (List.mem_cons_of_mem _ hu)), ha.ahead, hg.ends]
      simp only [List.append_assoc]
theorem shape_right : ∀ (l : List Val) (first : Bool) (st : List Op) (most : Nat), (shapeN l first st most).2 = true → ∀ v ∈ l, right v = true
  | [], _, _, _, _, v, hv => by cases hv
  | a :: r, first, st, most, h, v, hv => by
    rw [shapeN] at h
    by_cases hc : ((!first && st.isEmpty) || !right a) = true
    · rw [if_pos hc] at h; cases h
    · rw [if_neg hc] at h
      have hra : right a = true := by
        cases hra : right a with
        | true => rfl
        | false => rw [hra] at hc; simp at hc
      rcases List.mem_cons.1 hv with rfl | hv
      · exact hra
      · cases he : enter a st with
        | none => rw [he] at h; cases h
        | some st2 => rw [he] at h; exact shape_right r _ _ _ h v hv
theorem any_right (l : List Val) : (l.any fun v => !R6.right v) = false ↔ ∀ v ∈ l, right v = true := by
  rw [List.any_eq_false]
  constructor
  · intro h v hv
    have := h v hv
    rw [R6.right_eq] at this
    simpa using this
  · intro h v hv
    rw [R6.right_eq, h v hv]
    decide
/-- The program's Encode is the reference's. -/
theorem encode_ref (l : List Val) : encode l = R6.encode l := by
  unfold encode R6.encode
  by_cases hn : 4096 < l.length
  · rw [if_pos hn, if_pos hn]
  · rw [if_neg hn, if_neg hn]
    unfold shape
    cases hs : shapeN l true [] 0 with
    | mk most ok =>
      by_cases hall : ∀ v ∈ l, right v = true
      · rw [if_neg (by rw [(any_right l).2 hall]; decide)]
        cases l with
        | nil =>
          rw [shapeN] at hs
          cases hs
          rfl
        | cons a r =>
          have hb := shape_beh (a :: r) true [] [] 0 0 hall trivial trivial (by simp) (.inl rfl)
          rw [hs] at hb
          have hbd : R6.behind (a :: r) 0 = behN (a :: r) [] 0 0 := rfl
          rw [← hbd, Nat.zero_add] at hb
          obtain ⟨hb1, hb2⟩ := hb
          simp only at hb1 hb2
          by_cases hbe : (R6.behind (a :: r) 0).1 = some (a :: r).length
          · have hdp := beh_deep (a :: r) [] 0 0
            rw [← hbd] at hdp
            have hit := it_of_beh (D := (R6.behind (a :: r) 0).2) hall hbe (Nat.le_refl _)
            have hdup := dup_it _ _ _ _ hit (a :: r) [] 0 (by simp)
            have hany : ((List.range (a :: r).length).any fun i => ((a :: r).getD i ⟨0, 0, []⟩).kind == 6 && R6.twice (a :: r) i) = anyT (a :: r) 0 (a :: r).length := by
              unfold anyT
              simp only [Nat.zero_add]
            rw [if_neg (by rw [hbe]; simp), hany, ← hdup]
            cases hdn : dupN (a :: r) [] with
            | true =>
              have hok : ok = false := by
                cases ok with
                | false => rfl
                | true => have := (hb1.1 rfl).2; rw [hdn] at this; cases this
              rw [hok]
              rfl
            | false =>
              have hok : ok = true := hb1.2 ⟨hbe, hdn⟩
              have hmost := hb2 hok
              rw [hok, if_neg (by decide), hmost]
              simp only [Bool.not_true, if_neg (show ¬ (false = true) by decide)]
              by_cases hm : 32 < (R6.behind (a :: r) 0).2
              · rw [if_pos hm, if_pos (.inl hm)]
              · rw [if_neg hm, encN_txt (a :: r) [] [] [] trivial hall, List.nil_append]
                have htot := total_le (a :: r) [] hall
                obtain ⟨t', q, g, e1, e2, e3⟩ := tell_it _ _ _ _ hit (a :: r) [] 0 ((a :: r).length + 1) (by simp) (by simp only [List.length_nil] at hdp; omega)
                rw [e1]
                by_cases hz : 262144 < (txtN (a :: r) []).length
                · rw [if_pos hz]
                  by_cases ht : 262144 < R6.total (a :: r)
                  · rw [if_pos (.inr ht)]
                  · rw [if_neg (by omega)]
                    cases g with
                    | true => rfl
                    | false =>
                      obtain ⟨rfl, _⟩ := e2 rfl
                      simp only [Bool.false_or]
                      rw [if_pos (decide_eq_true hz)]
                · rw [if_neg hz, if_neg (by omega)]
                  cases g with
                  | true => exact absurd (e3 rfl) hz
                  | false =>
                    obtain ⟨rfl, _⟩ := e2 rfl
                    simp only [Bool.false_or]
                    rw [decide_eq_false hz]
                    rfl
          · have hok : ok = false := by
              cases ok with
              | false => rfl
              | true => exact absurd (hb1.1 rfl).1 hbe
            rw [hok, if_pos (by rw [bne_iff_ne.2 hbe]; rfl)]
            rfl
      · have hok : ok = false := by
          cases ok with
          | false => rfl
          | true => exact absurd (shape_right l true [] 0 (by rw [hs])) hall
        rw [hok, if_pos]
        · rfl
        · cases ha : (l.any fun v => !R6.right v) with
          | true => rfl
          | false => exact absurd ((any_right l).1 ha) hall
end Go.Px.E6

/-! What is told is read: words, numbers, strings (plain law). No program is named here. -/
namespace Go.Px.E6
open R6 (at_ digit numNext numEnd numN)
variable {s r : Bytes} {lim : Lim} {p : Nat} {c : UInt8}
theorem drop_at (h : s.drop p = c :: r) : p < s.length ∧ at_ s p = c.toNat ∧ s.getD p 0 = c := by
  have h1 : (s.drop p)[0]? = some c := by rw [h]; rfl
  rw [List.getElem?_drop, Nat.add_zero] at h1
  have h2 : s.getD p 0 = c := by rw [List.getD_eq_getElem?_getD, h1]; rfl
  refine ⟨?_, by unfold R6.at_; rw [h2], h2⟩
  obtain ⟨hlt, _⟩ := List.getElem?_eq_some_iff.1 h1
  exact hlt
theorem drop_next (h : s.drop p = c :: r) : s.drop (p + 1) = r := by rw [← List.drop_drop, h]; rfl
theorem drop_app {t : Bytes} (h : s.drop p = t ++ r) : s.drop (p + t.length) = r := by rw [← List.drop_drop, h, List.drop_left]
theorem want_here (h : s.drop p = c :: r) (hb : (p : Int) < lim.b) : D6.want s lim p = .ok c.toNat := by
  obtain ⟨h1, h2, _⟩ := drop_at h
  unfold D6.want
  rw [if_neg (by omega), if_neg (by omega), h2]
theorem must_here (h : s.drop p = c :: r) (hb : (p : Int) < lim.b) : D6.must s lim p c.toNat = .ok (p + 1) := by
  unfold D6.must
  rw [want_here h hb]
  simp
theorem word_reads : ∀ (t : Bytes) (p : Nat), s.drop p = t ++ r → ((p + t.length : Nat) : Int) ≤ lim.b → D6.wordN s lim t p = .ok (p + t.length)
  | [], p, _, _ => rfl
  | c :: t, p, h, hb => by
    rw [List.length_cons] at hb
    rw [D6.wordN, must_here h (by omega)]
    simp only
    rw [word_reads t (p + 1) (drop_next h) (by omega), List.length_cons]
    congr 1
    omega
theorem pass_here (h : s.drop p = c :: r) (hb : (p : Int) < lim.b) (hc : R6.blank c.toNat = false) : D6.pass s lim p = .ok p := by
  have h1 := (drop_at h).1
  unfold D6.pass
  obtain ⟨m, hm⟩ : ∃ m, s.length + 1 - p = m + 1 := ⟨s.length - p, by omega⟩
  rw [hm, D6.passN, want_here h hb]
  simp only
  rw [if_neg (by rw [hc]; decide)]
/-- What follows a value: nothing, or a byte that goes on with no number. -/
def Fol (r : Bytes) : Prop := r = [] ∨ ∃ c q, r = c :: q ∧ (c = 44 ∨ c = 93 ∨ c = 125)
theorem fol_num {q : Nat} (h : c = 44 ∨ c = 93 ∨ c = 125) : numNext q c.toNat = none := by
  rcases h with rfl | rfl | rfl <;> simp [numNext, digit]
theorem numN_app (h : Fol r) : ∀ (t : Bytes) (q : Nat), whole q t = true → numN q (t ++ r) = (t.length, true)
  | [], q, hw => by
    rw [whole_nil] at hw
    rcases h with rfl | ⟨c, r', rfl, hc⟩
    · rw [List.append_nil, numN, hw]; rfl
    · rw [List.nil_append, numN, fol_num hc]
      simp only [hw]
      rfl
  | a :: t, q, hw => by
    rw [whole_cons] at hw
    rw [List.cons_append, numN]
    cases hn : numNext q a.toNat with
    | none => rw [hn] at hw; cases hw
    | some k =>
      rw [hn] at hw
      simp only at hw ⊢
      rw [numN_app h t k hw, List.length_cons]
theorem number_reads {t : Bytes} (hw : numeral t = true) (h : s.drop p = t ++ r) (hr : Fol r) (hb : ((p + t.length : Nat) : Int) ≤ lim.b) : D6.number s lim p = .ok (p + t.length) := by
  rw [numeral_whole] at hw
  have hw : whole 0 t = true := hw
  cases t with
  | nil => cases hw
  | cons a t =>
    obtain ⟨h1, h2, _⟩ := drop_at h
    have hfirst : at_ s p = 45 ∨ digit (at_ s p) = true := by
      rw [h2]
      rw [whole_cons, next0'] at hw
      by_cases hm : (a.toNat == 45) = true
      · exact .inl (eq_of_beq hm)
      · rw [if_neg hm, next1'] at hw
        by_cases hz : (a.toNat == 48) = true
        · exact .inr (by rw [eq_of_beq hz]; rfl)
        · rw [if_neg hz] at hw
          cases hd : digit a.toNat with
          | true => exact .inr rfl
          | false => rw [hd] at hw; cases hw
    have hlen : p + (a :: t).length ≤ s.length := by
      have : (s.drop p).length = ((a :: t) ++ r).length := by rw [h]
      rw [List.length_drop, List.length_append] at this
      omega
    have hk := D6.numVal_eq (s := s) (lim := lim) (p := p) (x := R6.start) (me := 0) (by rw [List.length_cons] at hb; omega) h1 hfirst
    obtain ⟨e, he⟩ : ∃ e, e = min s.length lim.b.toNat := ⟨_, rfl⟩
    have hcut : (s.take e).drop p = (a :: t) ++ r.take (e - (p + (a :: t).length)) := by
      rw [List.drop_take, h, List.take_append, List.take_of_length_le (by omega), Nat.sub_sub]
    have hfol : Fol (r.take (e - (p + (a :: t).length))) := by
      rcases hr with rfl | ⟨c, q, rfl, hc⟩
      · exact .inl (by simp)
      · cases hz : e - (p + (a :: t).length) with
        | zero => exact .inl rfl
        | succ z => exact .inr ⟨c, _, rfl, hc⟩
    have hnum : R6.number ((s.take e).drop p) = ((a :: t).length, true) := by
      rw [hcut]
      exact numN_app hfol (a :: t) 0 hw
    unfold R6.numVal at hk
    rw [← he] at hk
    simp only [hnum] at hk
    exact hk.1
/-! Strings -/
theorem hexd_four {k : Nat} (h : k < 16) : R6.hex (hexd k).toNat = some k := by
  have : ∀ k : Fin 16, R6.hex (hexd k.val).toNat = some k.val := by decide
  exact this ⟨k, h⟩
theorem sign_reads {b : Bytes} (hw : 2 ≤ Utf.utfW b) (h : s.drop p = b.take (Utf.utfW b) ++ r) (hb : ((p + Utf.utfW b : Nat) : Int) ≤ lim.b) :
    D6.sign s lim p = .ok (p + Utf.utfW b) ∧ Utf.utfW b ≤ b.length ∧ ∀ j, j < Utf.utfW b → 128 ≤ (b.getD j 0).toNat := by
  have hne : b ≠ [] := by
    intro e
    rw [e] at hw
    simp [Utf.utfW] at hw
  have hbn : ∀ j, j < Utf.utfW b → Utf.utfW b ≤ b.length → ∃ r', s.drop (p + j) = b.getD j 0 :: r' := by
    intro j hj hl
    have hjl : j < b.length := by omega
    refine ⟨(b.take (Utf.utfW b)).drop (j + 1) ++ r, ?_⟩
    rw [← List.drop_drop, h, List.drop_append_of_le_length (by rw [List.length_take]; omega), List.drop_eq_getElem_cons (by rw [List.length_take]; omega), List.getElem_take, List.getD_eq_getElem?_getD, List.getElem?_eq_getElem hjl]
    rfl
  rw [Utf.utfW_eq b hne] at hw hb hbn ⊢
  obtain ⟨b0, e0⟩ : ∃ x, x = b.getD 0 0 := ⟨_, rfl⟩
  obtain ⟨b1, e1⟩ : ∃ x, x = b.getD 1 0 := ⟨_, rfl⟩
  obtain ⟨b2, e2⟩ : ∃ x, x = b.getD 2 0 := ⟨_, rfl⟩
  obtain ⟨b3, e3⟩ : ∃ x, x = b.getD 3 0 := ⟨_, rfl⟩
  rw [← e0, ← e1, ← e2, ← e3] at hw hb hbn ⊢
  have key : ∀ w, Utf.utfE b.length b0.toNat b1.toNat b2.toNat b3.toNat = w → 2 ≤ w → w ≤ b.length ∧ D6.more b0.toNat + 1 = w ∧ 128 ≤ b0.toNat ∧
      (D6.least b0.toNat ≤ b1.toNat ∧ b1.toNat ≤ D6.most b0.toNat ∧ 128 ≤ b1.toNat) ∧ (3 ≤ w → 128 ≤ b2.toNat ∧ b2.toNat ≤ 191) ∧ (4 ≤ w → 128 ≤ b3.toNat ∧ b3.toNat ≤ 191) ∧ w ≤ 4 := by
    intro w hw2 h2
    have h0 := UInt8.toNat_lt b0
    have h1 := UInt8.toNat_lt b1
    obtain ⟨x0, f0⟩ : ∃ x, x = b0.toNat := ⟨_, rfl⟩
    obtain ⟨x1, f1⟩ : ∃ x, x = b1.toNat := ⟨_, rfl⟩
    obtain ⟨x2, f2⟩ : ∃ x, x = b2.toNat := ⟨_, rfl⟩
    obtain ⟨x3, f3⟩ : ∃ x, x = b3.toNat := ⟨_, rfl⟩
    rw [← f0, ← f1, ← f2, ← f3] at hw2 ⊢
    rw [← f0] at h0
    rw [← f1] at h1
    clear f0 f1 f2 f3 e0 e1 e2 e3 hw hb hbn
    unfold Utf.utfE at hw2
    unfold D6.more D6.least D6.most
    simp only [Bool.and_eq_true, decide_eq_true_eq, beq_iff_eq]
    repeat' split at hw2
    all_goals first
      | omega
      | (repeat' split) <;> omega
  obtain ⟨w, hwe⟩ : ∃ w, Utf.utfE b.length b0.toNat b1.toNat b2.toNat b3.toNat = w := ⟨_, rfl⟩
  rw [hwe] at hw hb hbn ⊢
  obtain ⟨k1, k2, k3, k4, k5, k6, k7⟩ := key w hwe hw
  obtain ⟨r0, g0⟩ := hbn 0 (by omega) k1
  obtain ⟨r1, g1⟩ := hbn 1 (by omega) k1
  rw [← e0, Nat.add_zero] at g0
  rw [← e1] at g1
  have hlast : ∀ q, D6.signN s lim 0 q 128 191 = .ok q := fun q => rfl
  refine ⟨?_, k1, ?_⟩
  · unfold D6.sign
    rw [want_here g0 (by omega)]
    simp only
    rw [if_neg (by simp; omega)]
    have hc : w = 2 ∨ w = 3 ∨ w = 4 := by omega
    rcases hc with rfl | rfl | rfl
    · rw [show D6.more b0.toNat = 1 by omega, D6.signN, want_here g1 (by omega)]
      simp only
      rw [if_neg (by simp; omega), hlast]
    · obtain ⟨r2, g2⟩ := hbn 2 (by omega) k1
      rw [← e2] at g2
      have k5' := k5 (by omega)
      rw [show D6.more b0.toNat = 2 by omega, D6.signN, want_here g1 (by omega)]
      simp only
      rw [if_neg (by simp; omega), D6.signN, want_here g2 (by omega)]
      simp only
      rw [if_neg (by simp; omega), hlast]
    · obtain ⟨r2, g2⟩ := hbn 2 (by omega) k1
      obtain ⟨r3, g3⟩ := hbn 3 (by omega) k1
      rw [← e2] at g2
      rw [← e3] at g3
      have k5' := k5 (by omega)
      have k6' := k6 (by omega)
      rw [show D6.more b0.toNat = 3 by omega, D6.signN, want_here g1 (by omega)]
      simp only
      rw [if_neg (by simp; omega), D6.signN, want_here g2 (by omega)]
      simp only
      rw [if_neg (by simp; omega), D6.signN, want_here g3 (by omega)]
      simp only
      rw [if_neg (by simp; omega), hlast]
  · intro j hj
    have hc : j = 0 ∨ j = 1 ∨ j = 2 ∨ j = 3 := by omega
    rcases hc with rfl | rfl | rfl | rfl
    · rw [← e0]; exact k3
    · rw [← e1]; exact k4.2.2
    · rw [← e2]; exact (k5 (by omega)).1
    · rw [← e3]; exact (k6 (by omega)).1
end Go.Px.E6

/-! What is told is read: strings (plain law). No program is named here. -/
namespace Go.Px.E6
open R6 (at_ digit)
variable {s r : Bytes} {lim : Lim} {p : Nat} {c : UInt8}
theorem hexd_lt (k : Nat) (h : k < 16) : (hexd k).toNat < 128 := by
  have : ∀ k : Fin 16, (hexd k.val).toNat < 128 := by decide
  exact this ⟨k, h⟩
theorem byte_of (c : UInt8) : UInt8.ofNat c.toNat = c := by simp
theorem esc_reads (h : s.drop p = 92 :: (toldC c).tail ++ r) (ht : toldC c = 92 :: (toldC c).tail) (hb : ((p + (toldC c).length : Nat) : Int) ≤ lim.b) : D6.escape s lim (p + 1) = .ok ([c], p + (toldC c).length) := by
  have h1 := drop_next (s := s) (p := p) (c := 92) (r := (toldC c).tail ++ r) h
  unfold toldC at h1 hb ht ⊢
  by_cases hq : (c.toNat == 34 || c.toNat == 92) = true
  · rw [if_pos hq] at h1 hb ⊢
    have hl : R6.letter c.toNat = some c := by
      simp only [Bool.or_eq_true, beq_iff_eq] at hq
      rcases hq with e | e
      · rw [e]; rw [← byte_of c, e]; rfl
      · rw [e]; rw [← byte_of c, e]; rfl
    unfold D6.escape
    rw [want_here h1 (by simp only [List.length_cons, List.length_nil] at hb; omega)]
    simp only [hl]
    rfl
  · rw [if_neg hq] at h1 hb ht ⊢
    by_cases h32 : c.toNat < 32
    · rw [if_pos h32] at h1 hb ⊢
      simp only [List.tail_cons, List.cons_append, List.nil_append] at h1
      simp only [List.length_cons, List.length_nil] at hb ⊢
      have g1 := drop_next h1
      have g2 := drop_next g1
      have g3 := drop_next g2
      have g4 := drop_next g3
      unfold D6.escape
      rw [want_here h1 (by omega)]
      have hl : R6.letter (117 : UInt8).toNat = none := rfl
      simp only [hl]
      rw [if_pos (by rfl)]
      unfold D6.four
      rw [D6.fourN, want_here g1 (by omega)]
      have z0 : R6.hex (48 : UInt8).toNat = some 0 := rfl
      simp only [z0]
      rw [D6.fourN, want_here g2 (by omega)]
      simp only [z0]
      rw [D6.fourN, want_here g3 (by omega)]
      simp only [hexd_four (show c.toNat / 16 < 16 by omega)]
      rw [D6.fourN, want_here g4 (by omega)]
      simp only [hexd_four (show c.toNat % 16 < 16 by omega)]
      rw [D6.fourN]
      simp only
      rw [if_neg (by simp; omega), if_neg (by simp; omega)]
      have e : 16 * (16 * (16 * (16 * 0 + 0) + 0) + c.toNat / 16) + c.toNat % 16 = c.toNat := by omega
      rw [e]
      unfold R6.sign8
      rw [if_pos (by omega), byte_of]
    · rw [if_neg h32] at ht
      simp at ht
      rw [ht] at hq
      exact absurd rfl hq
theorem told_raw : ∀ (b : Bytes), (∀ j, j < b.length → 128 ≤ (b.getD j 0).toNat) → b.flatMap toldC = b
  | [], _ => rfl
  | c :: b, h => by
    have h0 : 128 ≤ c.toNat := h 0 (by simp)
    rw [List.flatMap_cons, told_raw b (fun j hj => h (j + 1) (by simp; omega))]
    unfold toldC
    rw [if_neg (by simp; omega), if_neg (by omega)]
    rfl
theorem utfW_one {b : Bytes} {c : UInt8} (h : Utf.utfW (c :: b) = 1) : c.toNat < 128 := by
  rw [Utf.utfW_eq _ (by simp)] at h
  have e : ((c :: b).getD 0 0).toNat = c.toNat := rfl
  rw [e] at h
  apply Decidable.byContradiction
  intro hc
  unfold Utf.utfE at h
  rw [if_neg hc] at h
  repeat' split at h
  all_goals omega
theorem textN_reads : ∀ (n : Nat) (b : Bytes), b.length ≤ n → Lib.validGoD n b = true → ∀ (q m : Nat) (out : Bytes), s.drop q = b.flatMap toldC ++ 34 :: r → ((q + (b.flatMap toldC).length + 1 : Nat) : Int) ≤ lim.b → (b.flatMap toldC).length + 1 ≤ m →
    D6.textN s lim m q out = .ok (out ++ b, q + (b.flatMap toldC).length + 1)
  | n, [], _, _, q, m, out, h, hb, hm => by
    obtain ⟨m, rfl⟩ : ∃ k, m = k + 1 := ⟨m - 1, by omega⟩
    rw [D6.textN, want_here (c := 34) (r := r) h (by simp only [List.flatMap_nil, List.length_nil] at hb; omega)]
    simp
  | 0, c :: b, hn, _, _, _, _, _, _, _ => by simp at hn
  | n + 1, c :: b, hn, hv, q, m, out, h, hb, hm => by
    rw [Utf.validGoD_step n _ (by simp)] at hv
    by_cases hw0 : Utf.utfW (c :: b) = 0
    · rw [if_pos hw0] at hv; cases hv
    · rw [if_neg hw0] at hv
      have hpos := toldC_pos c
      obtain ⟨m, rfl⟩ : ∃ k, m = k + 1 := ⟨m - 1, by omega⟩
      by_cases hw1 : Utf.utfW (c :: b) = 1
      · have hc := utfW_one hw1
        rw [hw1] at hv
        have hv : Lib.validGoD n b = true := hv
        rw [List.flatMap_cons] at h hb hm ⊢
        rw [List.append_assoc] at h
        simp only [List.length_append] at hb hm ⊢
        have hnext : s.drop (q + (toldC c).length) = b.flatMap toldC ++ 34 :: r := drop_app h
        have ih := fun m out h4 => textN_reads n b (by simp only [List.length_cons] at hn; omega) hv (q + (toldC c).length) m out hnext (by omega) h4
        by_cases hesc : (c.toNat == 34 || c.toNat == 92) = true ∨ c.toNat < 32
        · have ht : toldC c = 92 :: (toldC c).tail := by
            unfold toldC
            rcases hesc with e | e
            · rw [if_pos e]; rfl
            · by_cases hq : (c.toNat == 34 || c.toNat == 92) = true
              · rw [if_pos hq]; rfl
              · rw [if_neg hq, if_pos e]; rfl
          have h' : s.drop q = 92 :: (toldC c).tail ++ (b.flatMap toldC ++ 34 :: r) := by rw [h]; conv => lhs; rw [ht]
          rw [D6.textN, want_here (c := 92) h' (by omega)]
          simp only
          rw [if_neg (by decide), if_neg (by decide), if_pos (by rfl), esc_reads h' ht (by omega)]
          simp only
          rw [ih m (out ++ [c]) (by omega)]
          simp only [List.append_assoc, List.singleton_append]
          congr 2
          omega
        · have hq : ¬ (c.toNat == 34 || c.toNat == 92) = true := fun e => hesc (.inl e)
          have h32 : ¬ c.toNat < 32 := fun e => hesc (.inr e)
          have ht : toldC c = [c] := by unfold toldC; rw [if_neg hq, if_neg h32]
          rw [ht] at h hb hm ih ⊢
          have h' : s.drop q = c :: (b.flatMap toldC ++ 34 :: r) := h
          simp only [List.length_cons, List.length_nil] at hb hm ih ⊢
          have hq2 : ¬ c.toNat = 34 ∧ ¬ c.toNat = 92 := by
            simp only [Bool.or_eq_true, beq_iff_eq] at hq
            omega
          rw [D6.textN, want_here h' (by omega)]
          simp only
          rw [if_neg (by simpa using hq2.1), if_neg h32, if_neg (by simpa using hq2.2), if_neg (by omega), (drop_at h').2.2, ih m (out ++ [c]) (by omega)]
          simp only [List.append_assoc, List.singleton_append]
          congr 2
          omega
      · obtain ⟨w, hw⟩ : ∃ w, Utf.utfW (c :: b) = w := ⟨_, rfl⟩
        obtain ⟨B, hB⟩ : ∃ B, B = c :: b := ⟨_, rfl⟩
        rw [← hB] at hw hv h hb hm hw0 hw1 ⊢
        have hsp : B.flatMap toldC = (B.take w).flatMap toldC ++ (B.drop w).flatMap toldC := by rw [← List.flatMap_append, List.take_append_drop]
        -- the bytes of the sign are told as they are: first by key facts of the sign itself
        have hraw : w ≤ B.length ∧ ∀ j, j < w → 128 ≤ (B.getD j 0).toNat := by
          have k := sign_reads (s := B) (r := B.drop w) (p := 0) (lim := ⟨1, 1, (w : Int), 1⟩) (b := B) (by omega) (by rw [List.drop_zero, hw, List.take_append_drop]) (by rw [hw]; simp)
          rw [hw] at k
          exact ⟨k.2.1, k.2.2⟩
        have htk : (B.take w).flatMap toldC = B.take w := told_raw _ fun j hj => by
          rw [List.length_take] at hj
          rw [List.getD_eq_getElem?_getD, List.getElem?_take_of_lt (by omega), ← List.getD_eq_getElem?_getD]
          exact hraw.2 j (by omega)
        rw [htk] at hsp
        rw [hsp] at h hb hm ⊢
        rw [List.append_assoc] at h
        simp only [List.length_append, List.length_take, Nat.min_eq_left hraw.1] at hb hm ⊢
        have hsg := sign_reads (s := s) (r := (B.drop w).flatMap toldC ++ 34 :: r) (p := q) (lim := lim) (b := B) (by omega) (by rw [hw]; exact h) (by rw [hw]; omega)
        rw [hw] at hsg
        have hnext : s.drop (q + w) = (B.drop w).flatMap toldC ++ 34 :: r := by
          have := drop_app h
          rwa [List.length_take, Nat.min_eq_left hraw.1] at this
        rw [hw] at hv
        have hBn : (B.drop w).length ≤ n := by
          have : B.length ≤ n + 1 := by rw [hB]; exact hn
          rw [List.length_drop]
          omega
        have ih := textN_reads n (B.drop w) hBn hv (q + w) m (out ++ B.take w) hnext (by omega) (by omega)
        have hc : 128 ≤ c.toNat := by have := hraw.2 0 (by omega); rw [hB] at this; exact this
        have h' : s.drop q = c :: (b.take (w - 1) ++ ((B.drop w).flatMap toldC ++ 34 :: r)) := by
          rw [h, hB]
          obtain ⟨w', rfl⟩ : ∃ k, w = k + 1 := ⟨w - 1, by omega⟩
          rfl
        have hslice : (s.take (q + w)).drop q = B.take w := by
          rw [List.drop_take, h, Nat.add_sub_cancel_left, List.take_append_of_le_length (by rw [List.length_take]; omega), List.take_take, Nat.min_self]
        rw [D6.textN, want_here h' (by omega)]
        simp only
        rw [if_neg (by simp; omega), if_neg (by omega), if_neg (by simp; omega), if_pos hc, hsg.1]
        simp only
        rw [hslice, ih, List.append_assoc, List.take_append_drop]
        congr 2
        omega
/-- A string that is told is read. -/
theorem text_reads {b : Bytes} (hv : Lib.validD b = true) (h : s.drop p = told b ++ r) (hb : ((p + (told b).length : Nat) : Int) ≤ lim.b) : D6.text s lim p = .ok (b, p + (told b).length) := by
  have hl : (told b).length = (b.flatMap toldC).length + 2 := by unfold told; simp
  rw [hl] at hb ⊢
  have h' : s.drop p = 34 :: (b.flatMap toldC ++ 34 :: r) := by rw [h]; unfold told; simp
  have h2 := drop_next h'
  have hlen : p + ((b.flatMap toldC).length + 2) ≤ s.length := by
    have : (s.drop p).length = (told b ++ r).length := by rw [h]
    rw [List.length_drop, List.length_append, hl] at this
    omega
  unfold D6.text
  rw [textN_reads b.length b (Nat.le_refl _) hv (p + 1) _ [] h2 (by omega) (by omega), List.nil_append]
  congr 2
  omega
end Go.Px.E6

/-! What is told is read: one value, by the program's reader (plain law). No program is named here. -/
namespace Go.Px.E6
open R6 (at_ sep)
open D6 (Runs loopR afterS Dx Fm)
variable {s r : Bytes} {lim : Lim} {p : Nat} {st : List Fm} {o : List Val}
def ov (st : List Fm) : Nat := if st.isEmpty then 5 else 4
theorem bumpTop_length (l : List Val) (st : List Fm) : (D6.bumpTop l st).length = l.length := by
  cases st with
  | nil => rfl
  | cons f r => unfold D6.bumpTop R6.bump; simp
theorem bump_mid (b : List Val) (v : Val) (q : List Val) : R6.bump (b ++ v :: q) b.length 1 = b ++ { v with kids := v.kids + 1 } :: q := by
  unfold R6.bump
  exact R6.modify_mid b q v _
theorem setText_end (o : List Val) (st : List Fm) (k : Int) (t : Bytes) : R6.setText (D6.bumpTop o st ++ [⟨k, 0, []⟩]) o.length t = D6.bumpTop o st ++ [⟨k, 0, t⟩] := by
  rw [← bumpTop_length o st]
  exact R6.setText_mid (D6.bumpTop o st) [] ⟨k, 0, []⟩ t
theorem one_room {x : Dx} (v : Val) (h : (x.out.length : Int) < lim.i) : D6.one lim x v = .ok { x with out := D6.bumpTop x.out x.stack ++ [v] } := by
  unfold D6.one
  rw [if_neg (by omega)]
theorem lead {c : UInt8} {n : Nat} (hn : n ≠ 5) (h : s.drop p = c :: r) (hb : (p : Int) < lim.b) (hc : R6.blank c.toNat = false) : Runs (loopR s lim (n, ⟨p, st, o⟩)) (afterS s lim (D6.step s lim n ⟨p, st, o⟩ c.toNat)) := by
  have h1 := D6.loop_step (s := s) (lim := lim) (n := n) (st := st) (o := o) hn (pass_here h hb hc)
  rw [(drop_at h).2.1] at h1
  exact h1
theorem step_val {c n : Nat} {x : Dx} (hn : n = 0 ∨ n = 1) (hc : c ≠ 93) : D6.step s lim n x c = D6.value s lim x c := by
  rcases hn with rfl | rfl
  · simp [D6.step]
  · simp [D6.step, hc]
theorem leaf_reads {a : Val} {n : Nat} (hr : right a = true) (h4 : a.kind ≤ 4) (hn : n = 0 ∨ n = 1) (h : s.drop p = body a ++ r) (hf : Fol r) (hb : ((p + (body a).length : Nat) : Int) ≤ lim.b) (hi : ((o.length + 1 : Nat) : Int) ≤ lim.i) :
    Runs (loopR s lim (n, ⟨p, st, o⟩)) (loopR s lim (ov st, ⟨p + (body a).length, st, D6.bumpTop o st ++ [a]⟩)) := by
  have hk := right_kind hr
  have hn5 : n ≠ 5 := by omega
  have word : ∀ (k : Int) (c : UInt8) (t : Bytes), a = ⟨k, 0, []⟩ → body a = c :: t → R6.blank c.toNat = false → c.toNat ≠ 93 → (∀ x, D6.value s lim x c.toNat = D6.wordV s lim x k (c :: t)) →
      Runs (loopR s lim (n, ⟨p, st, o⟩)) (loopR s lim (ov st, ⟨p + (body a).length, st, D6.bumpTop o st ++ [a]⟩)) := by
    intro k c t ha hbo hbl h93 hval
    rw [hbo] at h hb ⊢
    have h1 := lead (lim := lim) (n := n) (st := st) (o := o) hn5 h (by rw [List.length_cons] at hb; omega) hbl
    rw [step_val hn h93, hval] at h1
    unfold D6.wordV at h1
    rw [one_room _ (by show (o.length : Int) < lim.i; omega)] at h1
    simp only at h1
    rw [word_reads (c :: t) p h hb] at h1
    rw [ha]
    exact h1
  have hkids : a.kids = 0 ∧ (a.kind ≤ 2 → a.text = []) ∧ (a.kind = 3 → numeral a.text = true) ∧ (a.kind = 4 → Lib.validD a.text = true) := by
    unfold right at hr
    by_cases h1 : (a.kind == 0 || a.kind == 1 || a.kind == 2) = true
    · rw [if_pos h1] at hr
      simp only [Bool.and_eq_true, beq_iff_eq] at hr
      simp only [Bool.or_eq_true, beq_iff_eq] at h1
      exact ⟨hr.1, fun _ => hr.2, fun e => by omega, fun e => by omega⟩
    · rw [if_neg h1] at hr
      simp only [Bool.or_eq_true, beq_iff_eq] at h1
      by_cases h3 : (a.kind == 3) = true
      · rw [if_pos h3] at hr
        simp only [Bool.and_eq_true, beq_iff_eq] at hr h3
        exact ⟨hr.1, fun e => by omega, fun _ => hr.2, fun e => by omega⟩
      · rw [if_neg h3] at hr
        simp only [beq_iff_eq] at h3
        have h44 : a.kind = 4 := by omega
        rw [if_pos (by simpa using h44)] at hr
        simp only [Bool.and_eq_true, beq_iff_eq] at hr
        exact ⟨hr.1, fun e => by omega, fun e => by omega, fun _ => hr.2⟩
  obtain ⟨hk0, hkt, hkn, hks⟩ := hkids
  obtain ⟨ak, akids, atext⟩ := a
  simp only at hk0 hkt hkn hks hk h4
  subst hk0
  have hcases : ak = 0 ∨ ak = 1 ∨ ak = 2 ∨ ak = 3 ∨ ak = 4 := by omega
  rcases hcases with rfl | rfl | rfl | rfl | rfl
  · obtain rfl := hkt (by omega)
    exact word 0 110 [117, 108, 108] rfl rfl rfl (by decide) (fun x => rfl)
  · obtain rfl := hkt (by omega)
    exact word 1 102 [97, 108, 115, 101] rfl rfl rfl (by decide) (fun x => rfl)
  · obtain rfl := hkt (by omega)
    exact word 2 116 [114, 117, 101] rfl rfl rfl (by decide) (fun x => rfl)
  · -- a number
    have hnum := hkn rfl
    have hbo : body ⟨3, 0, atext⟩ = atext := rfl
    rw [hbo] at h hb ⊢
    cases atext with
    | nil => cases hnum
    | cons c t =>
      have hd : c.toNat = 45 ∨ R6.digit c.toNat = true := by
        have hw := hnum
        rw [numeral_whole] at hw
        have hw : whole 0 (c :: t) = true := hw
        rw [whole_cons, next0'] at hw
        by_cases hm : (c.toNat == 45) = true
        · exact .inl (eq_of_beq hm)
        · rw [if_neg hm, next1'] at hw
          by_cases hz : (c.toNat == 48) = true
          · exact .inr (by rw [eq_of_beq hz]; rfl)
          · rw [if_neg hz] at hw
            cases hd : R6.digit c.toNat with
            | true => exact .inr rfl
            | false => rw [hd] at hw; cases hw
      have hrange : c.toNat = 45 ∨ (48 ≤ c.toNat ∧ c.toNat ≤ 57) := hd.imp id digit_lo
      have h1 := lead (lim := lim) (n := n) (st := st) (o := o) hn5 h (by rw [List.length_cons] at hb; omega) (by unfold R6.blank; simp; omega)
      have hv : ∀ x, D6.value s lim x c.toNat = D6.numV s lim x := by
        intro x
        unfold D6.value
        rw [if_neg (by simp; omega), if_neg (by simp; omega), if_pos]
        rcases hd with e | e
        · rw [e]; rfl
        · rw [e, Bool.or_true]
      rw [step_val hn (by omega), hv] at h1
      unfold D6.numV at h1
      rw [one_room _ (by show (o.length : Int) < lim.i; omega)] at h1
      simp only at h1
      rw [number_reads hnum h hf hb] at h1
      simp only at h1
      have hsl : (s.take (p + (c :: t).length)).drop p = c :: t := by
        rw [List.drop_take, h, Nat.add_sub_cancel_left, List.take_left]
      rw [hsl, setText_end] at h1
      exact h1
  · -- a string
    have hval := hks rfl
    have hbo : body ⟨4, 0, atext⟩ = told atext := rfl
    rw [hbo] at h hb ⊢
    have h' : s.drop p = 34 :: (atext.flatMap toldC ++ [34] ++ r) := by rw [h]; unfold told; simp
    have hl : (told atext).length = (atext.flatMap toldC).length + 2 := by unfold told; simp
    have h1 := lead (lim := lim) (n := n) (st := st) (o := o) hn5 h' (by omega) (by rfl)
    have hv : ∀ x, D6.value s lim x (34 : UInt8).toNat = D6.strV s lim x := fun x => rfl
    rw [step_val hn (by decide), hv] at h1
    unfold D6.strV at h1
    rw [one_room _ (by show (o.length : Int) < lim.i; omega)] at h1
    simp only at h1
    rw [text_reads hval h hb] at h1
    simp only at h1
    rw [setText_end] at h1
    exact h1
end Go.Px.E6

/-! What is told is read: arrays, objects (plain law). No program is named here. -/
namespace Go.Px.E6
open R6 (at_ sep)
open D6 (Runs loopR afterS Dx Fm)
variable {s r : Bytes} {lim : Lim} {p : Nat} {st : List Fm} {o : List Val}
def ReadIt (d : Nat) : Prop := ∀ (x : List Val) (t : Bytes), ItF d x t false → ∀ (s r : Bytes) (lim : Lim) (p : Nat) (st : List Fm) (o : List Val) (n : Nat), (n = 0 ∨ n = 1) → s.drop p = t ++ r → Fol r → ((p + t.length : Nat) : Int) ≤ lim.b →
    ((o.length + x.length : Nat) : Int) ≤ lim.i → ((st.length + d : Nat) : Int) ≤ lim.d → Runs (loopR s lim (n, ⟨p, st, o⟩)) (loopR s lim (ov st, ⟨p + t.length, st, D6.bumpTop o st ++ x⟩))
theorem ov_cons (f : Fm) (st : List Fm) : ov (f :: st) = 4 := rfl
theorem bump_in (base : List Val) (v : Val) (dn : List Val) (nms : List Bytes) (st : List Fm) : D6.bumpTop (base ++ v :: dn) (⟨base.length, nms⟩ :: st) = base ++ { v with kids := v.kids + 1 } :: dn := bump_mid base v dn
theorem object_in (a : Nat) (base : List Val) (v : Val) (dn : List Val) (nms : List Bytes) (st : List Fm) : D6.object ⟨a, ⟨base.length, nms⟩ :: st, base ++ v :: dn⟩ = (v.kind == 6) := by
  unfold D6.object
  simp [List.getD_eq_getElem?_getD]
theorem end_reads {k : Int} {c : UInt8} {n : Nat} {base dn : List Val} {j : Int} {nms : List Bytes} (h : s.drop p = c :: r) (hb : (p : Int) < lim.b) (hc : (k = 5 ∧ c = 93 ∧ (n = 1 ∨ n = 4)) ∨ (k = 6 ∧ c = 125 ∧ (n = 3 ∨ n = 4))) :
    Runs (loopR s lim (n, ⟨p, ⟨base.length, nms⟩ :: st, base ++ ⟨k, j, []⟩ :: dn⟩)) (loopR s lim (ov st, ⟨p + 1, st, base ++ ⟨k, j, []⟩ :: dn⟩)) := by
  have h1 := lead (lim := lim) (n := n) (st := ⟨base.length, nms⟩ :: st) (o := base ++ ⟨k, j, []⟩ :: dn) (by omega) h hb (by rcases hc with ⟨_, rfl, _⟩ | ⟨_, rfl, _⟩ <;> rfl)
  rw [D6.step_end (by
    rw [object_in]
    rcases hc with ⟨rfl, rfl, e | e⟩ | ⟨rfl, rfl, e | e⟩
    · exact .inl ⟨e, rfl⟩
    · exact .inr (.inr ⟨e, rfl⟩)
    · exact .inr (.inl ⟨e, rfl⟩)
    · exact .inr (.inr ⟨e, rfl⟩))] at h1
  exact h1
theorem comma_reads {k : Int} {base dn : List Val} {j : Int} {nms : List Bytes} (h : s.drop p = 44 :: r) (hb : (p : Int) < lim.b) :
    Runs (loopR s lim (4, ⟨p, ⟨base.length, nms⟩ :: st, base ++ ⟨k, j, []⟩ :: dn⟩)) (loopR s lim (if k == 6 then 2 else 0, ⟨p + 1, ⟨base.length, nms⟩ :: st, base ++ ⟨k, j, []⟩ :: dn⟩)) := by
  have h1 := lead (lim := lim) (n := 4) (st := ⟨base.length, nms⟩ :: st) (o := base ++ ⟨k, j, []⟩ :: dn) (by omega) h hb (by rfl)
  have e : (44 : UInt8).toNat = 44 := rfl
  rw [e, D6.step_comma, object_in] at h1
  exact h1
theorem kids_fol {R : List Val → Bytes → Bool → Prop} {ob : Bool} {m k : Nat} {nm : List Bytes} {y : List Val} {v : Bytes} {dp : Bool} {c : UInt8} (h : Kids R ob m k nm y v dp) (hk : 1 ≤ k) (ho : ob = false ∨ k % 2 = 0) (hc : c = 93 ∨ c = 125) : Fol (v ++ c :: r) := by
  cases m with
  | zero =>
    obtain ⟨_, rfl, _⟩ := h
    exact .inr ⟨c, r, rfl, .inr hc⟩
  | succ m =>
    obtain ⟨x1, y1, u1, v1, d1, d2, _, rfl, _, _, _, _⟩ := h
    have hs : sep ob k = [44] := by
      unfold sep
      rw [if_neg, if_pos (by omega)]
      rcases ho with rfl | e
      · simp
      · simp; omega
    exact .inr ⟨44, u1 ++ v1 ++ c :: r, by rw [hs]; simp, .inl rfl⟩
theorem dp_split {a b c : Bool} (h : false = (a || b || c)) : a = false ∧ b = false ∧ c = false := by cases a <;> cases b <;> cases c <;> simp at h <;> simp
theorem arr_reads {d : Nat} (ih : ReadIt d) : ∀ (m k : Nat) (nm : List Bytes) (x : List Val) (u : Bytes), Kids (ItF d) false m k nm x u false → 1 ≤ k → ∀ (s r : Bytes) (lim : Lim) (p : Nat) (st : List Fm) (base : List Val) (j : Int) (dn : List Val) (nms : List Bytes),
    s.drop p = u ++ 93 :: r → ((p + u.length + 1 : Nat) : Int) ≤ lim.b → ((base.length + 1 + dn.length + x.length : Nat) : Int) ≤ lim.i → ((st.length + 1 + d : Nat) : Int) ≤ lim.d →
    Runs (loopR s lim (4, ⟨p, ⟨base.length, nms⟩ :: st, base ++ ⟨5, j, []⟩ :: dn⟩)) (loopR s lim (ov st, ⟨p + u.length + 1, st, base ++ ⟨5, j + (m : Int), []⟩ :: (dn ++ x)⟩))
  | 0, k, nm, x, u, h, hk, s, r, lim, p, st, base, j, dn, nms, hs, hb, hi, hd => by
    obtain ⟨rfl, rfl, _⟩ := h
    simp only [List.length_nil, Nat.add_zero] at hb ⊢
    have := end_reads (k := 5) (n := 4) (base := base) (dn := dn) (j := j) (nms := nms) (st := st) (lim := lim) hs (by omega) (.inl ⟨rfl, rfl, .inr rfl⟩)
    simpa using this
  | m + 1, k, nm, x, u, h, hk, s, r, lim, p, st, base, j, dn, nms, hs, hb, hi, hd => by
    obtain ⟨x1, y, u1, v, d1, d2, rfl, rfl, h1, _, h3, hdp⟩ := h
    obtain ⟨_, rfl, rfl⟩ := dp_split hdp
    have hsp : sep false k = [44] := by unfold sep; rw [if_neg (by simp), if_pos (by omega)]
    rw [hsp] at hs hb ⊢
    simp only [List.length_append, List.length_cons, List.cons_append, List.nil_append, List.append_assoc] at hs hb hi ⊢
    have r1 := comma_reads (k := 5) (base := base) (dn := dn) (j := j) (nms := nms) (st := st) (lim := lim) hs (by omega)
    have hs1 := drop_next hs
    have r2 := ih x1 u1 h1 s (v ++ 93 :: r) lim (p + 1) (⟨base.length, nms⟩ :: st) (base ++ ⟨5, j, []⟩ :: dn) 0 (.inl rfl) hs1 (kids_fol h3 (by omega) (.inl rfl) (.inl rfl)) (by omega) (by simp only [List.length_append, List.length_cons]; omega) (by simp only [List.length_cons]; omega)
    rw [bump_in, ov_cons, List.append_assoc, List.cons_append] at r2
    have hs2 := drop_app hs1
    have r3 := arr_reads ih m (k + 1) _ y v h3 (by omega) s r lim (p + 1 + u1.length) st base (j + 1) (dn ++ x1) nms hs2 (by omega) (by simp only [List.length_append]; omega) hd
    have e := r1.trans (r2.trans r3)
    rw [List.append_assoc] at e
    rw [show p + (u1.length + v.length + 1) + 1 = p + 1 + u1.length + v.length + 1 by omega, show j + ((m + 1 : Nat) : Int) = j + 1 + (m : Int) by omega]
    exact e
/-- A name and the sign behind it. -/
theorem name_reads {n : Nat} {b : Bytes} {base dn : List Val} {j : Int} {nm : List Bytes} (hn : n = 2 ∨ n = 3) (hv : Lib.validD b = true) (h : s.drop p = told b ++ 58 :: r) (hb : ((p + (told b).length + 1 : Nat) : Int) ≤ lim.b) (hi : ((base.length + 1 + dn.length + 1 : Nat) : Int) ≤ lim.i) (hnm : nm.contains b = false) :
    Runs (loopR s lim (n, ⟨p, ⟨base.length, nm⟩ :: st, base ++ ⟨6, j, []⟩ :: dn⟩)) (loopR s lim (0, ⟨p + (told b).length + 1, ⟨base.length, nm ++ [b]⟩ :: st, base ++ ⟨6, j + 1, []⟩ :: (dn ++ [⟨4, 0, b⟩])⟩)) := by
  have h' : s.drop p = 34 :: (b.flatMap toldC ++ [34] ++ 58 :: r) := by rw [h]; unfold told; simp
  have h1 := lead (lim := lim) (n := n) (st := ⟨base.length, nm⟩ :: st) (o := base ++ ⟨6, j, []⟩ :: dn) (by omega) h' (by omega) (by rfl)
  have hstep : ∀ x, D6.step s lim n x (34 : UInt8).toNat = D6.name s lim x := by
    intro x
    have e : (34 : UInt8).toNat = 34 := rfl
    rw [e]
    rcases hn with rfl | rfl <;> simp [D6.step]
  rw [hstep] at h1
  unfold D6.name at h1
  rw [one_room _ (by simp only [List.length_append, List.length_cons]; omega)] at h1
  simp only at h1
  rw [text_reads hv h (by omega)] at h1
  have hs2 := drop_app h
  simp only [hnm] at h1
  rw [if_neg (by decide), pass_here hs2 (by omega) (by rfl)] at h1
  simp only at h1
  have hmu := must_here hs2 (lim := lim) (by omega)
  have e58 : (58 : UInt8).toNat = 58 := rfl
  rw [e58] at hmu
  rw [hmu] at h1
  simp only at h1
  rw [setText_end, bump_in, List.append_assoc, List.cons_append] at h1
  exact h1
theorem obj_reads {d : Nat} (ih : ReadIt d) : ∀ (q m k : Nat) (nm : List Bytes) (x : List Val) (u : Bytes), m = 2 * q → Kids (ItF d) true m k nm x u false → 1 ≤ k → k % 2 = 0 → ∀ (s r : Bytes) (lim : Lim) (p : Nat) (st : List Fm) (base : List Val) (j : Int) (dn : List Val),
    s.drop p = u ++ 125 :: r → ((p + u.length + 1 : Nat) : Int) ≤ lim.b → ((base.length + 1 + dn.length + x.length : Nat) : Int) ≤ lim.i → ((st.length + 1 + d : Nat) : Int) ≤ lim.d →
    Runs (loopR s lim (4, ⟨p, ⟨base.length, nm⟩ :: st, base ++ ⟨6, j, []⟩ :: dn⟩)) (loopR s lim (ov st, ⟨p + u.length + 1, st, base ++ ⟨6, j + (m : Int), []⟩ :: (dn ++ x)⟩))
  | 0, m, k, nm, x, u, hq, h, hk, hke, s, r, lim, p, st, base, j, dn, hs, hb, hi, hd => by
    subst hq
    obtain ⟨rfl, rfl, _⟩ := h
    simp only [List.length_nil, Nat.add_zero] at hb ⊢
    have := end_reads (k := 6) (n := 4) (base := base) (dn := dn) (j := j) (nms := nm) (st := st) (lim := lim) hs (by omega) (.inr ⟨rfl, rfl, .inr rfl⟩)
    simpa using this
  | q + 1, m, k, nm, x, u, hq, h, hk, hke, s, r, lim, p, st, base, j, dn, hs, hb, hi, hd => by
    obtain rfl : m = 2 * q + 1 + 1 := by omega
    obtain ⟨x1, y, u1, v, d1, d2, rfl, rfl, h1, h2, h3, hdp⟩ := h
    obtain ⟨hdup, rfl, rfl⟩ := dp_split hdp
    obtain ⟨x2, y2, u2, v2, d3, d4, rfl, rfl, g1, _, g3, gdp⟩ := h3
    obtain ⟨_, rfl, rfl⟩ := dp_split gdp
    obtain ⟨a, rfl, ha4⟩ := h2 rfl hke
    have hsp : sep true k = [44] := by unfold sep; rw [if_neg (by simp; omega), if_pos (by omega)]
    have hsp2 : sep true (k + 1) = [58] := by unfold sep; rw [if_pos (by simp; omega)]
    rw [hsp, hsp2] at hs hb ⊢
    have hkt : (true && k % 2 == 0) = true := by simp [hke]
    have hkf : (true && (k + 1) % 2 == 0) = false := by simp; omega
    rw [hkt, Bool.true_and] at hdup
    rw [hkf] at g3
    rw [hkt] at g3
    rw [if_pos rfl, if_neg (by decide)] at g3
    have hleaf : right a = true ∧ u1 = body a := by
      cases d with
      | zero => obtain ⟨a', e, hr, _, e2, _⟩ := h1; cases e; exact ⟨hr, e2⟩
      | succ d =>
        rcases h1 with ⟨a', e, hr, _, e2, _⟩ | ⟨a', r', u', e, _, h5, _⟩
        · cases e; exact ⟨hr, e2⟩
        · cases e; omega
    obtain ⟨hra, rfl⟩ := hleaf
    obtain ⟨ak, akids, b⟩ := a
    simp only at ha4
    subst ha4
    have hra2 : akids = 0 ∧ Lib.validD b = true := by
      have e : right ⟨4, akids, b⟩ = (akids == 0 && Lib.validD b) := rfl
      rw [e] at hra
      simpa using hra
    obtain ⟨rfl, hvb⟩ := hra2
    have hbo : body ⟨4, 0, b⟩ = told b := rfl
    rw [hbo] at hs hb ⊢
    have hnmof : nmOf [(⟨4, 0, b⟩ : Val)] = b := rfl
    rw [hnmof] at hdup g3
    simp only [List.length_append, List.length_cons, List.cons_append, List.nil_append, List.append_assoc] at hs hb hi ⊢
    have r1 := comma_reads (k := 6) (base := base) (dn := dn) (j := j) (nms := nm) (st := st) (lim := lim) hs (by omega)
    have hs1 := drop_next hs
    have r2 := name_reads (n := 2) (b := b) (base := base) (dn := dn) (j := j) (nm := nm) (st := st) (lim := lim) (.inl rfl) hvb hs1 (by omega) (by omega) hdup
    have hs2 := drop_next (drop_app hs1)
    have r3 := ih x2 u2 g1 s (v2 ++ 125 :: r) lim (p + 1 + (told b).length + 1) (⟨base.length, nm ++ [b]⟩ :: st) (base ++ ⟨6, j + 1, []⟩ :: (dn ++ [⟨4, 0, b⟩])) 0 (.inl rfl) hs2 (kids_fol g3 (by omega) (.inr (by omega)) (.inr rfl)) (by omega) (by simp only [List.length_append, List.length_cons, List.length_nil]; omega) (by simp only [List.length_cons]; omega)
    rw [bump_in, ov_cons, List.append_assoc, List.cons_append] at r3
    have hs3 := drop_app hs2
    have r4 := obj_reads ih q (2 * q) (k + 1 + 1) _ y2 v2 rfl g3 (by omega) (by omega) s r lim (p + 1 + (told b).length + 1 + u2.length) st base (j + 1 + 1) (dn ++ [⟨4, 0, b⟩] ++ x2) hs3 (by omega) (by simp only [List.length_append, List.length_cons, List.length_nil]; omega) hd
    have e := r1.trans (r2.trans (r3.trans r4))
    simp only [List.append_assoc, List.cons_append, List.nil_append] at e
    rw [show p + ((told b).length + (u2.length + v2.length + 1) + 1) + 1 = p + 1 + (told b).length + 1 + u2.length + v2.length + 1 by omega, show j + ((2 * q + 1 + 1 : Nat) : Int) = j + 1 + 1 + ((2 * q : Nat) : Int) by omega]
    exact e
end Go.Px.E6

/-! What is told is read: the list that it was (plain law: JsonBack). No program is named here. -/
namespace Go.Px.E6
open R6 (at_ sep)
open D6 (Runs loopR afterS Dx Fm)
theorem opens_reads {s r : Bytes} {lim : Lim} {p n : Nat} {st : List Fm} {o : List Val} {c : UInt8} (hc : c = 91 ∨ c = 123) (hn : n = 0 ∨ n = 1) (h : s.drop p = c :: r) (hb : (p : Int) < lim.b) (hi : (o.length : Int) < lim.i) (hd : (st.length : Int) < lim.d) :
    Runs (loopR s lim (n, ⟨p, st, o⟩)) (loopR s lim (if c.toNat == 91 then 1 else 3, ⟨p + 1, ⟨(D6.bumpTop o st).length, []⟩ :: st, D6.bumpTop o st ++ ⟨if c.toNat == 91 then 5 else 6, 0, []⟩ :: []⟩)) := by
  have h1 := lead (lim := lim) (n := n) (st := st) (o := o) (by omega) h hb (by rcases hc with rfl | rfl <;> rfl)
  have hv : ∀ x, D6.value s lim x c.toNat = D6.opens lim x c.toNat := by
    intro x
    rcases hc with rfl | rfl <;> rfl
  rw [step_val hn (by rcases hc with rfl | rfl <;> decide), hv] at h1
  unfold D6.opens at h1
  rw [if_neg (by simp only; omega), one_room _ (by exact hi)] at h1
  rw [bumpTop_length]
  exact h1
theorem read_it : ∀ d, ReadIt d
  | 0 => by
    intro x t h s r lim p st o n hn hs hf hb hi hd
    obtain ⟨a, rfl, hr, h4, rfl, _⟩ := h
    exact leaf_reads hr h4 hn hs hf hb hi
  | d + 1 => by
    intro x t h s r lim p st o n hn hs hf hb hi hd
    rcases h with ⟨a, rfl, hr, h4, rfl, _⟩ | ⟨a, x', u, rfl, hr, h5, rfl, hk⟩
    · exact leaf_reads hr h4 hn hs hf hb hi
    · have hk56 := (right_kids hr).1 h5
      have hk0 := (right_kids hr).2
      obtain ⟨ak, akids, atext⟩ := a
      simp only at hk56 hk0 hk
      have htx : atext = [] ∧ (ak = 6 → akids.tmod 2 = 0) := by
        rcases hk56 with rfl | rfl
        · have e : right ⟨5, akids, atext⟩ = (decide (0 ≤ akids) && atext == []) := rfl
          rw [e] at hr
          simp only [Bool.and_eq_true, beq_iff_eq] at hr
          exact ⟨hr.2, fun e => by omega⟩
        · have e : right ⟨6, akids, atext⟩ = (decide (0 ≤ akids) && akids.tmod 2 == 0 && atext == []) := rfl
          rw [e] at hr
          simp only [Bool.and_eq_true, beq_iff_eq] at hr
          exact ⟨hr.2, fun _ => hr.1.2⟩
      obtain ⟨rfl, hev⟩ := htx
      obtain ⟨m, rfl⟩ : ∃ m : Nat, akids = (m : Int) := ⟨akids.toNat, by omega⟩
      rw [Int.toNat_natCast] at hk
      simp only [List.length_cons] at hi
      rcases hk56 with rfl | rfl
      · -- an array
        have hs : s.drop p = 91 :: (u ++ 93 :: r) := by rw [hs]; simp [opn, cls]
        have htl : (opn ⟨5, (m : Int), []⟩ :: u ++ [cls 5]).length = u.length + 2 := by simp
        rw [htl] at hb ⊢
        have r1 := opens_reads (lim := lim) (n := n) (st := st) (o := o) (.inl rfl) hn hs (by omega) (by omega) (by omega)
        have hs1 := drop_next hs
        have e91 : (91 : UInt8).toNat = 91 := rfl
        rw [e91] at r1
        have hk : Kids (ItF d) false m 0 [] x' u false := hk
        have hlb := bumpTop_length o st
        cases m with
        | zero =>
          obtain ⟨rfl, rfl, _⟩ := hk
          have r2 := end_reads (k := 5) (n := 1) (base := D6.bumpTop o st) (dn := []) (j := 0) (nms := []) (st := st) (lim := lim) hs1 (by simp only [List.length_nil] at hb; omega) (.inl ⟨rfl, rfl, .inl rfl⟩)
          exact r1.trans r2
        | succ m =>
          obtain ⟨x1, y, u1, v, d1, d2, rfl, rfl, h1, _, h3, hdp⟩ := hk
          obtain ⟨_, rfl, rfl⟩ := dp_split hdp
          have hsp : sep false 0 = [] := rfl
          rw [hsp] at hs1 hb ⊢
          simp only [List.length_append, List.nil_append, List.append_assoc] at hs1 hb hi ⊢
          have r2 := read_it d x1 u1 h1 s (v ++ 93 :: r) lim (p + 1) (⟨(D6.bumpTop o st).length, []⟩ :: st) (D6.bumpTop o st ++ ⟨5, 0, []⟩ :: []) 1 (.inr rfl) hs1 (kids_fol h3 (by omega) (.inl rfl) (.inl rfl)) (by omega) (by simp only [List.length_append, List.length_cons, List.length_nil]; omega) (by simp only [List.length_cons]; omega)
          rw [bump_in, ov_cons, List.append_assoc, List.cons_append, List.nil_append] at r2
          have r3 := arr_reads (read_it d) m (0 + 1) _ y v h3 (by omega) s r lim (p + 1 + u1.length) st (D6.bumpTop o st) (0 + 1) x1 [] (drop_app hs1) (by omega) (by omega) (by omega)
          have e := r1.trans (r2.trans r3)
          rw [show p + (u1.length + v.length + 2) = p + 1 + u1.length + v.length + 1 by omega, show ((m + 1 : Nat) : Int) = 0 + 1 + (m : Int) by omega]
          exact e
      · -- an object
        have hs : s.drop p = 123 :: (u ++ 125 :: r) := by rw [hs]; simp [opn, cls]
        have htl : (opn ⟨6, (m : Int), []⟩ :: u ++ [cls 6]).length = u.length + 2 := by simp
        rw [htl] at hb ⊢
        have r1 := opens_reads (lim := lim) (n := n) (st := st) (o := o) (.inr rfl) hn hs (by omega) (by omega) (by omega)
        have hs1 := drop_next hs
        have e123 : ((123 : UInt8).toNat == 91) = false := rfl
        rw [e123] at r1
        have hk : Kids (ItF d) true m 0 [] x' u false := hk
        have hlb := bumpTop_length o st
        have hev2 : m % 2 = 0 := by
          have := hev rfl
          rw [Int.tmod_eq_emod_of_nonneg (by omega)] at this
          omega
        obtain ⟨q, rfl⟩ : ∃ q, m = 2 * q := ⟨m / 2, by omega⟩
        cases q with
        | zero =>
          obtain ⟨rfl, rfl, _⟩ := hk
          have r2 := end_reads (k := 6) (n := 3) (base := D6.bumpTop o st) (dn := []) (j := 0) (nms := []) (st := st) (lim := lim) hs1 (by simp only [List.length_nil] at hb; omega) (.inr ⟨rfl, rfl, .inl rfl⟩)
          exact r1.trans r2
        | succ q =>
          have hk : Kids (ItF d) true (2 * q + 1 + 1) 0 [] x' u false := hk
          obtain ⟨x1, y, u1, v, d1, d2, rfl, rfl, h1, h2, h3, hdp⟩ := hk
          obtain ⟨hdup, rfl, rfl⟩ := dp_split hdp
          obtain ⟨x2, y2, u2, v2, d3, d4, rfl, rfl, g1, _, g3, gdp⟩ := h3
          obtain ⟨_, rfl, rfl⟩ := dp_split gdp
          obtain ⟨a, rfl, ha4⟩ := h2 rfl rfl
          have hsp : sep true 0 = [] := rfl
          have hsp2 : sep true (0 + 1) = [58] := rfl
          rw [hsp, hsp2] at hs1 hb ⊢
          have hleaf : right a = true ∧ u1 = body a := by
            cases d with
            | zero => obtain ⟨a', e, hr, _, e2, _⟩ := h1; cases e; exact ⟨hr, e2⟩
            | succ d =>
              rcases h1 with ⟨a', e, hr, _, e2, _⟩ | ⟨a', r', u', e, _, h5, _⟩
              · cases e; exact ⟨hr, e2⟩
              · cases e; omega
          obtain ⟨hra, rfl⟩ := hleaf
          obtain ⟨ak, akids, b⟩ := a
          simp only at ha4
          subst ha4
          have hra2 : akids = 0 ∧ Lib.validD b = true := by
            have e : right ⟨4, akids, b⟩ = (akids == 0 && Lib.validD b) := rfl
            rw [e] at hra
            simpa using hra
          obtain ⟨rfl, hvb⟩ := hra2
          have hbo : body ⟨4, 0, b⟩ = told b := rfl
          rw [hbo] at hs1 hb ⊢
          have g3' : Kids (ItF d) true (2 * q) (0 + 1 + 1) [b] y2 v2 false := g3
          simp only [List.length_append, List.length_cons, List.cons_append, List.nil_append, List.append_assoc] at hs1 hb hi ⊢
          have r2 := name_reads (n := 3) (b := b) (base := D6.bumpTop o st) (dn := []) (j := 0) (nm := []) (st := st) (lim := lim) (.inr rfl) hvb hs1 (by omega) (by simp only [List.length_nil]; omega) rfl
          have hs2 := drop_next (drop_app hs1)
          have r3 := read_it d x2 u2 g1 s (v2 ++ 125 :: r) lim (p + 1 + (told b).length + 1) (⟨(D6.bumpTop o st).length, [] ++ [b]⟩ :: st) (D6.bumpTop o st ++ ⟨6, 0 + 1, []⟩ :: ([] ++ [⟨4, 0, b⟩])) 0 (.inl rfl) hs2 (kids_fol g3' (by omega) (.inr rfl) (.inr rfl)) (by omega) (by simp only [List.length_append, List.length_cons, List.length_nil]; omega) (by simp only [List.length_cons]; omega)
          rw [bump_in, ov_cons, List.append_assoc, List.cons_append] at r3
          have r4 := obj_reads (read_it d) q (2 * q) (0 + 1 + 1) _ y2 v2 rfl g3' (by omega) (by omega) s r lim (p + 1 + (told b).length + 1 + u2.length) st (D6.bumpTop o st) (0 + 1 + 1) ([] ++ [⟨4, 0, b⟩] ++ x2) (drop_app hs2) (by omega) (by simp only [List.length_append, List.length_cons, List.length_nil]; omega) (by omega)
          have e := r1.trans (r2.trans (r3.trans r4))
          simp only [List.cons_append, List.nil_append] at e
          rw [show p + ((told b).length + (u2.length + v2.length + 1) + 2) = p + 1 + (told b).length + 1 + u2.length + v2.length + 1 by omega, show ((2 * (q + 1) : Nat) : Int) = 0 + 1 + 1 + ((2 * q : Nat) : Int) by omega]
          exact e
theorem loopN_mono {s : Bytes} {lim : Lim} : ∀ (m : Nat) (y : D6.Nx) (r : Except D6.Flt Dx), D6.loopN s lim m y = some r → ∀ k, D6.loopN s lim (m + k) y = some r
  | 0, _, _, h, _ => by cases h
  | m + 1, (n, x), r, h, k => by
    rw [show m + 1 + k = m + k + 1 by omega]
    rw [D6.loopN] at h ⊢
    by_cases h5 : (n == 5) = true
    · rw [if_pos h5] at h ⊢; exact h
    · rw [if_neg h5] at h ⊢
      cases hp : D6.pass s lim x.at_ with
      | error e => rw [hp] at h; exact h
      | ok q =>
        rw [hp] at h
        simp only at h ⊢
        cases hst : D6.step s lim n { x with at_ := q } (at_ s q) with
        | error e => rw [hst] at h; exact h
        | ok y => rw [hst] at h; exact loopN_mono m y r h k
/-- What one value is told by is read to it. -/
theorem decode_it {D : Nat} {l : List Val} {t : Bytes} {lim : Lim} (h : ItF D l t false) (hm : lim.may = true) (hd : (D : Int) ≤ lim.d) (hi : (l.length : Int) ≤ lim.i) (hb : (t.length : Int) ≤ lim.b) : R6.decode t lim = (l, 0, 0) := by
  have h1 := read_it D l t h t [] lim 0 [] [] 0 (.inl rfl) (by simp) (.inl rfl) (by omega) (by simpa using hi) (by simpa using hd)
  obtain ⟨n, h1⟩ := h1
  have h2 : D6.loopN t lim (1 + n) (0, ⟨0, [], []⟩) = some (.ok ⟨0 + t.length, [], D6.bumpTop [] [] ++ l⟩) := by
    rw [Nat.add_comm]
    exact h1 1
  obtain ⟨m', r, h3, h4⟩ := D6.run_ref t lim hm
  cases hl : D6.loopN t lim m' (0, ⟨0, [], []⟩) with
  | none =>
    unfold D6.run at h3
    rw [hl] at h3
    cases h3
  | some q =>
    have e1 := loopN_mono _ _ _ hl (1 + n)
    have e2 := loopN_mono _ _ _ h2 m'
    rw [Nat.add_comm] at e2
    rw [e2] at e1
    cases e1
    have h5 := D6.run_of hl
    rw [h3] at h5
    cases h5
    rw [h4]
    unfold D6.rests
    simp only
    have hr : D6.restN t lim (t.length + 1 - (0 + t.length)) (0 + t.length) = .ok () := by
      rw [show t.length + 1 - (0 + t.length) = 0 + 1 by omega, D6.restN, if_neg (by omega)]
    rw [hr]
    rfl
/-- JsonBack, plainly: what is told is read to the list that it was, within the greatest limits. -/
theorem back {l : List Val} {t : Bytes} {lim : Lim} (he : encode l = (t, 0)) (hl : lim = ⟨32, 4096, 262144, 4096⟩) : R6.decode t lim = (l, 0, 0) := by
  rw [encode_ref] at he
  subst hl
  unfold R6.encode at he
  by_cases hn : 4096 < l.length
  · rw [if_pos hn] at he; cases he
  · rw [if_neg hn] at he
    by_cases hr : (l.any fun v => !R6.right v) = true
    · rw [if_pos hr] at he; cases he
    · rw [if_neg hr] at he
      have hall := (any_right l).1 (Bool.eq_false_iff.2 hr)
      by_cases hbe : (R6.behind l 0).1 = some l.length
      · have hit := it_of_beh (D := (R6.behind l 0).2) hall hbe (Nat.le_refl _)
        have hdup := dup_it _ _ _ _ hit l [] 0 (by simp)
        have hany : ((List.range l.length).any fun i => (l.getD i ⟨0, 0, []⟩).kind == 6 && R6.twice l i) = anyT l 0 l.length := by
          unfold anyT
          simp only [Nat.zero_add]
        have hdp := beh_deep l [] 0 0
        rw [hany, ← hdup] at he
        by_cases hem : ((R6.behind l 0).1 != some l.length || l.isEmpty) = true
        · rw [if_pos hem] at he; cases he
        · rw [if_neg hem] at he
          by_cases hdd : dupN l [] = true
          · rw [if_pos hdd] at he; cases he
          · rw [if_neg hdd] at he
            by_cases hlim : 32 < (R6.behind l 0).2 ∨ 262144 < R6.total l
            · rw [if_pos hlim] at he; cases he
            · rw [if_neg hlim] at he
              obtain ⟨t', q, g, e1, e2, e3⟩ := tell_it _ _ _ _ hit l [] 0 (l.length + 1) (by simp) (by unfold R6.behind; rw [List.drop_zero]; simp only [List.length_nil] at hdp; omega)
              rw [e1] at he
              simp only at he
              by_cases hz : (g || decide (262144 < t'.length)) = true
              · rw [if_pos hz] at he; cases he
              · rw [if_neg hz] at he
                cases he
                have hg : g = false := by
                  cases g with
                  | false => rfl
                  | true => simp at hz
                subst hg
                obtain ⟨rfl, _⟩ := e2 rfl
                have hzz : ¬ 262144 < (txtN l []).length := by simpa using hz
                have hfd : dupN l [] = false := Bool.eq_false_iff.2 hdd
                rw [hfd] at hit
                exact decode_it hit (by decide) (by show ((R6.behind l 0).2 : Int) ≤ 32; omega) (by show (l.length : Int) ≤ 4096; omega) (by show ((txtN l []).length : Int) ≤ 262144; omega)
      · rw [if_pos (by rw [bne_iff_ne.2 hbe]; rfl)] at he; cases he
end Go.Px.E6

/-! Valid strings, joined (plain law). No program is named here. -/
namespace Go.Px.E6
open Utf (utfE utfW)
theorem utfE_app {n N x0 x1 x2 x3 y1 y2 y3 : Nat} (hn : n ≤ N) (e1 : 1 < n → y1 = x1) (e2 : 2 < n → y2 = x2) (e3 : 3 < n → y3 = x3) (h : utfE n x0 x1 x2 x3 ≠ 0) : utfE N x0 y1 y2 y3 = utfE n x0 x1 x2 x3 := by
  unfold utfE at h ⊢
  by_cases c1 : x0 < 128
  · rw [if_pos c1, if_pos c1]
  · rw [if_neg c1] at h ⊢
    rw [if_neg c1]
    by_cases c2 : 192 ≤ x0 ∧ x0 < 224
    · rw [if_pos c2] at h ⊢
      rw [if_pos c2]
      by_cases hz : n < 2
      · rw [if_pos hz] at h; exact absurd rfl h
      · rw [e1 (by omega), if_neg (by omega), if_neg hz]
    · rw [if_neg c2] at h ⊢
      rw [if_neg c2]
      by_cases c3 : 224 ≤ x0 ∧ x0 < 240
      · rw [if_pos c3] at h ⊢
        rw [if_pos c3]
        by_cases hz : n < 3
        · rw [if_pos hz] at h; exact absurd rfl h
        · rw [e1 (by omega), e2 (by omega), if_neg (by omega), if_neg hz]
      · rw [if_neg c3] at h ⊢
        rw [if_neg c3]
        by_cases c4 : 240 ≤ x0 ∧ x0 < 248
        · rw [if_pos c4] at h ⊢
          rw [if_pos c4]
          by_cases hz : n < 4
          · rw [if_pos hz] at h; exact absurd rfl h
          · rw [e1 (by omega), e2 (by omega), e3 (by omega), if_neg (by omega), if_neg hz]
        · rw [if_neg c4] at h; exact absurd rfl h
theorem utfE_le {n x0 x1 x2 x3 : Nat} (hn : 1 ≤ n) : utfE n x0 x1 x2 x3 ≤ n := by
  unfold utfE
  repeat' split
  all_goals omega
theorem getD_app {a b : Bytes} {j : Nat} (h : j < a.length) : (a ++ b).getD j 0 = a.getD j 0 := by
  rw [List.getD_eq_getElem?_getD, List.getD_eq_getElem?_getD, List.getElem?_append_left h]
theorem utfW_ne {a : Bytes} (h : utfW a ≠ 0) : a ≠ [] := fun e => h (by rw [e]; rfl)
theorem utfW_le {a : Bytes} : utfW a ≤ a.length := by
  by_cases h : a = []
  · subst h; exact Nat.le_refl _
  · rw [Utf.utfW_eq a h]
    exact utfE_le (by cases a with | nil => exact absurd rfl h | cons c r => simp)
theorem utfW_app {a : Bytes} (b : Bytes) (h : utfW a ≠ 0) : utfW (a ++ b) = utfW a := by
  have hne := utfW_ne h
  have hl : 0 < a.length := List.length_pos_iff.2 hne
  have hne2 : a ++ b ≠ [] := by simp [hne]
  rw [Utf.utfW_eq a hne] at h ⊢
  rw [Utf.utfW_eq _ hne2, getD_app hl]
  exact utfE_app (by rw [List.length_append]; omega) (fun hj => by rw [getD_app hj]) (fun hj => by rw [getD_app hj]) (fun hj => by rw [getD_app hj]) h
theorem valid_fuel : ∀ (n m : Nat) (l : Bytes), l.length ≤ n → l.length ≤ m → Lib.validGoD n l = Lib.validGoD m l
  | n, m, [], _, _ => by rw [Utf.validGoD_nil, Utf.validGoD_nil]
  | 0, _, c :: l, h, _ => by simp at h
  | _ + 1, 0, c :: l, _, h => by simp at h
  | n + 1, m + 1, c :: l, h1, h2 => by
    rw [Utf.validGoD_step n _ (by simp), Utf.validGoD_step m _ (by simp)]
    by_cases hw : utfW (c :: l) = 0
    · rw [if_pos hw, if_pos hw]
    · rw [if_neg hw, if_neg hw]
      exact valid_fuel n m _ (by rw [List.length_drop]; omega) (by rw [List.length_drop]; omega)
theorem valid_app : ∀ (n : Nat) (a : Bytes), a.length ≤ n → Lib.validGoD n a = true → ∀ (b : Bytes), Lib.validGoD b.length b = true → ∀ m, (a ++ b).length ≤ m → Lib.validGoD m (a ++ b) = true
  | n, [], _, _, b, hb, m, hm => by
    rw [List.nil_append] at hm ⊢
    rw [valid_fuel m b.length b hm (Nat.le_refl _)]
    exact hb
  | 0, c :: a, h, _, _, _, _, _ => by simp at h
  | n + 1, c :: a, h, hv, b, hb, m, hm => by
    rw [Utf.validGoD_step n _ (by simp)] at hv
    by_cases hw : utfW (c :: a) = 0
    · rw [if_pos hw] at hv; cases hv
    · rw [if_neg hw] at hv
      obtain ⟨m, rfl⟩ : ∃ k, m = k + 1 := ⟨m - 1, by rw [List.length_append, List.length_cons] at hm; omega⟩
      have hwl := utfW_le (a := c :: a)
      rw [Utf.validGoD_step m _ (by simp), utfW_app b hw, if_neg hw, List.drop_append_of_le_length hwl]
      exact valid_app n _ (by rw [List.length_drop]; omega) hv b hb m (by rw [List.length_append, List.length_drop]; rw [List.length_append] at hm; omega)
theorem valid_join {a b : Bytes} (ha : Lib.validD a = true) (hb : Lib.validD b = true) : Lib.validD (a ++ b) = true := valid_app a.length a (Nat.le_refl _) ha b hb _ (Nat.le_refl _)
/-- One sign alone. -/
theorem valid_sign {a : Bytes} (hne : a ≠ []) (h : utfW a = a.length) : Lib.validD a = true := by
  show Lib.validGoD a.length a = true
  have hl : 0 < a.length := List.length_pos_iff.2 hne
  obtain ⟨m, hm⟩ : ∃ k, a.length = k + 1 := ⟨a.length - 1, by omega⟩
  rw [hm, Utf.validGoD_step m a hne, if_neg (by omega), h, List.drop_length]
  exact Utf.validGoD_nil m
theorem sign8_valid {n : Nat} (h : n < 55296 ∨ (57344 ≤ n ∧ n < 1114112)) : Lib.validD (R6.sign8 n) = true := by
  have ofn : ∀ k, k < 256 → (UInt8.ofNat k).toNat = k := fun k hk => by simp; omega
  unfold R6.sign8
  by_cases h1 : n < 128
  · rw [if_pos h1]
    refine valid_sign (by simp) ?_
    rw [Utf.utfW_eq _ (by simp)]
    simp only [List.getD_cons_zero, List.length_cons, List.length_nil]
    rw [ofn n (by omega)]
    unfold utfE
    rw [if_pos h1]
  · rw [if_neg h1]
    by_cases h2 : n < 2048
    · rw [if_pos h2]
      refine valid_sign (by simp) ?_
      rw [Utf.utfW_eq _ (by simp)]
      simp only [List.getD_cons_zero, List.getD_cons_succ, List.length_cons, List.length_nil]
      rw [ofn (192 + n / 64) (by omega), ofn (128 + n % 64) (by omega)]
      unfold utfE
      rw [if_neg (by omega), if_pos (by omega), if_neg (by omega), if_neg (by omega), if_neg (by omega)]
    · rw [if_neg h2]
      by_cases h3 : n < 65536
      · rw [if_pos h3]
        refine valid_sign (by simp) ?_
        rw [Utf.utfW_eq _ (by simp)]
        simp only [List.getD_cons_zero, List.getD_cons_succ, List.length_cons, List.length_nil]
        rw [ofn (224 + n / 4096) (by omega), ofn (128 + n / 64 % 64) (by omega), ofn (128 + n % 64) (by omega)]
        unfold utfE
        rw [if_neg (by omega), if_neg (by omega), if_pos (by omega), if_neg (by omega), if_neg (by omega), if_neg (by omega), if_neg (by omega)]
      · rw [if_neg h3]
        refine valid_sign (by simp) ?_
        rw [Utf.utfW_eq _ (by simp)]
        simp only [List.getD_cons_zero, List.getD_cons_succ, List.length_cons, List.length_nil]
        rw [ofn (240 + n / 262144) (by omega), ofn (128 + n / 4096 % 64) (by omega), ofn (128 + n / 64 % 64) (by omega), ofn (128 + n % 64) (by omega)]
        unfold utfE
        rw [if_neg (by omega), if_neg (by omega), if_neg (by omega), if_pos (by omega), if_neg (by omega), if_neg (by omega), if_neg (by omega), if_neg (by omega), if_neg (by omega)]
end Go.Px.E6

/-! A string that is read is valid, and not longer than what was read (plain law). No program is named here. -/
namespace Go.Px.E6
open R6 (at_)
open Utf (utfE utfW)
variable {s : Bytes} {lim : Lim}
theorem want_ok {p c : Nat} (h : D6.want s lim p = .ok c) : p < s.length ∧ (p : Int) < lim.b ∧ c = at_ s p := by
  unfold D6.want at h
  by_cases h1 : s.length ≤ p
  · rw [if_pos h1] at h; cases h
  · rw [if_neg h1] at h
    by_cases h2 : lim.b ≤ p
    · rw [if_pos h2] at h; cases h
    · rw [if_neg h2] at h
      cases h
      exact ⟨by omega, by omega, rfl⟩
theorem hex_lt {c h : Nat} (e : R6.hex c = some h) : h < 16 := by
  unfold R6.hex R6.digit at e
  split at e
  · rename_i hc
    simp only [Bool.and_eq_true, decide_eq_true_eq] at hc
    cases e
    omega
  · split at e
    · rename_i hc
      simp only [Bool.and_eq_true, decide_eq_true_eq] at hc
      cases e
      omega
    · split at e
      · rename_i hc
        simp only [Bool.and_eq_true, decide_eq_true_eq] at hc
        cases e
        omega
      · cases e
theorem four_lt {p r : Nat} (h : D6.four s lim p = .ok r) : r < 65536 := by
  have go : ∀ (m p n : Nat), D6.fourN s lim m p n = .ok r → r < (n + 1) * 16 ^ m := by
    intro m
    induction m with
    | zero => intro p n h; rw [D6.fourN] at h; cases h; simp
    | succ m ih =>
      intro p n h
      rw [D6.fourN] at h
      cases hw : D6.want s lim p with
      | error e => rw [hw] at h; cases h
      | ok c =>
        rw [hw] at h
        simp only at h
        cases hx : R6.hex c with
        | none => rw [hx] at h; cases h
        | some k =>
          rw [hx] at h
          have h1 := ih _ _ h
          have h2 := hex_lt hx
          have h3 : (16 * n + k + 1) * 16 ^ m ≤ (16 * (n + 1)) * 16 ^ m := Nat.mul_le_mul_right _ (by omega)
          rw [Nat.pow_succ]
          have h4 : (16 * (n + 1)) * 16 ^ m = (n + 1) * (16 ^ m * 16) := by rw [Nat.mul_comm 16 (n + 1), Nat.mul_assoc, Nat.mul_comm 16]
          omega
  have := go 4 p 0 h
  simpa using this
theorem must_ok6 {p c q : Nat} (h : D6.must s lim p c = .ok q) : q = p + 1 := by
  unfold D6.must at h
  cases hw : D6.want s lim p with
  | error e => rw [hw] at h; cases h
  | ok z =>
    rw [hw] at h
    simp only at h
    by_cases hz : (z == c) = true
    · rw [if_pos hz] at h; cases h; rfl
    · rw [if_neg hz] at h; cases h
theorem sign8_len (n : Nat) : (R6.sign8 n).length ≤ 4 := by
  unfold R6.sign8
  repeat' split
  all_goals simp
theorem byte_valid {v : UInt8} (h : v.toNat < 128) : Lib.validD [v] = true := by
  refine valid_sign (by simp) ?_
  rw [Utf.utfW_eq _ (by simp)]
  simp only [List.getD_cons_zero, List.length_cons, List.length_nil]
  unfold utfE
  rw [if_pos h]
theorem escape_valid {p q : Nat} {b : Bytes} (h : D6.escape s lim p = .ok (b, q)) : Lib.validD b = true ∧ b.length + p ≤ q := by
  unfold D6.escape at h
  cases hw : D6.want s lim p with
  | error e => rw [hw] at h; cases h
  | ok c =>
    rw [hw] at h
    simp only at h
    cases hl : R6.letter c with
    | some v =>
      rw [hl] at h
      cases h
      refine ⟨byte_valid ?_, by simp; omega⟩
      unfold R6.letter at hl
      repeat' split at hl
      all_goals first | (cases hl; decide) | cases hl
    | none =>
      rw [hl] at h
      simp only at h
      by_cases hu : (c == 117) = true
      · rw [if_pos hu] at h
        cases hf : D6.four s lim (p + 1) with
        | error e => rw [hf] at h; cases h
        | ok n =>
          rw [hf] at h
          simp only at h
          have hn := four_lt hf
          by_cases c1 : (decide (56320 ≤ n) && decide (n < 57344)) = true
          · rw [if_pos c1] at h; cases h
          · rw [if_neg c1] at h
            simp only [Bool.and_eq_true, decide_eq_true_eq] at c1
            by_cases c2 : (decide (55296 ≤ n) && decide (n < 56320)) = true
            · rw [if_pos c2] at h
              simp only [Bool.and_eq_true, decide_eq_true_eq] at c2
              unfold D6.second at h
              cases h1 : D6.must s lim (p + 5) 92 with
              | error e => rw [h1] at h; cases h
              | ok q1 =>
                rw [h1] at h
                simp only at h
                obtain rfl := must_ok6 h1
                cases h2 : D6.must s lim (p + 5 + 1) 117 with
                | error e => rw [h2] at h; cases h
                | ok q2 =>
                  rw [h2] at h
                  simp only at h
                  cases h3 : D6.four s lim q2 with
                  | error e => rw [h3] at h; cases h
                  | ok m =>
                    rw [h3] at h
                    simp only at h
                    by_cases c3 : (decide (m < 56320) || decide (57344 ≤ m)) = true
                    · rw [if_pos c3] at h; cases h
                    · rw [if_neg c3] at h
                      simp only [Bool.or_eq_true, decide_eq_true_eq] at c3
                      have hm4 := four_lt h3
                      obtain ⟨N, hN⟩ : ∃ N, N = 65536 + (n - 55296) * 1024 + m - 56320 := ⟨_, rfl⟩
                      rw [← hN] at h
                      have hr : 57344 ≤ N ∧ N < 1114112 := by omega
                      clear hN
                      simp only [Except.ok.injEq, Prod.mk.injEq] at h
                      obtain ⟨rfl, rfl⟩ := h
                      have := sign8_len N
                      exact ⟨sign8_valid (.inr hr), by omega⟩
            · rw [if_neg c2] at h
              simp only [Bool.and_eq_true, decide_eq_true_eq] at c2
              cases h
              have := sign8_len n
              exact ⟨sign8_valid (by omega), by omega⟩
      · rw [if_neg hu] at h; cases h
theorem signN_ok {m p l h q : Nat} (e : D6.signN s lim (m + 1) p l h = .ok q) : p < s.length ∧ l ≤ at_ s p ∧ at_ s p ≤ h ∧ D6.signN s lim m (p + 1) 128 191 = .ok q := by
  rw [D6.signN] at e
  cases hw : D6.want s lim p with
  | error e2 => rw [hw] at e; cases e
  | ok c =>
    rw [hw] at e
    simp only at e
    obtain ⟨h1, _, rfl⟩ := want_ok hw
    by_cases hc : (decide (at_ s p < l) || decide (h < at_ s p)) = true
    · rw [if_pos hc] at e; cases e
    · rw [if_neg hc] at e
      simp only [Bool.or_eq_true, decide_eq_true_eq] at hc
      exact ⟨h1, by omega, by omega, e⟩
theorem sign_valid {p q : Nat} (h : D6.sign s lim p = .ok q) : Lib.validD ((s.take q).drop p) = true ∧ p < q ∧ q ≤ s.length := by
  unfold D6.sign at h
  cases hw : D6.want s lim p with
  | error e => rw [hw] at h; cases h
  | ok c =>
    rw [hw] at h
    simp only at h
    obtain ⟨h0, _, rfl⟩ := want_ok hw
    have e0 : (s.take (p + 1)).drop p = [s.getD p 0] := by rw [J6.part_snoc (Nat.le_refl p) h0, E5.drop_take_self, List.nil_append]
    have n0 : (s.getD p 0).toNat = at_ s p := rfl
    by_cases hm : (D6.more (at_ s p) == 0) = true
    · rw [if_pos hm] at h; cases h
    · rw [if_neg hm] at h
      have hcase : (194 ≤ at_ s p ∧ at_ s p < 224 ∧ D6.more (at_ s p) = 1) ∨ (224 ≤ at_ s p ∧ at_ s p < 240 ∧ D6.more (at_ s p) = 2) ∨ (240 ≤ at_ s p ∧ at_ s p < 245 ∧ D6.more (at_ s p) = 3) := by
        have hs : ∀ x y, (decide (x ≤ at_ s p) && decide (at_ s p < y)) = true ↔ (x ≤ at_ s p ∧ at_ s p < y) := fun x y => by simp
        by_cases x1 : 194 ≤ at_ s p ∧ at_ s p < 224
        · exact .inl ⟨x1.1, x1.2, by unfold D6.more; rw [if_pos ((hs _ _).2 x1)]⟩
        · by_cases x2 : 224 ≤ at_ s p ∧ at_ s p < 240
          · exact .inr (.inl ⟨x2.1, x2.2, by unfold D6.more; rw [if_neg (fun e => x1 ((hs _ _).1 e)), if_pos ((hs _ _).2 x2)]⟩)
          · by_cases x3 : 240 ≤ at_ s p ∧ at_ s p < 245
            · exact .inr (.inr ⟨x3.1, x3.2, by unfold D6.more; rw [if_neg (fun e => x1 ((hs _ _).1 e)), if_neg (fun e => x2 ((hs _ _).1 e)), if_pos ((hs _ _).2 x3)]⟩)
            · exfalso
              apply hm
              unfold D6.more
              rw [if_neg (fun e => x1 ((hs _ _).1 e)), if_neg (fun e => x2 ((hs _ _).1 e)), if_neg (fun e => x3 ((hs _ _).1 e))]
              rfl
      rcases hcase with ⟨g1, g2, g3⟩ | ⟨g1, g2, g3⟩ | ⟨g1, g2, g3⟩
      · rw [g3] at h
        obtain ⟨k1, k2, k3, k4⟩ := signN_ok h
        cases k4
        have e1 : (s.take (p + 1 + 1)).drop p = [s.getD p 0, s.getD (p + 1) 0] := by rw [J6.part_snoc (by omega) k1, e0]; rfl
        have n1 : (s.getD (p + 1) 0).toNat = at_ s (p + 1) := rfl
        have l1 : D6.least (at_ s p) = 128 := by unfold D6.least; rw [if_neg (by simp; omega), if_neg (by simp; omega)]
        have m1 : D6.most (at_ s p) = 191 := by unfold D6.most; rw [if_neg (by simp; omega), if_neg (by simp; omega)]
        rw [l1] at k2
        rw [m1] at k3
        refine ⟨?_, by omega, by omega⟩
        rw [e1]
        refine valid_sign (by simp) ?_
        rw [Utf.utfW_eq _ (by simp)]
        simp only [List.getD_cons_zero, List.getD_cons_succ, List.length_cons, List.length_nil]
        rw [n0, n1]
        unfold utfE
        rw [if_neg (by omega), if_pos (by omega), if_neg (by omega), if_neg (by omega), if_neg (by omega)]
      · rw [g3] at h
        obtain ⟨k1, k2, k3, k4⟩ := signN_ok h
        obtain ⟨j1, j2, j3, j4⟩ := signN_ok k4
        cases j4
        have e1 : (s.take (p + 1 + 1 + 1)).drop p = [s.getD p 0, s.getD (p + 1) 0, s.getD (p + 1 + 1) 0] := by rw [J6.part_snoc (by omega) j1, J6.part_snoc (by omega) k1, e0]; rfl
        have n1 : (s.getD (p + 1) 0).toNat = at_ s (p + 1) := rfl
        have n2 : (s.getD (p + 1 + 1) 0).toNat = at_ s (p + 1 + 1) := rfl
        have l1 : (at_ s p = 224 → 160 ≤ at_ s (p + 1)) ∧ 128 ≤ at_ s (p + 1) := by
          unfold D6.least at k2
          simp only [beq_iff_eq] at k2
          repeat' split at k2
          all_goals omega
        have m1 : (at_ s p = 237 → at_ s (p + 1) ≤ 159) ∧ at_ s (p + 1) ≤ 191 := by
          unfold D6.most at k3
          simp only [beq_iff_eq] at k3
          repeat' split at k3
          all_goals omega
        refine ⟨?_, by omega, by omega⟩
        rw [e1]
        refine valid_sign (by simp) ?_
        rw [Utf.utfW_eq _ (by simp)]
        simp only [List.getD_cons_zero, List.getD_cons_succ, List.length_cons, List.length_nil]
        rw [n0, n1, n2]
        unfold utfE
        rw [if_neg (by omega), if_neg (by omega), if_pos (by omega), if_neg (by omega), if_neg (by omega), if_neg (by omega), if_neg (by omega)]
      · rw [g3] at h
        obtain ⟨k1, k2, k3, k4⟩ := signN_ok h
        obtain ⟨j1, j2, j3, j4⟩ := signN_ok k4
        obtain ⟨i1, i2, i3, i4⟩ := signN_ok j4
        cases i4
        have e1 : (s.take (p + 1 + 1 + 1 + 1)).drop p = [s.getD p 0, s.getD (p + 1) 0, s.getD (p + 1 + 1) 0, s.getD (p + 1 + 1 + 1) 0] := by rw [J6.part_snoc (by omega) i1, J6.part_snoc (by omega) j1, J6.part_snoc (by omega) k1, e0]; rfl
        have n1 : (s.getD (p + 1) 0).toNat = at_ s (p + 1) := rfl
        have n2 : (s.getD (p + 1 + 1) 0).toNat = at_ s (p + 1 + 1) := rfl
        have n3 : (s.getD (p + 1 + 1 + 1) 0).toNat = at_ s (p + 1 + 1 + 1) := rfl
        have l1 : (at_ s p = 240 → 144 ≤ at_ s (p + 1)) ∧ 128 ≤ at_ s (p + 1) := by
          unfold D6.least at k2
          simp only [beq_iff_eq] at k2
          repeat' split at k2
          all_goals omega
        have m1 : (at_ s p = 244 → at_ s (p + 1) ≤ 143) ∧ at_ s (p + 1) ≤ 191 := by
          unfold D6.most at k3
          simp only [beq_iff_eq] at k3
          repeat' split at k3
          all_goals omega
        refine ⟨?_, by omega, by omega⟩
        rw [e1]
        refine valid_sign (by simp) ?_
        rw [Utf.utfW_eq _ (by simp)]
        simp only [List.getD_cons_zero, List.getD_cons_succ, List.length_cons, List.length_nil]
        rw [n0, n1, n2, n3]
        unfold utfE
        rw [if_neg (by omega), if_neg (by omega), if_neg (by omega), if_pos (by omega), if_neg (by omega), if_neg (by omega), if_neg (by omega), if_neg (by omega), if_neg (by omega)]
theorem textN_valid : ∀ (m p q : Nat) (out l : Bytes), D6.textN s lim m p out = .ok (l, q) → ∃ b, l = out ++ b ∧ Lib.validD b = true ∧ b.length + p + 1 ≤ q
  | 0, _, _, _, _, h => by cases h
  | m + 1, p, q, out, l, h => by
    rw [D6.textN] at h
    cases hw : D6.want s lim p with
    | error e => rw [hw] at h; cases h
    | ok c =>
      rw [hw] at h
      simp only at h
      obtain ⟨hp, _, rfl⟩ := want_ok hw
      by_cases c1 : (at_ s p == 34) = true
      · rw [if_pos c1] at h
        cases h
        exact ⟨[], by simp, rfl, by simp⟩
      · rw [if_neg c1] at h
        by_cases c2 : at_ s p < 32
        · rw [if_pos c2] at h; cases h
        · rw [if_neg c2] at h
          by_cases c3 : (at_ s p == 92) = true
          · rw [if_pos c3] at h
            cases he : D6.escape s lim (p + 1) with
            | error e => rw [he] at h; cases h
            | ok bq =>
              obtain ⟨b1, q1⟩ := bq
              rw [he] at h
              obtain ⟨v1, v2⟩ := escape_valid he
              obtain ⟨b, rfl, v3, v4⟩ := textN_valid m q1 q _ l h
              exact ⟨b1 ++ b, by simp, valid_join v1 v3, by rw [List.length_append]; omega⟩
          · rw [if_neg c3] at h
            by_cases c4 : 128 ≤ at_ s p
            · rw [if_pos c4] at h
              cases he : D6.sign s lim p with
              | error e => rw [he] at h; cases h
              | ok q1 =>
                rw [he] at h
                obtain ⟨v1, v2, v2'⟩ := sign_valid he
                obtain ⟨b, rfl, v3, v4⟩ := textN_valid m q1 q _ l h
                exact ⟨(s.take q1).drop p ++ b, by simp, valid_join v1 v3, by rw [List.length_append, List.length_drop, List.length_take]; omega⟩
            · rw [if_neg c4] at h
              obtain ⟨b, rfl, v3, v4⟩ := textN_valid m (p + 1) q _ l h
              have v1 : Lib.validD [s.getD p 0] = true := byte_valid (by show at_ s p < 128; omega)
              exact ⟨[s.getD p 0] ++ b, by simp, valid_join v1 v3, by rw [List.length_append]; simp only [List.length_singleton]; omega⟩
theorem text_valid {p q : Nat} {b : Bytes} (h : D6.text s lim p = .ok (b, q)) : Lib.validD b = true ∧ b.length + p + 2 ≤ q := by
  unfold D6.text at h
  obtain ⟨b', h1, h2, h3⟩ := textN_valid _ _ _ _ _ h
  rw [List.nil_append] at h1
  subst h1
  exact ⟨h2, by omega⟩
end Go.Px.E6

/-! What is read is right: the leaves (plain law, towards JsonNormal). No program is named here. -/
namespace Go.Px.E6
open R6 (at_ numN numNext numEnd)
variable {s : Bytes} {lim : Lim}
theorem numN_take : ∀ (l : Bytes) (q n : Nat), numN q l = (n, true) → whole q (l.take n) = true ∧ n ≤ l.length
  | [], q, n, h => by
    rw [numN] at h
    simp only [Prod.mk.injEq] at h
    obtain ⟨rfl, h2⟩ := h
    exact ⟨by rw [List.take_nil, whole_nil]; exact h2, Nat.le_refl _⟩
  | c :: l, q, n, h => by
    rw [numN] at h
    cases hn : numNext q c.toNat with
    | none =>
      rw [hn] at h
      simp only [Prod.mk.injEq] at h
      obtain ⟨rfl, h2⟩ := h
      exact ⟨by rw [List.take_zero, whole_nil]; exact h2, Nat.zero_le _⟩
    | some k =>
      rw [hn] at h
      simp only [Prod.mk.injEq] at h
      obtain ⟨h1, h2⟩ := h
      have ih := numN_take l k (numN k l).1 (by rw [← h2])
      subst h1
      rw [List.take_succ_cons, whole_cons, hn, List.length_cons]
      exact ⟨ih.1, by omega⟩
theorem toldC_six (c : UInt8) : (toldC c).length ≤ 6 := by
  unfold toldC
  repeat' split
  all_goals simp
theorem told_six (b : Bytes) : (told b).length ≤ 6 * b.length + 2 := by
  have h : (b.flatMap toldC).length ≤ 6 * b.length := by
    induction b with
    | nil => simp
    | cons c r ih =>
      have := toldC_six c
      rw [List.flatMap_cons, List.length_append, List.length_cons]
      omega
  unfold told
  rw [List.length_append, List.length_cons, List.length_singleton]
  omega
/-- A number that is read. -/
theorem num_right {p e n : Nat} (h : R6.number ((s.take e).drop p) = (n, true)) (hpe : p ≤ e) (hes : e ≤ s.length) :
    numeral ((s.take (p + n)).drop p) = true ∧ ((s.take (p + n)).drop p).length = n := by
  have k := numN_take _ _ _ h
  have hl : ((s.take e).drop p).length = e - p := by rw [List.length_drop, List.length_take, Nat.min_eq_left hes]
  rw [hl] at k
  have e2 : ((s.take e).drop p).take n = (s.take (p + n)).drop p := by
    rw [List.drop_take, List.drop_take, List.take_take, Nat.add_sub_cancel_left, Nat.min_eq_left (by omega)]
  rw [e2] at k
  refine ⟨?_, by rw [List.length_drop, List.length_take]; omega⟩
  rw [numeral_whole]
  exact k.1
end Go.Px.E6
