/-
  Several texts in one: The program's Encode of package json as plain functions on plain data. No program is named here. The walks over json.run and json.told: how many digits stand first; a string as it is told. The walks over strings.CutPrefix (of a minus) and json.numeral. utf8.ValidString at this program: the guide's contract, laid in plain words; what the two tables of package utf8 must hold. The walk over json.right: may a value be, but for its Kids. The walk over json.told: a string as it is told.
-/
import Derived.Test.YtahojodgmjmpnaaDoorR6M
import Derived.Test.YtahojodgmjmpnaaDoorZiJ
import Derived.Shelf.Unicode.ValidAny
import Derived.Lib.LaidU8T
import Derived.Test.YtahojodgmjmpnaaDoorProg
import Derived.Test.YtahojodgmjmpnaaDoorHeap
/-! The program's Encode of package json as plain functions on plain data. No program is named here. -/
namespace Go.Px.E6
open R6 (digit)
/-- How many digits stand at the beginning. -/
def run : Bytes → Nat
  | [] => 0
  | c :: r => if digit c.toNat then run r + 1 else 0
/-- Digits alone, one at least. -/
def all (t : Bytes) : Bool := decide (0 < run t) && run t == t.length
def unsign (s : Bytes) : Bytes := match s with
  | c :: r => if c.toNat == 43 || c.toNat == 45 then r else c :: r
  | [] => []
/-- Behind an e: a sign perhaps, and digits alone. -/
def expo (s : Bytes) : Bool := all (unsign s)
def tail (s : Bytes) : Bool := match s with
  | [] => true
  | c :: r => if c.toNat == 101 || c.toNat == 69 then expo r else false
def frac (s : Bytes) : Bool := match s with
  | [] => true
  | c :: r => if c.toNat == 46 then (if run r == 0 then false else tail (r.drop (run r))) else tail (c :: r)
def unsigned (s : Bytes) : Bytes := match s with
  | [] => []
  | c :: r => if c.toNat == 45 then r else c :: r
def unum (t : Bytes) : Bool := if run t == 0 || (decide (1 < run t) && R6.at_ t 0 == 48) then false else frac (t.drop (run t))
/-- Whether a text is a number's. -/
def numeral (s : Bytes) : Bool := unum (unsigned s)
def right (v : Val) : Bool :=
  if v.kind == 0 || v.kind == 1 || v.kind == 2 then v.kids == 0 && v.text == []
  else if v.kind == 3 then v.kids == 0 && numeral v.text
  else if v.kind == 4 then v.kids == 0 && Lib.validD v.text
  else if v.kind == 5 then decide (0 ≤ v.kids) && v.text == []
  else if v.kind == 6 then decide (0 ≤ v.kids) && v.kids.tmod 2 == 0 && v.text == []
  else false
/-- An object or array that is told. -/
structure Op where
  kind : Int
  all : Int
  told : Nat
  names : List Bytes
/-- Those that have all are ended. -/
def close : List Op → List Op
  | [] => []
  | o :: r => if (o.told : Int) = o.all then close r else o :: r
/-- A value is told in the innermost one; none: it may not be. -/
def enter (v : Val) : List Op → Option (List Op)
  | [] => some []
  | o :: r =>
    if o.kind == 6 && o.told % 2 == 0 then
      (if v.kind != 4 || o.names.contains v.text then none else some ({ o with names := o.names ++ [v.text], told := o.told + 1 } :: r))
    else some ({ o with told := o.told + 1 } :: r)
def begun (v : Val) (st : List Op) : List Op := if decide (5 ≤ v.kind) then ⟨v.kind, v.kids, 0, []⟩ :: st else st
def shapeN : List Val → Bool → List Op → Nat → Nat × Bool
  | [], first, st, most => (most, !first && st.isEmpty)
  | v :: r, first, st, most =>
    if (!first && st.isEmpty) || !right v then (0, false)
    else match enter v st with
      | none => (0, false)
      | some st => shapeN r false (close (begun v st)) (max most (begun v st).length)
/-- Whether a list is one right value, and how many stand within one another. -/
def shape (l : List Val) : Nat × Bool := shapeN l true [] 0
def hexd (k : Nat) : UInt8 := if k < 10 then UInt8.ofNat (48 + k) else UInt8.ofNat (87 + k)
def toldC (c : UInt8) : Bytes :=
  if c.toNat == 34 || c.toNat == 92 then [92, c]
  else if c.toNat < 32 then [92, 117, 48, 48, hexd (c.toNat / 16), hexd (c.toNat % 16)]
  else [c]
/-- A string's text, as it is told. -/
def told (s : Bytes) : Bytes := 34 :: s.flatMap toldC ++ [34]
/-- What stands ahead of a value. -/
def ahead (st : List Op) : Bytes := match st with
  | [] => []
  | o :: _ => if o.kind == 6 && o.told % 2 == 1 then [58] else if 0 < o.told then [44] else []
def more (st : List Op) : List Op := match st with
  | [] => []
  | o :: r => { o with told := o.told + 1 } :: r
/-- The value itself, or its beginning. -/
def body (v : Val) : Bytes :=
  if v.kind == 0 then [110, 117, 108, 108]
  else if v.kind == 1 then [102, 97, 108, 115, 101]
  else if v.kind == 2 then [116, 114, 117, 101]
  else if v.kind == 3 then v.text
  else if v.kind == 4 then told v.text
  else if v.kind == 5 then [91]
  else [123]
/-- What ends those that have all. -/
def ends : List Op → Bytes
  | [] => []
  | o :: r => if (o.told : Int) = o.all then (if o.kind == 5 then 93 else 125) :: ends r else []
def push (v : Val) (st : List Op) : List Op := if decide (0 ≤ v.kind) && decide (v.kind ≤ 4) then st else ⟨v.kind, v.kids, 0, []⟩ :: st
def encN : List Val → List Op → Bytes → Option Bytes
  | [], _, out => if 262144 < out.length then none else some out
  | v :: r, st, out =>
    if 262144 < out.length ∨ 262144 < v.text.length then none
    else encN r (close (push v (more st))) (out ++ ahead st ++ body v ++ ends (push v (more st)))
/-- Encode: the text, and the error. -/
def encode (l : List Val) : Bytes × Int :=
  if 4096 < l.length then ([], 10)
  else match shape l with
    | (most, ok) => if !ok then ([], 9)
      else if 32 < most then ([], 10)
      else match encN l [] [] with
        | none => ([], 10)
        | some s => (s, 0)
end Go.Px.E6

/-! The walks over json.run and json.told: how many digits stand first; a string as it is told. -/
namespace Go.Proofs.YtahojodgmjmpnaaDoor
open Go.RowKit Go.Px

theorem run_at {s : Bytes} {k : Nat} (hk : k < s.length) : E6.run (s.drop k) = if R6.digit (R6.at_ s k) then E6.run (s.drop (k + 1)) + 1 else 0 := by
  rw [List.drop_eq_getElem_cons hk]
  have : s[k].toNat = R6.at_ s k := by unfold R6.at_; simp [hk]
  rw [← this]
  rfl
theorem digit_yes {c : Nat} (h1 : 48 ≤ c) (h2 : c ≤ 57) : R6.digit c = true := by unfold R6.digit; simp; omega
theorem digit_no {c : Nat} (h : c < 48 ∨ 57 < c) : R6.digit c = false := by unfold R6.digit; simp; omega
set_option maxRecDepth 100000 in
set_option maxHeartbeats 4000000 in
theorem erun_any (s : Bytes) (hs : s.length ≤ 140737488355327) (w : World) : Calls Tryd.prog 70 #[S s] w fun r w' => r = .returned (.int .i64 (E6.run s : Nat)) ∧ w = w' := by
  obtain ⟨R, hR⟩ : ∃ R, R = E6.run s := ⟨_, rfl⟩
  rw [← hR]
  have H := Px.hid hR
  have hsz : (ByteArray.mk s.toArray).size = s.length := size_S s
  clear hR
  go_enter Tryd.func70, Tryd.ntmps70
  go_wp2
  go_loopw [3] (fun n wr => ∃ k, n = .int .i64 (k : Nat) ∧ k ≤ s.length ∧ w = wr ∧ k + E6.run (s.drop k) = R) (fun n _ => s.length - (intOf n).toNat)
  case atStart => exact ⟨0, rfl, Nat.zero_le _, rfl, by rw [H.out]; simp⟩
  case round =>
    obtain ⟨k, rfl, hk, rfl, hps⟩ := hrel
    by_cases hlt : k < s.length
    · have hltz : (k : Int) < (s.length : Int) := by omega
      have hix := idx6 s k hlt
      have hwk := wrap1 k (by omega)
      have hst := run_at hlt
      obtain ⟨c, hcc⟩ : ∃ c, R6.at_ s k = c := ⟨_, rfl⟩
      simp only [hcc] at hix hst
      have HLT := Px.hid (And.intro hlt (And.intro hps hst))
      clear hcc hps hlt hst H
      have hcs : (48 ≤ c ∧ c ≤ 57) ∨ c < 48 ∨ 57 < c := by omega
      rcases hcs with ⟨h1, h2⟩ | h1 | h1
      · have z1 : (48 : Int) ≤ c := by omega
        have z2 : (c : Int) ≤ 57 := by omega
        have HD := Px.hid (digit_yes h1 h2)
        clear h1 h2
        go_wp2
        go_roundw
        case rel => exact ⟨k + 1, by go_num, HLT.out.1, (by first | trivial | rfl), by have := HLT.out.2.2; rw [HD.out, if_pos rfl] at this; have := HLT.out.2.1; omega⟩
        case measure => have := HLT.out.1; simp [intOf]; omega
      · have z1 : ¬ (48 : Int) ≤ c := by omega
        have HD := Px.hid (digit_no (.inl h1))
        clear h1
        go_wp2
        go_ret
        have := HLT.out.2.2
        rw [HD.out, if_neg (by decide)] at this
        have := HLT.out.2.1
        exact ⟨by rw [show R = k by omega]; rfl, rfl⟩
      · have z1 : (48 : Int) ≤ c := by omega
        have z2 : ¬ (c : Int) ≤ 57 := by omega
        have HD := Px.hid (digit_no (.inr h1))
        clear h1
        go_wp2
        go_ret
        have := HLT.out.2.2
        rw [HD.out, if_neg (by decide)] at this
        have := HLT.out.2.1
        exact ⟨by rw [show R = k by omega]; rfl, rfl⟩
    · have hltz : ¬ (k : Int) < (s.length : Int) := by omega
      have HE := Px.hid (show R = k by
        have : k = s.length := by omega
        rw [this, List.drop_length] at hps
        have : E6.run [] = 0 := rfl
        omega)
      clear hps
      go_wp2
      go_ret
      rw [HE.out]
      exact ⟨rfl, rfl⟩
/-- Bytes of the call's own. -/
structure Mine (w wr : World) (v : Value) (l : Bytes) : Prop where
  own : Owns wr 5 1 cByte v l
  same : Same w wr
  new : ∀ g, v.ownBlock = some g → w.heap.size ≤ g
theorem Mine.app {w wr w1 : World} {v : Value} {l t : Bytes} {news : List Value} {gg cap m L : Nat} {RL : List Value} (h : Mine w wr v l) (hL : l.length = L) (hRL : l.flatMap cByte = RL) (hn : news = t.flatMap cByte) (hm : m = t.length)
    (hown : w1.ownsRow 0 5 1 (.slice (some ⟨gg, 0, none⟩) (L + m) cap) (L + m) (RL ++ news)) (hg : wr.grownBy w1 v.ownBlock) (hat : v.ownBlock = some gg ∨ wr.heap.size ≤ gg) :
    Mine w w1 (.slice (some ⟨gg, 0, none⟩) (L + m) cap) (l ++ t) := by
  subst hL
  subst hRL
  subst hn
  subst hm
  refine ⟨?_, Fr.grown h.same hg (fun k e => .inr (h.new k e)), fun g hg' => ?_⟩
  · unfold Owns
    rw [List.length_append, List.flatMap_append]
    exact hown
  · simp only [Value.ownBlock, Option.some.injEq] at hg'
    subst hg'
    rcases hat with e | e
    · exact h.new _ e
    · exact Nat.le_trans h.same.size e
theorem Mine.sm {w wr w2 : World} {v : Value} {l : Bytes} (h : Mine w wr v l) (hs : Same wr w2) : Mine w w2 v l := ⟨Owns.same h.own hs, h.same.trans hs, h.new⟩
theorem Mine.len {w wr : World} {v : Value} {l : Bytes} (h : Mine w wr v l) : ∃ a cap, v = .slice a l.length cap := by
  obtain ⟨a, cap, hv, _⟩ := h.own.len
  exact ⟨a, cap, hv⟩
theorem mine_new (w : World) (c : Nat) (hc : c < 256) : Mine w (w.alloc (.cells #[.int .u8 (c : Int)] 5 (0, 0))) (.slice (some ⟨w.heap.size, 0, none⟩) 1 1) [UInt8.ofNat c] := by
  have e : (UInt8.ofNat c).toNat = c := by simp; omega
  refine ⟨⟨rfl, .inr ⟨w.heap.size, 1, #[.int .u8 (c : Int)], rfl, Nat.zero_le _, heap_alloc_new w _, Nat.le_refl _, by unfold maxLen; omega, rfl, ?_⟩⟩, (Same.refl w).alloc _, fun g hg => ?_⟩
  · simp [cByte, e]
  · simp only [Value.ownBlock, Option.some.injEq] at hg
    omega
end Go.Proofs.YtahojodgmjmpnaaDoor

/-! The walks over strings.CutPrefix (of a minus) and json.numeral. -/
namespace Go.Proofs.YtahojodgmjmpnaaDoor
open Go.RowKit Go.Px

theorem eqlE_S (l : List UInt8) (w : World) : (binOp .eql 9 (S l) (.string { data := #[] })).run Tryd.prog w = .ok (.bool l.isEmpty) w := by
  unfold binOp
  cases l with
  | nil => simp [Op.stringOp]
  | cons x r => simp [Op.stringOp]
theorem neqE_S (l : List UInt8) (w : World) : (binOp .neq 9 (S l) (.string { data := #[] })).run Tryd.prog w = .ok (.bool (!l.isEmpty)) w := by
  unfold binOp
  cases l with
  | nil => simp [Op.stringOp]
  | cons x r => simp [Op.stringOp]
theorem minus_eq (c : UInt8) : (c == 45) = (c.toNat == 45) := by
  by_cases h : c = 45
  · subst h; rfl
  · rw [show (c == 45) = false by simpa using h, eq_comm, beq_eq_false_iff_ne]
    exact fun e => h (UInt8.toNat_inj.1 (by rw [e]; rfl))
set_option maxRecDepth 100000 in
set_option maxHeartbeats 4000000 in
theorem hasMinus (s : Bytes) (hs : s.length ≤ 140737488355327) (w : World) : Calls Tryd.prog 80 #[S s, .string { data := #[45] }] w fun r w' => r = .returned (.bool (!s.isEmpty && R6.at_ s 0 == 45)) ∧ w = w' := by
  have hsz : (ByteArray.mk s.toArray).size = s.length := size_S s
  cases s with
  | nil =>
    go_enter Tryd.func80, Tryd.ntmps80
    go_wp2
    go_ret
    exact ⟨rfl, rfl⟩
  | cons c r =>
    have hto : ∀ w, (Instr.slice 9 (S (c :: r)) none (some (.int .i64 1)) none).run Tryd.prog w = .ok (S ((c :: r).take 1)) w := fun w => to_S (c :: r) 1 (by simp) w
    have HC := Px.hid (minus_eq c)
    have hl : (1 : Int) ≤ ((c :: r).length : Int) := by simp; omega
    obtain ⟨l, hle⟩ : ∃ l, l = c :: r := ⟨_, rfl⟩
    have hc : R6.at_ (c :: r) 0 = c.toNat := rfl
    have ht : (c :: r).take 1 = [c] := rfl
    rw [hc]
    rw [ht] at hto
    rw [← hle] at hto hl hsz ⊢
    have HE := Px.hid (show l.isEmpty = false by rw [hle]; rfl)
    clear hle hc ht
    go_enter Tryd.func80, Tryd.ntmps80
    go_wp2
    go_ret
    rw [HE.out, ← HC.out]
    exact ⟨rfl, rfl⟩
theorem unsigned_yes {s : Bytes} (h : (!s.isEmpty && R6.at_ s 0 == 45) = true) : E6.unsigned s = s.drop 1 ∧ 1 ≤ s.length := by
  cases s with
  | nil => cases h
  | cons c r =>
    have h' : (c.toNat == 45) = true := h
    refine ⟨?_, by simp⟩
    show (if (c.toNat == 45) = true then r else c :: r) = r
    rw [if_pos h']
theorem unsigned_no {s : Bytes} (h : (!s.isEmpty && R6.at_ s 0 == 45) = false) : E6.unsigned s = s := by
  cases s with
  | nil => rfl
  | cons c r =>
    have h' : (c.toNat == 45) = false := h
    show (if (c.toNat == 45) = true then r else c :: r) = c :: r
    rw [if_neg (by rw [h']; decide)]
set_option maxRecDepth 100000 in
set_option maxHeartbeats 4000000 in
theorem cutMinus1 (s : Bytes) (hs : s.length ≤ 140737488355327) (w : World) : Calls Tryd.prog 77 #[S s, .string { data := #[45] }] w fun r w' => (∃ b, r = .returned (.tuple #[S (E6.unsigned s), .bool b])) ∧ w = w' := by
  have HP := Px.hid (fun w => hasMinus s hs w)
  obtain ⟨q, hq⟩ : ∃ q, (!s.isEmpty && R6.at_ s 0 == 45) = q := ⟨_, rfl⟩
  simp only [hq] at HP
  cases q with
  | true =>
    obtain ⟨hu, hl⟩ := unsigned_yes hq
    have hsl : ∀ w, (Instr.slice 9 (S s) (some (.int .i64 1)) none none).run Tryd.prog w = .ok (S (E6.unsigned s)) w := fun w => by rw [hu]; exact from_S s 1 hl w
    clear hu hl hq
    go_enter Tryd.func77, Tryd.ntmps77
    go_wp2_with fail
    refine (HP.out _).mono ?_
    rintro e w2 ⟨rfl, rfl⟩
    go_wp2
    go_ret2
    exact ⟨⟨_, rfl⟩, rfl⟩
  | false =>
    have HU := Px.hid (unsigned_no hq)
    clear hq
    go_enter Tryd.func77, Tryd.ntmps77
    go_wp2_with fail
    refine (HP.out _).mono ?_
    rintro e w2 ⟨rfl, rfl⟩
    go_wp2
    go_ret2
    rw [HU.out]
    exact ⟨⟨_, rfl⟩, rfl⟩
set_option maxRecDepth 100000 in
set_option maxHeartbeats 4000000 in
theorem cutMinus (s : Bytes) (hs : s.length ≤ 140737488355327) (w : World) : Calls Tryd.prog 69 #[S s, .string { data := #[45] }] w fun r w' => (∃ b, r = .returned (.tuple #[S (E6.unsigned s), .bool b])) ∧ w = w' := by
  have HP := Px.hid (fun w => cutMinus1 s hs w)
  go_enter Tryd.func69, Tryd.ntmps69
  go_wp2_with fail
  refine (HP.out _).mono ?_
  rintro e w2 ⟨⟨b, rfl⟩, rfl⟩
  go_wp2
  go_ret2
  exact ⟨⟨_, rfl⟩, rfl⟩

/-! numeral -/
theorem isEmpty_of {l : Bytes} (h : 0 < l.length) : l.isEmpty = false := by cases l with | nil => cases h | cons a t => rfl
theorem run_le (l : Bytes) : E6.run l ≤ l.length := by
  induction l with
  | nil => exact Nat.le_refl _
  | cons c r ih =>
    unfold E6.run
    split
    · simp; omega
    · exact Nat.zero_le _
theorem frac_dot {l : Bytes} (h0 : 0 < l.length) (h : R6.at_ l 0 = 46) : E6.frac l = if E6.run (l.drop 1) == 0 then false else E6.tail ((l.drop 1).drop (E6.run (l.drop 1))) := by
  cases l with
  | nil => cases h0
  | cons c r =>
    have h' : c.toNat = 46 := h
    unfold E6.frac
    simp [h']
theorem frac_not {l : Bytes} (h : l.length = 0 ∨ R6.at_ l 0 ≠ 46) : E6.frac l = E6.tail l := by
  cases l with
  | nil => rfl
  | cons c r =>
    have h' : c.toNat ≠ 46 := by rcases h with h | h; simp at h; exact h
    unfold E6.frac
    simp [h']
theorem tail_e {l : Bytes} (h0 : 0 < l.length) (h : R6.at_ l 0 = 101 ∨ R6.at_ l 0 = 69) : E6.tail l = E6.all (E6.unsign (l.drop 1)) := by
  cases l with
  | nil => cases h0
  | cons c r =>
    have h' : c.toNat = 101 ∨ c.toNat = 69 := h
    unfold E6.tail
    simp [h']
    rfl
theorem tail_not {l : Bytes} (h0 : 0 < l.length) (h : R6.at_ l 0 ≠ 101) (h2 : R6.at_ l 0 ≠ 69) : E6.tail l = false := by
  cases l with
  | nil => cases h0
  | cons c r =>
    have h' : c.toNat ≠ 101 := h
    have h2' : c.toNat ≠ 69 := h2
    unfold E6.tail
    simp [h', h2']
theorem unsign_yes {l : Bytes} (h0 : 0 < l.length) (h : R6.at_ l 0 = 43 ∨ R6.at_ l 0 = 45) : E6.unsign l = l.drop 1 := by
  cases l with
  | nil => cases h0
  | cons c r =>
    have h' : c.toNat = 43 ∨ c.toNat = 45 := h
    unfold E6.unsign
    simp [h']
theorem unsign_not {l : Bytes} (h : l.length = 0 ∨ (R6.at_ l 0 ≠ 43 ∧ R6.at_ l 0 ≠ 45)) : E6.unsign l = l := by
  cases l with
  | nil => rfl
  | cons c r =>
    have h' : c.toNat ≠ 43 ∧ c.toNat ≠ 45 := by rcases h with h | h; simp at h; exact h
    unfold E6.unsign
    simp [h'.1, h'.2]
set_option maxRecDepth 100000 in
set_option maxHeartbeats 8000000 in
theorem numeral_any (s : Bytes) (hs : s.length ≤ 140737488355327) (w : World) : Calls Tryd.prog 57 #[S s] w fun r w' => r = .returned (.bool (E6.numeral s)) ∧ w = w' := by
  have HC := Px.hid (fun w => cutMinus s hs w)
  obtain ⟨t, ht⟩ : ∃ t, E6.unsigned s = t := ⟨_, rfl⟩
  have htl : t.length ≤ 140737488355327 := by
    rw [← ht]
    unfold E6.unsigned
    cases s with
    | nil => simp
    | cons c r =>
      simp only [List.length_cons] at hs
      by_cases hc : (c.toNat == 45) = true
      · show List.length (if (c.toNat == 45) = true then r else c :: r) ≤ _
        rw [if_pos hc]; omega
      · show List.length (if (c.toNat == 45) = true then r else c :: r) ≤ _
        rw [if_neg hc, List.length_cons]; omega
  have hnum : E6.numeral s = E6.unum t := by rw [← ht]; rfl
  rw [hnum]
  simp only [ht] at HC
  clear ht hnum
  obtain ⟨n, hn⟩ : ∃ n, E6.run t = n := ⟨_, rfl⟩
  have HR := Px.hid (fun w => erun_any t htl w)
  simp only [hn] at HR
  have hnl : n ≤ t.length := by rw [← hn]; exact run_le t
  have HU := Px.hid (show E6.unum t = if n == 0 || (decide (1 < n) && R6.at_ t 0 == 48) then false else E6.frac (t.drop n) by unfold E6.unum; rw [hn])
  have htz : (ByteArray.mk t.toArray).size = t.length := size_S t
  by_cases h0 : n = 0
  · subst h0
    have HV := Px.hid (show E6.unum t = false from HU.out)
    clear hn
    go_enter Tryd.func57, Tryd.ntmps57
    go_wp2_with fail
    refine (HC.out _).mono ?_
    rintro e w2 ⟨⟨b, rfl⟩, rfl⟩
    go_wp2_with fail
    refine (HR.out _).mono ?_
    rintro e w2 ⟨rfl, rfl⟩
    go_wp2
    go_ret
    rw [HV.out]
    exact ⟨rfl, rfl⟩
  have z0 : ((n : Int) == 0) = false := by simpa using h0
  obtain ⟨c, hc⟩ : ∃ c, R6.at_ t 0 = c := ⟨_, rfl⟩
  have hix : ∀ w, (Instr.index 9 (S t) (.int .i64 0)).run Tryd.prog w = .ok (.int .u8 (c : Nat)) w := fun w => by rw [← hc]; exact idx6 t 0 (by omega) w
  rw [hc] at HU
  by_cases h1 : 1 < n ∧ c = 48
  · obtain ⟨h1, rfl⟩ := h1
    have z1 : (1 : Int) < n := by omega
    have HV := Px.hid (show E6.unum t = false by rw [HU.out, if_pos (by simp [h1])])
    clear hn h0 h1 hc
    go_enter Tryd.func57, Tryd.ntmps57
    go_wp2_with fail
    refine (HC.out _).mono ?_
    rintro e w2 ⟨⟨b, rfl⟩, rfl⟩
    go_wp2_with fail
    refine (HR.out _).mono ?_
    rintro e w2 ⟨rfl, rfl⟩
    go_wp2
    go_ret
    rw [HV.out]
    exact ⟨rfl, rfl⟩
  have HV := Px.hid (show E6.unum t = E6.frac (t.drop n) by rw [HU.out, if_neg (by simp only [Bool.or_eq_true, beq_iff_eq, Bool.and_eq_true, decide_eq_true_eq]; rintro (e | e); exact h0 e; exact h1 e)])
  have z1 : (¬ (1 : Int) < n) ∨ ((1 : Int) < n ∧ ((c : Int) == 48) = false) := by
    by_cases e : 1 < n
    · exact .inr ⟨by omega, by simp only [beq_eq_false_iff_ne, ne_eq]; intro e2; exact h1 ⟨e, by omega⟩⟩
    · exact .inl (by omega)
  obtain ⟨u, hu⟩ : ∃ u, t.drop n = u := ⟨_, rfl⟩
  have hsl : ∀ w, (Instr.slice 9 (S t) (some (.int .i64 (n : Int))) none none).run Tryd.prog w = .ok (S u) w := fun w => by rw [← hu]; exact from_S t n hnl w
  have hul : u.length ≤ 140737488355327 := by rw [← hu, List.length_drop]; omega
  rw [hu] at HV
  clear hu hn h0 h1 hc HU
  have huz : (ByteArray.mk u.toArray).size = u.length := size_S u
  have hue := neqE_S u
  go_enter Tryd.func57, Tryd.ntmps57
  go_wp2_with fail
  refine (HC.out _).mono ?_
  rintro e w2 ⟨⟨b, rfl⟩, rfl⟩
  go_wp2_with fail
  refine (HR.out _).mono ?_
  rintro e w2 ⟨rfl, rfl⟩
  go_upto_region 3 with fail
  go_cut [21] (fun t21 wx => t21 = .bool false ∧ w = wx)
  case first =>
    rcases z1 with z | ⟨z, z2⟩
    · go_wp2_with fail
      go_meet
      exact ⟨rfl, rfl⟩
    · go_wp2_with fail
      go_meet
      exact ⟨rfl, rfl⟩
  case rest =>
    obtain ⟨rfl, rfl⟩ := hcut
    go_upto_region 6 with fail
    clear hsl hix htz z0 z1 HR HC hnl
    obtain ⟨D, hD⟩ : ∃ D : Bool, D = decide (0 < u.length ∧ R6.at_ u 0 = 46) := ⟨_, rfl⟩
    have HD := Px.hid hD
    clear hD
    go_cut [31] (fun t31 wx => t31 = .bool D ∧ w = wx)
    case first =>
      by_cases hp : 0 < u.length
      · obtain ⟨c, hc⟩ : ∃ c, R6.at_ u 0 = c := ⟨_, rfl⟩
        have hix : ∀ w, (Instr.index 9 (S u) (.int .i64 0)).run Tryd.prog w = .ok (.int .u8 (c : Nat)) w := fun w => by rw [← hc]; exact idx6 u 0 hp w
        have hem := isEmpty_of hp
        have hcb : ((c : Int) == 46) = D := by rw [HD.out, hc]; by_cases e : c = 46; simp [e, hp]; simp [e]; omega
        clear hc hp HD
        go_wp2_with fail
        go_meet
        exact ⟨rfl, rfl⟩
      · have hem : u.isEmpty = true := by cases u with | nil => rfl | cons a b => simp at hp
        have hD0 : D = false := by rw [HD.out]; simp; omega
        subst hD0
        clear hp HD
        go_wp2_with fail
        go_meet
        exact ⟨rfl, rfl⟩
    case rest =>
     obtain ⟨rfl, rfl⟩ := hcut
     go_upto_if 31 with fail
     go_cut [0, 3] (fun v0 v3 wx => ∃ v : Bytes, v0 = S v ∧ v.length ≤ 140737488355327 ∧ w = wx ∧ Hid (E6.unum t = E6.tail v))
     case first =>
      cases D with
      | true =>
        obtain ⟨d0, d1⟩ : 0 < u.length ∧ R6.at_ u 0 = 46 := by have := HD.out; simpa using this.symm
        clear HD
        have hf := frac_dot d0 d1
        obtain ⟨v1, hv1⟩ : ∃ v1, u.drop 1 = v1 := ⟨_, rfl⟩
        have hs1 : ∀ w, (Instr.slice 9 (S u) (some (.int .i64 1)) none none).run Tryd.prog w = .ok (S v1) w := fun w => by rw [← hv1]; exact from_S u 1 d0 w
        have hv1l : v1.length ≤ 140737488355327 := by rw [← hv1, List.length_drop]; omega
        rw [hv1] at hf
        obtain ⟨m, hm⟩ : ∃ m, E6.run v1 = m := ⟨_, rfl⟩
        have HM := Px.hid (fun w => erun_any v1 hv1l w)
        simp only [hm] at HM hf
        have hml : m ≤ v1.length := by rw [← hm]; exact run_le v1
        have hu1 : u.length = v1.length + 1 := by rw [← hv1, List.length_drop]; omega
        by_cases h0 : m = 0
        · subst h0
          have HF := Px.hid (show E6.unum t = false from HV.out.trans (hf.trans (if_pos rfl)))
          clear hf hm hv1 d0 d1
          go_wp2_with fail
          refine (HM.out _).mono ?_
          rintro e w2 ⟨rfl, rfl⟩
          go_wp2
          go_ret
          rw [HF.out]
          exact ⟨rfl, rfl⟩
        · have z0 : ((m : Int) == 0) = false := by simpa using h0
          have HF := Px.hid (show E6.unum t = E6.tail (v1.drop m) from HV.out.trans (hf.trans (if_neg (by simpa using h0))))
          have hs2 : ∀ w, (Instr.slice 9 (S u) (some (.int .i64 (1 + (m : Int)))) none none).run Tryd.prog w = .ok (S (v1.drop m)) w := fun w => by
            have := from_S u (1 + m) (by omega) w
            rw [← hv1, List.drop_drop]
            push_cast at this
            exact this
          have HL := Px.hid (show (v1.drop m).length ≤ 140737488355327 by rw [List.length_drop]; omega)
          have hmb : m ≤ 140737488355327 := by omega
          clear hf hm hv1 d0 d1 h0
          go_wp2_with fail
          refine (HM.out _).mono ?_
          rintro e w2 ⟨rfl, rfl⟩
          go_wp2_with fail
          go_meet
          exact ⟨_, rfl, HL.out, rfl, HF⟩
      | false =>
        have HF := Px.hid (show E6.unum t = E6.tail u from HV.out.trans (frac_not (by
          have := HD.out
          by_cases e : 0 < u.length
          · refine .inr (fun e2 => ?_)
            simp [e, e2] at this
          · exact .inl (by omega))))
        clear HD
        go_wp2_with fail
        go_meet
        exact ⟨_, rfl, hul, rfl, HF⟩
     case rest =>
      obtain ⟨v, rfl, hvl, rfl, HT⟩ := hcut
      clear HV hue huz hul
      have hve := neqE_S v
      have hvq := eqlE_S v
      have hvz : (ByteArray.mk v.toArray).size = v.length := size_S v
      obtain ⟨E, hE⟩ : ∃ E : Bool, E = decide (0 < v.length ∧ (R6.at_ v 0 = 101 ∨ R6.at_ v 0 = 69)) := ⟨_, rfl⟩
      have HE := Px.hid hE
      clear hE
      go_upto_region 11 with fail
      go_cut [52] (fun t52 wx => t52 = .bool E ∧ w = wx)
      case first =>
       by_cases hp : 0 < v.length
       · obtain ⟨c, hc⟩ : ∃ c, R6.at_ v 0 = c := ⟨_, rfl⟩
         have hix : ∀ w, (Instr.index 9 (S v) (.int .i64 0)).run Tryd.prog w = .ok (.int .u8 (c : Nat)) w := fun w => by rw [← hc]; exact idx6 v 0 hp w
         have hem := isEmpty_of hp
         by_cases e1 : c = 101
         · have hD0 : E = true := by rw [HE.out, hc]; simp [e1, hp]
           subst hD0
           subst e1
           clear hc hp HE
           go_wp2_with fail
           go_meet
           exact ⟨rfl, rfl⟩
         · have z1 : ((c : Int) == 101) = false := by simp only [beq_eq_false_iff_ne, ne_eq]; omega
           have hD0 : ((c : Int) == 69) = E := by rw [HE.out, hc]; by_cases e2 : c = 69; simp [e2, hp]; simp [e1, e2]; omega
           clear hc hp HE e1
           go_wp2_with fail
           go_meet
           exact ⟨rfl, rfl⟩
       · have hem : v.isEmpty = true := by revert hp; cases v with | nil => intro _; rfl | cons a b => intro hp; simp at hp
         have hD0 : E = false := by rw [HE.out]; simp; omega
         subst hD0
         clear hp HE
         go_wp2_with fail
         go_meet
         exact ⟨rfl, rfl⟩
      case rest =>
       obtain ⟨rfl, rfl⟩ := hcut
       cases E with
       | false =>
        have hvx : v.isEmpty = true ∨ v.isEmpty = false := by cases v.isEmpty <;> simp
        rcases hvx with hem | hem
        · have HF := Px.hid (show E6.unum t = true from HT.out.trans (by cases v with | nil => rfl | cons a b => cases hem))
          go_wp2
          go_ret
          rw [HF.out]
          exact ⟨rfl, rfl⟩
        · have HF := Px.hid (show E6.unum t = false from HT.out.trans (by
            have hp : 0 < v.length := by cases v with | nil => cases hem | cons a b => simp
            have := HE.out
            refine tail_not hp (fun e => ?_) (fun e => ?_)
            · simp [hp, e] at this
            · simp [hp, e] at this))
          go_wp2
          go_ret
          rw [HF.out]
          exact ⟨rfl, rfl⟩
       | true =>
        obtain ⟨hp, he⟩ : 0 < v.length ∧ (R6.at_ v 0 = 101 ∨ R6.at_ v 0 = 69) := by have := HE.out; simpa using this.symm
        have hf := tail_e hp he
        obtain ⟨x, hx⟩ : ∃ x, v.drop 1 = x := ⟨_, rfl⟩
        have hs1 : ∀ w, (Instr.slice 9 (S v) (some (.int .i64 1)) none none).run Tryd.prog w = .ok (S x) w := fun w => by rw [← hx]; exact from_S v 1 hp w
        have hxl : x.length ≤ 140737488355327 := by rw [← hx, List.length_drop]; omega
        rw [hx] at hf
        have HF := Px.hid (show E6.unum t = E6.all (E6.unsign x) from HT.out.trans hf)
        have hxe := neqE_S x
        have hxz : (ByteArray.mk x.toArray).size = x.length := size_S x
        obtain ⟨G, hG⟩ : ∃ G : Bool, G = decide (0 < x.length ∧ (R6.at_ x 0 = 43 ∨ R6.at_ x 0 = 45)) := ⟨_, rfl⟩
        have HG := Px.hid hG
        clear hf hx he hp hG HE
        go_upto_region 13 with fail
        go_cut [66] (fun t66 wx => t66 = .bool G ∧ w = wx)
        case first =>
         by_cases hp : 0 < x.length
         · obtain ⟨c, hc⟩ : ∃ c, R6.at_ x 0 = c := ⟨_, rfl⟩
           have hix : ∀ w, (Instr.index 9 (S x) (.int .i64 0)).run Tryd.prog w = .ok (.int .u8 (c : Nat)) w := fun w => by rw [← hc]; exact idx6 x 0 hp w
           have hem := isEmpty_of hp
           by_cases e1 : c = 43
           · have hD0 : G = true := by rw [HG.out, hc]; simp [e1, hp]
             subst hD0
             subst e1
             clear hc hp HG
             go_wp2_with fail
             go_meet
             exact ⟨rfl, rfl⟩
           · have z1 : ((c : Int) == 43) = false := by simp only [beq_eq_false_iff_ne, ne_eq]; omega
             have hD0 : ((c : Int) == 45) = G := by rw [HG.out, hc]; by_cases e2 : c = 45; simp [e2, hp]; simp [e1, e2]; omega
             clear hc hp HG e1
             go_wp2_with fail
             go_meet
             exact ⟨rfl, rfl⟩
         · have hem : x.isEmpty = true := by revert hp; cases x with | nil => intro _; rfl | cons a b => intro hp; simp at hp
           have hD0 : G = false := by rw [HG.out]; simp; omega
           subst hD0
           clear hp HG
           go_wp2_with fail
           go_meet
           exact ⟨rfl, rfl⟩
        case rest =>
         obtain ⟨rfl, rfl⟩ := hcut
         obtain ⟨y, hy⟩ : ∃ y, E6.unsign x = y := ⟨_, rfl⟩
         have HF2 := Px.hid (show E6.unum t = E6.all y by rw [HF.out, hy])
         have hyl : y.length ≤ 140737488355327 := by
           rw [← hy]
           cases G with
           | true =>
             obtain ⟨hp, he⟩ : 0 < x.length ∧ (R6.at_ x 0 = 43 ∨ R6.at_ x 0 = 45) := by have := HG.out; simpa using this.symm
             rw [unsign_yes hp he, List.length_drop]
             omega
           | false =>
             have := HG.out
             rw [unsign_not (by
               by_cases e : 0 < x.length
               · refine .inr ⟨fun e2 => ?_, fun e2 => ?_⟩
                 · simp [e, e2] at this
                 · simp [e, e2] at this
               · exact .inl (by omega))]
             exact hxl
         go_upto_if 66 with fail
         go_cut [0] (fun v0 wx => v0 = S y ∧ w = wx)
         case first =>
           cases G with
           | true =>
             obtain ⟨hp, he⟩ : 0 < x.length ∧ (R6.at_ x 0 = 43 ∨ R6.at_ x 0 = 45) := by have := HG.out; simpa using this.symm
             have hs2 : ∀ w, (Instr.slice 9 (S x) (some (.int .i64 1)) none none).run Tryd.prog w = .ok (S y) w := fun w => by rw [← hy, unsign_yes hp he]; exact from_S x 1 hp w
             clear hp he hy
             go_wp2_with fail
             go_meet
             exact ⟨rfl, rfl⟩
           | false =>
             have hxy : x = y := by
               have := HG.out
               rw [← hy, unsign_not]
               by_cases e : 0 < x.length
               · refine .inr ⟨fun e2 => ?_, fun e2 => ?_⟩
                 · simp [e, e2] at this
                 · simp [e, e2] at this
               · exact .inl (by omega)
             subst hxy
             clear hy
             go_wp2_with fail
             go_meet
             exact ⟨rfl, rfl⟩
         case rest =>
          obtain ⟨rfl, rfl⟩ := hcut
          clear hy
          obtain ⟨m, hm⟩ : ∃ m, E6.run y = m := ⟨_, rfl⟩
          have HM := Px.hid (fun w => erun_any y hyl w)
          simp only [hm] at HM
          have hml : m ≤ y.length := by rw [← hm]; exact run_le y
          have hyz : (ByteArray.mk y.toArray).size = y.length := size_S y
          have HA := Px.hid (show E6.all y = (decide (0 < m) && m == y.length) by unfold E6.all; rw [hm])
          by_cases h0 : 0 < m
          · have z0 : (0 : Int) < m := by omega
            have HB := Px.hid (show E6.unum t = ((m : Int) == (y.length : Int)) by
              rw [HF2.out, HA.out]
              by_cases e : m = y.length
              · rw [← e]; simp [h0]
              · have e2 : ((m : Int) == (y.length : Int)) = false := by simp; omega
                rw [e2]
                simp [e])
            clear hm h0
            go_wp2_with fail
            refine (HM.out _).mono ?_
            rintro e w2 ⟨rfl, rfl⟩
            obtain ⟨B, hB⟩ : ∃ B, ((m : Int) == (y.length : Int)) = B := ⟨_, rfl⟩
            rw [hB] at HB
            go_wp2
            go_ret
            rw [HB.out]
            exact ⟨rfl, rfl⟩
          · have z0 : ¬ (0 : Int) < m := by omega
            have HB := Px.hid (show E6.unum t = false by rw [HF2.out, HA.out, show decide (0 < m) = false by simpa using h0]; rfl)
            clear hm h0
            go_wp2_with fail
            refine (HM.out _).mono ?_
            rintro e w2 ⟨rfl, rfl⟩
            go_wp2
            go_ret
            rw [HB.out]
            exact ⟨rfl, rfl⟩
end Go.Proofs.YtahojodgmjmpnaaDoor

/-! utf8.ValidString at this program: the guide's contract, laid in plain words; what the two tables of package utf8 must hold. -/
namespace Go.Proofs.YtahojodgmjmpnaaDoor
open Go.Shelf Go.RowKit Go.Px
def Tryd.laysValid_ren : Go.Shelf.Ren := ⟨fun | 196 => 58 | 259 => 71 | n => n, fun | 9 => 9 | 4 => 4 | 3 => 3 | 5 => 5 | 12 => 12 | 119 => 113 | 0 => 0 | 46 => 89 | 139 => 116 | 138 => 115 | 53 => 120 | n => n, fun | 3 => 0 | 4 => 1 | n => n⟩
theorem Tryd.laysValid : Go.Proofs.Lays.n196 Tryd.prog Tryd.laysValid_ren := {
  mixed := by kernel_rfl
  f196 := Tryd.func58.trans (congrArg some (by kernel_rfl))
  f259 := Tryd.func71.trans (congrArg some (by kernel_rfl))
  t0 := Tryd.underlying0
  a0 := Tryd.isAgg0
  z0 := Tryd.sizeOf0
  v0 := Tryd.zeroValue0
  t3 := Tryd.underlying3
  a3 := Tryd.isAgg3
  z3 := Tryd.sizeOf3
  v3 := Tryd.zeroValue3
  t4 := Tryd.underlying4
  a4 := Tryd.isAgg4
  z4 := Tryd.sizeOf4
  v4 := Tryd.zeroValue4
  t5 := Tryd.underlying5
  a5 := Tryd.isAgg5
  z5 := Tryd.sizeOf5
  v5 := Tryd.zeroValue5
  t9 := Tryd.underlying9
  a9 := Tryd.isAgg9
  z9 := Tryd.sizeOf9
  v9 := Tryd.zeroValue9
  t12 := Tryd.underlying12
  a12 := Tryd.isAgg12
  z12 := Tryd.sizeOf12
  v12 := Tryd.zeroValue12
  t46 := Tryd.underlying89
  a46 := Tryd.isAgg89
  z46 := Tryd.sizeOf89
  v46 := Tryd.zeroValue89
  t53 := Tryd.underlying120
  a53 := Tryd.isAgg120
  z53 := Tryd.sizeOf120
  v53 := Tryd.zeroValue120
  t119 := Tryd.underlying113
  a119 := Tryd.isAgg113
  z119 := Tryd.sizeOf113
  t138 := Tryd.underlying115
  a138 := Tryd.isAgg115
  z138 := Tryd.sizeOf115
  v138 := Tryd.zeroValue115
  t139 := Tryd.underlying116
  a139 := Tryd.isAgg116
  z139 := Tryd.sizeOf116
  v139 := Tryd.zeroValue116
  g3 := by kernel_rfl
  g4 := by kernel_rfl }

/-- The tables of package utf8 lie as its text lays them. -/
def Tabs (w : World) : Prop := Lib.Utf8Tabs 0 1 w
theorem valid_any (l : List UInt8) (w : World) (hl : l.length ≤ 9223372036854775807) (hT : Tabs w) :
    Calls Tryd.prog 58 #[S l] w fun e w' => e = .returned (.bool (Lib.validD l)) ∧ Below w.heap.size w w' :=
  Any.utf8_ValidString Tryd.laysValid ⟨l.toArray⟩ w (by rw [size_S]; exact hl) hT
theorem Tabs.below {w w' : World} (h : Tabs w) (hb : Below w.heap.size w w') : Tabs w' := Utf8Tabs_below h hb
theorem Tabs.fr {w w' : World} {F : Nat → Prop} (h : Tabs w) (hf : Fr F w w') (hF : ∀ k, F k → 2 ≤ k) (hw : 2 ≤ w.heap.size) : Tabs w' := by
  refine ⟨fun c hc => ?_, fun i hi => ⟨?_, ?_⟩⟩
  · rw [hf.cell (p := ⟨_, _, none⟩) (show 0 < w.heap.size by omega) (fun x => by have := hF 0 x; omega)]; exact h.1 c hc
  · rw [hf.cell (p := ⟨_, _, none⟩) (show 1 < w.heap.size by omega) (fun x => by have := hF 1 x; omega)]; exact (h.2 i hi).1
  · rw [hf.cell (p := ⟨_, _, none⟩) (show 1 < w.heap.size by omega) (fun x => by have := hF 1 x; omega)]; exact (h.2 i hi).2
theorem Tabs.drew {w : World} (h : Tabs w) : Tabs w.drew := h
theorem Tabs.drewN {w : World} (h : Tabs w) (n : Nat) : Tabs (w.drewN n) := h
end Go.Proofs.YtahojodgmjmpnaaDoor

/-! The walk over json.right: may a value be, but for its Kids. -/
namespace Go.Proofs.YtahojodgmjmpnaaDoor
open Go.RowKit Go.Px

theorem Tabs.same {w w' : World} (h : Tabs w) (hs : Same w w') : Tabs w' := h.below hs.below
theorem same_of_below {w w' : World} (h : Below w.heap.size w w') : Same w w' := ⟨h.os, h.tape, h.output, h.size, fun b hb _ => h.block b hb⟩
theorem empty_eq (t : Bytes) : (t == []) = t.isEmpty := by cases t <;> rfl
set_option maxRecDepth 100000 in
set_option maxHeartbeats 4000000 in
theorem eright_any (v : Val) (w : World) (hl : v.text.length ≤ 140737488355327) (hT : Tabs w) :
    Calls Tryd.prog 39 #[valV v] w fun e w' => e = .returned (.bool (E6.right v)) ∧ Same w w' := by
  obtain ⟨k, n, t⟩ := v
  unfold valV
  have HT := Px.hid (And.intro hl hT)
  have HB := Px.hid (empty_eq t)
  clear hl hT
  obtain ⟨R, hR⟩ : ∃ R, E6.right ⟨k, n, t⟩ = R := ⟨_, rfl⟩
  have HR := Px.hid hR
  rw [hR]
  clear hR
  by_cases h0 : n = 0
  · subst h0
    have hks : k = 0 ∨ k = 1 ∨ k = 2 ∨ k = 3 ∨ k = 4 ∨ k = 5 ∨ k = 6 ∨ (k ≠ 0 ∧ k ≠ 1 ∧ k ≠ 2 ∧ k ≠ 3 ∧ k ≠ 4 ∧ k ≠ 5 ∧ k ≠ 6) := by omega
    rcases hks with rfl | rfl | rfl | rfl | rfl | rfl | rfl | ⟨a0, a1, a2, a3, a4, a5, a6⟩
    iterate 3
      · have HR := Px.hid (show t.isEmpty = R by rw [← HR.out, ← HB.out]; unfold E6.right; simp)
        go_enter Tryd.func39, Tryd.ntmps39
        go_wp2
        go_ret
        rw [← HR.out]
        exact ⟨rfl, (Fr.refl _ w).alloc _⟩
    · have HR := Px.hid (show E6.numeral t = R by rw [← HR.out]; unfold E6.right; simp)
      have HN := Px.hid (fun w => numeral_any t HT.out.1 w)
      rw [HR.out] at HN
      go_enter Tryd.func39, Tryd.ntmps39
      go_wp2_with fail
      refine (HN.out _).mono ?_
      rintro e w1 ⟨rfl, rfl⟩
      go_wp2
      go_ret
      exact ⟨rfl, (Fr.refl _ w).alloc _⟩
    · have HR := Px.hid (show Lib.validD t = R by rw [← HR.out]; unfold E6.right; simp)
      go_enter Tryd.func39, Tryd.ntmps39
      go_wp2_with fail
      refine (valid_any t _ (by have := HT.out.1; omega) (HT.out.2.same ((Fr.refl _ w).alloc _))).mono ?_
      rintro e w1 ⟨rfl, hb⟩
      have HS := Px.hid (Same.trans ((Same.refl w).alloc _) (same_of_below hb))
      clear hb
      rw [HR.out]
      go_wp2
      go_ret
      exact ⟨rfl, HS.out⟩
    iterate 2
      · have HR := Px.hid (show t.isEmpty = R by rw [← HR.out, ← HB.out]; unfold E6.right; simp)
        go_enter Tryd.func39, Tryd.ntmps39
        go_wp2
        go_ret
        rw [← HR.out]
        exact ⟨rfl, (Fr.refl _ w).alloc _⟩
    · have b0 : (k == 0) = false := by simpa using a0
      have b1 : (k == 1) = false := by simpa using a1
      have b2 : (k == 2) = false := by simpa using a2
      have b3 : (k == 3) = false := by simpa using a3
      have b4 : (k == 4) = false := by simpa using a4
      have b5 : (k == 5) = false := by simpa using a5
      have b6 : (k == 6) = false := by simpa using a6
      have HR := Px.hid (show false = R by rw [← HR.out]; unfold E6.right; simp [a0, a1, a2, a3, a4, a5, a6])
      clear a0 a1 a2 a3 a4 a5 a6
      go_enter Tryd.func39, Tryd.ntmps39
      go_wp2
      go_ret
      rw [← HR.out]
      exact ⟨rfl, (Fr.refl _ w).alloc _⟩
  · have z0 : (n == 0) = false := by simpa using h0
    have hks : k = 0 ∨ k = 1 ∨ k = 2 ∨ k = 3 ∨ k = 4 ∨ k = 5 ∨ k = 6 ∨ (k ≠ 0 ∧ k ≠ 1 ∧ k ≠ 2 ∧ k ≠ 3 ∧ k ≠ 4 ∧ k ≠ 5 ∧ k ≠ 6) := by omega
    rcases hks with rfl | rfl | rfl | rfl | rfl | rfl | rfl | ⟨a0, a1, a2, a3, a4, a5, a6⟩
    iterate 5
      · have HR := Px.hid (show false = R by rw [← HR.out]; unfold E6.right; simp [h0])
        clear h0
        go_enter Tryd.func39, Tryd.ntmps39
        go_wp2
        go_ret
        rw [← HR.out]
        exact ⟨rfl, (Fr.refl _ w).alloc _⟩
    · by_cases hn : 0 ≤ n
      · have HR := Px.hid (show t.isEmpty = R by rw [← HR.out, ← HB.out]; unfold E6.right; simp [hn])
        clear h0
        go_enter Tryd.func39, Tryd.ntmps39
        go_wp2
        go_ret
        rw [← HR.out]
        exact ⟨rfl, (Fr.refl _ w).alloc _⟩
      · have HR := Px.hid (show false = R by rw [← HR.out]; unfold E6.right; simp [hn])
        clear h0
        go_enter Tryd.func39, Tryd.ntmps39
        go_wp2
        go_ret
        rw [← HR.out]
        exact ⟨rfl, (Fr.refl _ w).alloc _⟩
    · by_cases hn : 0 ≤ n
      · obtain ⟨m, hm⟩ : ∃ m, n.tmod 2 = m := ⟨_, rfl⟩
        by_cases hm0 : m = 0
        · subst hm0
          have HR := Px.hid (show t.isEmpty = R by rw [← HR.out, ← HB.out]; unfold E6.right; simp [hn, hm])
          clear h0
          go_enter Tryd.func39, Tryd.ntmps39
          go_wp2
          go_ret
          rw [← HR.out]
          exact ⟨rfl, (Fr.refl _ w).alloc _⟩
        · have zm : (m == 0) = false := by simpa using hm0
          have HR := Px.hid (show false = R by rw [← HR.out]; unfold E6.right; simp [hm, hm0])
          clear h0 hm0
          go_enter Tryd.func39, Tryd.ntmps39
          go_wp2
          go_ret
          rw [← HR.out]
          exact ⟨rfl, (Fr.refl _ w).alloc _⟩
      · have HR := Px.hid (show false = R by rw [← HR.out]; unfold E6.right; simp [hn])
        clear h0
        go_enter Tryd.func39, Tryd.ntmps39
        go_wp2
        go_ret
        rw [← HR.out]
        exact ⟨rfl, (Fr.refl _ w).alloc _⟩
    · have b0 : (k == 0) = false := by simpa using a0
      have b1 : (k == 1) = false := by simpa using a1
      have b2 : (k == 2) = false := by simpa using a2
      have b3 : (k == 3) = false := by simpa using a3
      have b4 : (k == 4) = false := by simpa using a4
      have b5 : (k == 5) = false := by simpa using a5
      have b6 : (k == 6) = false := by simpa using a6
      have HR := Px.hid (show false = R by rw [← HR.out]; unfold E6.right; simp [a0, a1, a2, a3, a4, a5, a6])
      clear a0 a1 a2 a3 a4 a5 a6
      go_enter Tryd.func39, Tryd.ntmps39
      go_wp2
      go_ret
      rw [← HR.out]
      exact ⟨rfl, (Fr.refl _ w).alloc _⟩
end Go.Proofs.YtahojodgmjmpnaaDoor

/-! The walk over json.told: a string as it is told. -/
namespace Go.Proofs.YtahojodgmjmpnaaDoor
open Go.RowKit Go.Px

theorem toldC_len (c : UInt8) : (E6.toldC c).length ≤ 6 := by unfold E6.toldC; split <;> (try split) <;> simp
theorem toldN_len : ∀ l : Bytes, (l.flatMap E6.toldC).length ≤ 6 * l.length
  | [] => Nat.le_refl _
  | c :: l => by
    rw [List.flatMap_cons, List.length_append, List.length_cons]
    have := toldN_len l
    have := toldC_len c
    omega
/-- What is told of the first bytes. -/
def tl (s : Bytes) (k : Nat) : Bytes := [34] ++ (s.take k).flatMap E6.toldC
theorem tl_len (s : Bytes) (k : Nat) : (tl s k).length ≤ 6 * k + 1 := by
  unfold tl
  have h1 := toldN_len (s.take k)
  have h2 : (s.take k).length ≤ k := by rw [List.length_take]; omega
  rw [List.length_append, List.length_singleton]
  omega
theorem tl_step {s : Bytes} {k : Nat} (hk : k < s.length) : tl s (k + 1) = tl s k ++ E6.toldC (s.getD k 0) := by
  unfold tl
  rw [List.take_succ_eq_append_getElem hk, List.flatMap_append, List.append_assoc]
  have : s[k] = s.getD k 0 := by simp [hk]
  rw [← this]
  simp
def hexL (j : Nat) : Nat := if h : j < ({ data := #[48, 49, 50, 51, 52, 53, 54, 55, 56, 57, 97, 98, 99, 100, 101, 102] } : ByteArray).size then ((({ data := #[48, 49, 50, 51, 52, 53, 54, 55, 56, 57, 97, 98, 99, 100, 101, 102] } : ByteArray)[j]'h)).toNat else 0
theorem hexL_eq (j : Nat) (h : j < 16) : hexL j = (E6.hexd j).toNat := by
  have hc : j = 0 ∨ j = 1 ∨ j = 2 ∨ j = 3 ∨ j = 4 ∨ j = 5 ∨ j = 6 ∨ j = 7 ∨ j = 8 ∨ j = 9 ∨ j = 10 ∨ j = 11 ∨ j = 12 ∨ j = 13 ∨ j = 14 ∨ j = 15 := by omega
  rcases hc with rfl | rfl | rfl | rfl | rfl | rfl | rfl | rfl | rfl | rfl | rfl | rfl | rfl | rfl | rfl | rfl <;> rfl
theorem hexL_at {d : Nat} (h : d < ({ data := #[48, 49, 50, 51, 52, 53, 54, 55, 56, 57, 97, 98, 99, 100, 101, 102] } : ByteArray).size) : ((({ data := #[48, 49, 50, 51, 52, 53, 54, 55, 56, 57, 97, 98, 99, 100, 101, 102] } : ByteArray)[d]'h)).toNat = hexL d := by unfold hexL; rw [dif_pos h]
theorem and15 (c : Nat) (h : c < 32) : bits .and .u8 (c : Int) 15 = ((c % 16 : Nat) : Int) := by
  have : ∀ c : Nat, c < 32 → bits .and .u8 (c : Int) 15 = ((c % 16 : Nat) : Int) := by decide
  exact this c h
theorem toldC_low (c : Nat) (h1 : c ≠ 34) (h2 : c ≠ 92) (h3 : c < 32) : E6.toldC (UInt8.ofNat c) = [92, 117, 48, 48, E6.hexd (c / 16), E6.hexd (c % 16)] := by
  have e : (UInt8.ofNat c).toNat = c := by simp; omega
  unfold E6.toldC
  rw [e]
  simp [h1, h2, h3]
theorem grown_drew {w w1 : World} {r : Option Nat} (h : w.drew.grownBy w1 r) : w.grownBy w1 r := ⟨h.os, h.tape, h.output, h.size, h.block⟩
set_option maxRecDepth 100000 in
set_option maxHeartbeats 8000000 in
theorem etold_any (s : Bytes) (hs : s.length ≤ 1000000) (w : World) : Calls Tryd.prog 25 #[S s] w fun r w' => ∃ v, r = .returned v ∧ Mine w w' v (E6.told s) := by
  have hsz : (ByteArray.mk s.toArray).size = s.length := size_S s
  obtain ⟨i0, hi0, hz0, hz1, hz2⟩ := info_parts Tryd.infoU8
  have hall := Px.hid (show tl s s.length ++ [34] = E6.told s by unfold tl E6.told; rw [List.take_length]; rfl)
  have H0 := Px.hid (mine_new w 34 (by omega))
  go_enter Tryd.func25, Tryd.ntmps25
  go_wp2
  go_loopw [3, 9] (fun v i wr => ∃ k, i = .int .i64 (k : Nat) ∧ k ≤ s.length ∧ Hid (Mine w wr v (tl s k))) (fun _ i _ => s.length - (intOf i).toNat)
  case atStart => exact ⟨0, rfl, Nat.zero_le _, Px.hid (by unfold tl; exact H0.out)⟩
  case round =>
    clear H0
    obtain ⟨k, rfl, hk, HM⟩ := hrel
    obtain ⟨va, vc, hv⟩ := HM.out.len
    subst hv
    obtain ⟨L, hL⟩ : ∃ L, (tl s k).length = L := ⟨_, rfl⟩
    have hLb : L ≤ 6000001 := by rw [← hL]; have := tl_len s k; omega
    rw [hL] at HM ⊢
    have HL := Px.hid hL
    obtain ⟨RL, hRL⟩ : ∃ RL, (tl s k).flatMap cByte = RL := ⟨_, rfl⟩
    have hrow : wr.ownsRow 0 5 1 (.slice va L vc) L RL := by
      have := HM.out.own
      unfold Owns at this
      rw [hRL, hL] at this
      exact this
    have HR := Px.hid hrow
    have HRL := Px.hid hRL
    clear hrow hRL hL
    by_cases hlt : k < s.length
    · have hltz : (k : Int) < (s.length : Int) := by omega
      have hix := idx6 s k hlt
      have hwk := wrap1 k (by omega)
      have hst := tl_step hlt
      have hc256 := at_lt s k
      obtain ⟨c, hcc⟩ : ∃ c, R6.at_ s k = c := ⟨_, rfl⟩
      have hcd : s.getD k 0 = UInt8.ofNat c := by rw [← hcc]; unfold R6.at_; simp
      rw [hcc] at hc256
      rw [hcd] at hst
      simp only [hcc] at hix
      have HLT := Px.hid (And.intro hlt hst)
      clear hcc hlt hst hcd
      have hcs : c = 34 ∨ c = 92 ∨ (c ≠ 34 ∧ c ≠ 92 ∧ c < 32) ∨ (c ≠ 34 ∧ c ≠ 92 ∧ ¬ c < 32) := by omega
      rcases hcs with rfl | rfl | ⟨h1, h2, h3⟩ | ⟨h1, h2, h3⟩
      · go_wp2_with (at_builtin; go_must (refine wpList_append_lies _ rfl _ _ _ rfl 0 5 i0 _ 1 1 Tryd.underlying62 hi0 hz0 hz1 hz2 rfl (by omega) (.slice va L vc) L RL rfl (HR.out.alloc _) ⟨wr.heap.size, 0, none⟩ 2 2 [.int .u8 92, .int .u8 34] rfl rfl (World.news_of_block (cs := #[.int .u8 92, .int .u8 34]) (t := 5) (fr := (0, 0)) (heap_alloc_new wr _)) (by simp [Value.oneCell']) (by omega) (by unfold maxLen; omega) (by omega) (by omega) (wr.heap.size + 1) (by simp) ?_))
        intro gg cap WY hown1 hgrow hat hlt1
        have HP := Px.hid (show Mine w WY (.slice (some ⟨gg, 0, none⟩) (L + 2) cap) (tl s (k + 1)) from by
          rw [HLT.out.2]
          have k1 := Mine.app (t := E6.toldC (UInt8.ofNat 34)) HM.out HL.out HRL.out rfl rfl hown1 (grown_alloc1 (w := wr) hgrow) (hat.imp id (fun e => by omega))
          exact k1)
        clear hown1 hgrow hat
        go_wp2
        go_roundw
        case rel => exact ⟨k + 1, by go_num, HLT.out.1, HP⟩
        case measure => have := HLT.out.1; simp [intOf]; omega
      · go_wp2_with (at_builtin; go_must (refine wpList_append_lies _ rfl _ _ _ rfl 0 5 i0 _ 1 1 Tryd.underlying62 hi0 hz0 hz1 hz2 rfl (by omega) (.slice va L vc) L RL rfl (HR.out.alloc _) ⟨wr.heap.size, 0, none⟩ 2 2 [.int .u8 92, .int .u8 92] rfl rfl (World.news_of_block (cs := #[.int .u8 92, .int .u8 92]) (t := 5) (fr := (0, 0)) (heap_alloc_new wr _)) (by simp [Value.oneCell']) (by omega) (by unfold maxLen; omega) (by omega) (by omega) (wr.heap.size + 1) (by simp) ?_))
        intro gg cap WY hown1 hgrow hat hlt1
        have HP := Px.hid (show Mine w WY (.slice (some ⟨gg, 0, none⟩) (L + 2) cap) (tl s (k + 1)) from by
          rw [HLT.out.2]
          have k1 := Mine.app (t := E6.toldC (UInt8.ofNat 92)) HM.out HL.out HRL.out rfl rfl hown1 (grown_alloc1 (w := wr) hgrow) (hat.imp id (fun e => by omega))
          exact k1)
        clear hown1 hgrow hat
        go_wp2
        go_roundw
        case rel => exact ⟨k + 1, by go_num, HLT.out.1, HP⟩
        case measure => have := HLT.out.1; simp [intOf]; omega
      · have z1 : ((c : Int) == 34) = false := by simp; omega
        have z2 : ((c : Int) == 92) = false := by simp; omega
        have z3 : (c : Int) < 32 := by omega
        obtain ⟨d, hdd⟩ : ∃ d, c % 16 = d := ⟨_, rfl⟩
        have hd : d < ({ data := #[48, 49, 50, 51, 52, 53, 54, 55, 56, 57, 97, 98, 99, 100, 101, 102] } : ByteArray).size := by show d < 16; omega
        have hd16 : (d : Int) < 16 := by omega
        have han : bits .and .u8 (c : Int) 15 = (d : Int) := by rw [← hdd]; exact and15 c h3
        have HT := Px.hid (show ∀ j, c / 16 = j → [.int .u8 92, .int .u8 117, .int .u8 48, .int .u8 48, .int .u8 (hexL j : Nat), .int .u8 (hexL d : Nat)] = (E6.toldC (UInt8.ofNat c)).flatMap cByte from fun j hj => by
          rw [toldC_low c h1 h2 h3, hj, hdd]
          have e1 : hexL j = (E6.hexd j).toNat := hexL_eq j (by omega)
          have e2 : hexL d = (E6.hexd d).toNat := hexL_eq d (by omega)
          rw [e1, e2]
          rfl)
        have HT2 := Px.hid (show 6 = (E6.toldC (UInt8.ofNat c)).length by rw [toldC_low c h1 h2 h3]; rfl)
        have hcs : c < 16 ∨ 16 ≤ c := by omega
        clear h1 h2 h3
        rcases hcs with h4 | h4
        · have hsh : (c : Int) / 16 = 0 := by omega
          have HJ := Px.hid (HT.out 0 (by omega))
          clear h4 hdd
          go_wp2_with fail
          go_region_law
            (refine step_append_lies _ (by rfl) _ _ _ (by rfl) 0 5 i0 _ 1 1 Tryd.underlying62 hi0 hz0 hz1 hz2 rfl (by omega) (.slice va L vc) L RL (by rfl) ((HR.out.alloc _).drew) ⟨wr.heap.size, 0, none⟩ 6 6 [.int .u8 92, .int .u8 117, .int .u8 48, .int .u8 48, .int .u8 ((({ data := #[48, 49, 50, 51, 52, 53, 54, 55, 56, 57, 97, 98, 99, 100, 101, 102] } : ByteArray)[0]'(by decide)).toNat : Nat), .int .u8 ((({ data := #[48, 49, 50, 51, 52, 53, 54, 55, 56, 57, 97, 98, 99, 100, 101, 102] } : ByteArray)[d]'hd).toNat : Nat)] (by rfl) (by rfl) (World.news_of_block (cs := #[.int .u8 92, .int .u8 117, .int .u8 48, .int .u8 48, .int .u8 ((({ data := #[48, 49, 50, 51, 52, 53, 54, 55, 56, 57, 97, 98, 99, 100, 101, 102] } : ByteArray)[0]'(by decide)).toNat : Nat), .int .u8 ((({ data := #[48, 49, 50, 51, 52, 53, 54, 55, 56, 57, 97, 98, 99, 100, 101, 102] } : ByteArray)[d]'hd).toNat : Nat)]) (t := 5) (fr := (0, 0)) (heap_alloc_new wr _)) (by simp [Value.oneCell']) (by omega) (by unfold maxLen; omega) (by omega) (by simp) (wr.heap.size + 1) (by simp) ?_; intro gg cap WY hown1 hgrow hat hlt1)
          all_goals (
            have HP := Px.hid (show Mine w WY (.slice (some ⟨gg, 0, none⟩) (L + 6) cap) (tl s (k + 1)) from by
              rw [HLT.out.2]
              exact Mine.app (t := E6.toldC (UInt8.ofNat c)) HM.out HL.out HRL.out (by rw [hexL_at hd]; exact HJ.out) HT2.out hown1 (grown_alloc1 (w := wr) (grown_drew hgrow)) (hat.imp id (fun e => by omega)))
            clear hown1 hgrow hat
            go_wp2
            go_roundw
            case rel => exact ⟨k + 1, by go_num, HLT.out.1, HP⟩
            case measure => have := HLT.out.1; simp [intOf]; omega)
        · have hsh : (c : Int) / 16 = 1 := by omega
          have HJ := Px.hid (HT.out 1 (by omega))
          clear h4 hdd
          go_wp2_with fail
          go_region_law
            (refine step_append_lies _ (by rfl) _ _ _ (by rfl) 0 5 i0 _ 1 1 Tryd.underlying62 hi0 hz0 hz1 hz2 rfl (by omega) (.slice va L vc) L RL (by rfl) ((HR.out.alloc _).drew) ⟨wr.heap.size, 0, none⟩ 6 6 [.int .u8 92, .int .u8 117, .int .u8 48, .int .u8 48, .int .u8 ((({ data := #[48, 49, 50, 51, 52, 53, 54, 55, 56, 57, 97, 98, 99, 100, 101, 102] } : ByteArray)[1]'(by decide)).toNat : Nat), .int .u8 ((({ data := #[48, 49, 50, 51, 52, 53, 54, 55, 56, 57, 97, 98, 99, 100, 101, 102] } : ByteArray)[d]'hd).toNat : Nat)] (by rfl) (by rfl) (World.news_of_block (cs := #[.int .u8 92, .int .u8 117, .int .u8 48, .int .u8 48, .int .u8 ((({ data := #[48, 49, 50, 51, 52, 53, 54, 55, 56, 57, 97, 98, 99, 100, 101, 102] } : ByteArray)[1]'(by decide)).toNat : Nat), .int .u8 ((({ data := #[48, 49, 50, 51, 52, 53, 54, 55, 56, 57, 97, 98, 99, 100, 101, 102] } : ByteArray)[d]'hd).toNat : Nat)]) (t := 5) (fr := (0, 0)) (heap_alloc_new wr _)) (by simp [Value.oneCell']) (by omega) (by unfold maxLen; omega) (by omega) (by simp) (wr.heap.size + 1) (by simp) ?_; intro gg cap WY hown1 hgrow hat hlt1)
          all_goals (
            have HP := Px.hid (show Mine w WY (.slice (some ⟨gg, 0, none⟩) (L + 6) cap) (tl s (k + 1)) from by
              rw [HLT.out.2]
              exact Mine.app (t := E6.toldC (UInt8.ofNat c)) HM.out HL.out HRL.out (by rw [hexL_at hd]; exact HJ.out) HT2.out hown1 (grown_alloc1 (w := wr) (grown_drew hgrow)) (hat.imp id (fun e => by omega)))
            clear hown1 hgrow hat
            go_wp2
            go_roundw
            case rel => exact ⟨k + 1, by go_num, HLT.out.1, HP⟩
            case measure => have := HLT.out.1; simp [intOf]; omega)
      · have z1 : ((c : Int) == 34) = false := by simp; omega
        have z2 : ((c : Int) == 92) = false := by simp; omega
        have z3 : ¬ (c : Int) < 32 := by omega
        have HT := Px.hid (show E6.toldC (UInt8.ofNat c) = [UInt8.ofNat c] ∧ (UInt8.ofNat c).toNat = c from by
          have e : (UInt8.ofNat c).toNat = c := by simp; omega
          refine ⟨?_, e⟩
          unfold E6.toldC
          rw [e]
          simp [h1, h2, h3])
        clear h1 h2 h3
        go_wp2_with (at_builtin; go_must (refine wpList_append_lies _ rfl _ _ _ rfl 0 5 i0 _ 1 1 Tryd.underlying62 hi0 hz0 hz1 hz2 rfl (by omega) (.slice va L vc) L RL rfl (HR.out.alloc _) ⟨wr.heap.size, 0, none⟩ 1 1 [.int .u8 (c : Int)] rfl rfl (World.news_of_block (cs := #[.int .u8 (c : Int)]) (t := 5) (fr := (0, 0)) (heap_alloc_new wr _)) (by simp [Value.oneCell']) (by omega) (by unfold maxLen; omega) (by omega) (by omega) (wr.heap.size + 1) (by simp) ?_))
        intro gg cap WY hown1 hgrow hat hlt1
        have HP := Px.hid (show Mine w WY (.slice (some ⟨gg, 0, none⟩) (L + 1) cap) (tl s (k + 1)) from by
          rw [HLT.out.2]
          have k1 := Mine.app (t := E6.toldC (UInt8.ofNat c)) HM.out HL.out HRL.out (by rw [HT.out.1]; simp [cByte, HT.out.2]) (by rw [HT.out.1]; rfl) hown1 (grown_alloc1 (w := wr) hgrow) (hat.imp id (fun e => by omega))
          exact k1)
        clear hown1 hgrow hat
        go_wp2
        go_roundw
        case rel => exact ⟨k + 1, by go_num, HLT.out.1, HP⟩
        case measure => have := HLT.out.1; simp [intOf]; omega
    · have hltz : ¬ (k : Int) < (s.length : Int) := by omega
      have HE := Px.hid (show k = s.length by omega)
      go_wp2_with (at_builtin; go_must (refine wpList_append_lies _ rfl _ _ _ rfl 0 5 i0 _ 1 1 Tryd.underlying62 hi0 hz0 hz1 hz2 rfl (by omega) (.slice va L vc) L RL rfl (HR.out.alloc _) ⟨wr.heap.size, 0, none⟩ 1 1 [.int .u8 34] rfl rfl (World.news_of_block (cs := #[.int .u8 34]) (t := 5) (fr := (0, 0)) (heap_alloc_new wr _)) (by simp [Value.oneCell']) (by omega) (by unfold maxLen; omega) (by omega) (by omega) (wr.heap.size + 1) (by simp) ?_))
      intro gg cap WY hown1 hgrow hat hlt1
      have HP := Px.hid (show Mine w WY (.slice (some ⟨gg, 0, none⟩) (L + 1) cap) (E6.told s) from by
        have e := hall.out
        rw [← HE.out] at e
        rw [← e]
        have k1 := Mine.app (t := [34]) HM.out HL.out HRL.out rfl rfl hown1 (grown_alloc1 (w := wr) hgrow) (hat.imp id (fun e => by omega))
        exact k1)
      clear hown1 hgrow hat
      go_wp2
      go_ret
      exact ⟨_, rfl, HP.out⟩
end Go.Proofs.YtahojodgmjmpnaaDoor
