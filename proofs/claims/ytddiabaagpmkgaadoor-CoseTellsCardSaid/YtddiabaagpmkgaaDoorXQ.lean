/-
 Several texts in one: The reference's reader of layer 17 as plain functions on plain data. No program is named here. Plain laws on cborfeed's functions: what stays, and what holds between two bytes. No program is named here. The feed, byte by byte, does what the reference's reader does (plain law). No program is named here. The feed, byte by byte, does what the reference's reader does: items, lists and pairs of them, and the whole (plain law). No program is named here.
-/
import Derived.Test.YtddiabaagpmkgaaDoorCborM
/-! The reference's reader of layer 17 as plain functions on plain data. No program is named here. -/
namespace Go.Px.R7
structure St where
 out : List Atom
 err : Int
 place : Int
 taken : Nat
 frames : Nat
 ended : Bool
def start : St := ⟨[], 0, 0, 0, 0, false⟩
def fault (x : St) (p e : Int) : St := { x with err := e, place := p }
def take (x : St) (n : Nat) : St := { x with taken := max x.taken n }
def want (s : Bytes) (lim : Lim) (x : St) (p : Nat) : Bool × St :=
 if p < s.length ∧ (p : Int) < lim.b then (true, take x (p + 1))
 else if lim.b < s.length then (false, fault (take x lim.b.toNat) lim.b 10)
 else (false, { fault (take x s.length) s.length 9 with ended := true })

def beBytes (n : Nat) : Nat → Bytes
 | 0 => []
 | w + 1 => UInt8.ofNat (n / 256 ^ w) :: beBytes n w
def infoOf (n : Nat) : Nat := if n < 256 then 0 else if n < 65536 then 1 else if n < 4294967296 then 2 else 3
/-- A head's bytes. -/
def headB (kind n : Nat) : Bytes :=
 if n < 24 then [UInt8.ofNat (32 * kind + n)] else UInt8.ofNat (32 * kind + 24 + infoOf n) :: beBytes n (2 ^ infoOf n)

def argN (s : Bytes) (lim : Lim) : Nat → St → Nat → Nat → Option Nat × St
 | 0, x, _, n => (some n, x)
 | m + 1, x, p, n => match want s lim x p with
  | (false, y) => (none, y)
  | (true, y) => argN s lim m y (p + 1) (n * 256 + (s.getD p 0).toNat)
def head (s : Bytes) (lim : Lim) (x : St) (p : Nat) : Option (Nat × Nat × Nat) × St :=
 match want s lim x p with
 | (false, y) => (none, y)
 | (true, y) =>
  if lim.i ≤ y.out.length then (none, fault y p 10)
  else
   let k := (s.getD p 0).toNat / 32
   let a := (s.getD p 0).toNat % 32
   if 27 < a then (none, fault y p 9)
   else if k == 7 && (decide (a < 20) || decide (23 < a)) then (none, fault y p 11)
   else if a < 24 then (some (k, a, p + 1), y)
   else match argN s lim (2 ^ (a - 24)) y (p + 1) 0 with
    | (none, z) => (none, z)
    | (some n, z) => if (headB k n).length = 2 ^ (a - 24) + 1 then (some (k, n, p + 1 + 2 ^ (a - 24)), z) else (none, fault z p 9)
def wantN (s : Bytes) (lim : Lim) : Nat → St → Nat → Bool × St
 | 0, x, _ => (true, x)
 | m + 1, x, at_ => match want s lim x at_ with
  | (false, y) => (false, y)
  | (true, y) => wantN s lim m y (at_ + 1)
def itemsN (rc : St → Nat → Option Nat × St) : Nat → St → Nat → Option Nat × St
 | 0, x, at_ => (some at_, x)
 | m + 1, x, at_ => match rc x at_ with
  | (none, y) => (none, y)
  | (some q, y) => itemsN rc m y q
def pairsN (s : Bytes) (rc : St → Nat → Option Nat × St) : Nat → Option Bytes → St → Nat → Option Nat × St
 | 0, _, x, at_ => (some at_, x)
 | m + 1, last, x, at_ => match rc x at_ with
  | (none, y) => (none, y)
  | (some q, y) =>
   let key := (s.take q).drop at_
   if last.any (fun l => leB key l) then (none, fault y at_ 9)
   else match rc y q with
    | (none, z) => (none, z)
    | (some r, z) => pairsN s rc m (some key) z r
/-- Behind a head of something that holds others. -/
def holdN (s : Bytes) (rc : St → Nat → Option Nat × St) (k n : Nat) (y : St) (at_ : Nat) : Option Nat × St :=
 let y' := { y with out := y.out ++ [⟨k, n, []⟩], frames := y.frames + 1 }
 match (if k == 4 then itemsN rc n y' at_ else if k == 5 then pairsN s rc n none y' at_ else rc y' at_) with
 | (some q, z) => (some q, { z with frames := z.frames - 1 })
 | (none, z) => (none, z)
def textN (s : Bytes) (lim : Lim) (k n : Nat) (y : St) (p at_ : Nat) : Option Nat × St :=
 match wantN s lim n y at_ with
 | (false, z) => (none, z)
 | (true, z) =>
  let t := (s.take (at_ + n)).drop at_
  if k == 3 && !Lib.validD t then (none, fault z p 9) else (some (at_ + n), { z with out := z.out ++ [⟨k, 0, t⟩] })
/-- An item at a place; so many more may be begun within one another. -/
def item (s : Bytes) (lim : Lim) : Nat → St → Nat → Option Nat × St
 | 0, x, p => match head s lim x p with
  | (none, y) => (none, y)
  | (some (k, n, at_), y) =>
   if k == 2 || k == 3 then textN s lim k n y p at_
   else if k == 4 || k == 5 || k == 6 then (none, fault y p 10)
   else (some at_, { y with out := y.out ++ [⟨k, n, []⟩] })
 | d + 1, x, p => match head s lim x p with
  | (none, y) => (none, y)
  | (some (k, n, at_), y) =>
   if k == 2 || k == 3 then textN s lim k n y p at_
   else if k == 4 || k == 5 || k == 6 then holdN s (item s lim d) k n y at_
   else (some at_, { y with out := y.out ++ [⟨k, n, []⟩] })
def read (s : Bytes) (lim : Lim) : St :=
 match item s lim lim.d.toNat start 0 with
 | (none, x) => x
 | (some q, x) => if q < s.length then (match want s lim x q with | (true, y) => fault y q 9 | (false, y) => y) else x
def list (x : St) : List Atom := if x.err == 0 then x.out else []
end Go.Px.R7

/-! Plain laws on cborfeed's functions: what stays, and what holds between two bytes. No program is named here. -/
namespace Go.Px.Cf

theorem counted_lim (f : Feed) (p : Nat) : (counted f p).2.lim = f.lim := by
 unfold counted; split
 ·rfl
 ·split
  ·split <;> rfl
  ·rfl
theorem counted_out (f : Feed) (p : Nat) : (counted f p).2.out = f.out := by
 unfold counted; split
 ·rfl
 ·split
  ·split <;> rfl
  ·rfl
theorem counted_next (f : Feed) (p : Nat) : (counted f p).2.next = f.next := by
 unfold counted; split
 ·rfl
 ·split
  ·split <;> rfl
  ·rfl
/-- What holds between two bytes, while there is no fault. -/
structure Live (f : Feed) : Prop where
 may : f.lim.may = true
 err : f.err = 0
 len : (f.text.length : Int) ≤ f.lim.b
 each : ∀ x ∈ f.stack, x.left < 18446744073709551616 ∧ x.at_ < f.text.length ∧ 0 < x.left
 out : f.out.length ≤ f.text.length
 deep : (f.stack.length : Int) ≤ f.lim.d
 next : f.next = 0 ∨ (f.next = 1 ∧ 24 ≤ f.info ∧ f.info ≤ 27 ∧ 1 ≤ f.more ∧ f.more ≤ 2 ^ (f.info - 24) ∧ f.num < 256 ^ (2 ^ (f.info - 24) - f.more) ∧ f.hat < f.text.length) ∨
  (f.next = 2 ∧ (f.kind = 2 ∨ f.kind = 3) ∧ 1 ≤ f.more ∧ f.num ≤ f.text.length + f.more ∧ f.hat < f.text.length ∧ f.more < 18446744073709551616) ∨ (f.next = 3 ∧ f.stack = [] ∧ f.out ≠ [])

theorem may_of {l : Lim} (h : l.may = true) : 1 ≤ l.d ∧ l.d ≤ 32 ∧ 1 ≤ l.i ∧ l.i ≤ 4096 ∧ 1 ≤ l.b ∧ l.b ≤ 262144 ∧ 1 ≤ l.r ∧ l.r ≤ 4096 := by
 simp only [Lim.may, Bool.and_eq_true, decide_eq_true_eq] at h
 obtain ⟨⟨⟨⟨⟨⟨⟨a, b⟩, c⟩, d⟩, e⟩, f⟩, g⟩, h⟩ := h
 exact ⟨a, b, c, d, e, f, g, h⟩

/-- What must hold ahead of settle. -/
structure Pre (f : Feed) : Prop where
 may : f.lim.may = true
 len : (f.text.length : Int) ≤ f.lim.b
 each : ∀ x ∈ f.stack, x.left < 18446744073709551616 ∧ x.at_ < f.text.length
 tail : ∀ x ∈ f.stack.tail, 0 < x.left
 out : f.out.length ≤ f.text.length
 deep : (f.stack.length : Int) ≤ f.lim.d

theorem Pre.ok {f : Feed} (h : Pre f) : FOk f := by
 have hm := may_of h.may
 have := h.len; have := h.deep
 exact ⟨h.each, h.tail, by omega, by omega⟩
theorem Live.pre {f : Feed} (h : Live f) : Pre f := ⟨h.may, h.len, fun x hx => ⟨(h.each x hx).1, (h.each x hx).2.1⟩, fun x hx => (h.each x (List.mem_of_mem_tail hx)).2.2, h.out, h.deep⟩
theorem Live.pos {f : Feed} (h : Live f) : ∀ x ∈ f.stack, 0 < x.left := fun x hx => (h.each x hx).2.2

theorem Pre.counted {f : Feed} (h : Pre f) (p : Nat) : Pre (counted f p).2 := by
 have hg := h.ok.counted p
 exact ⟨by rw [counted_lim]; exact h.may, by rw [counted_text, counted_lim]; exact h.len, hg.each, hg.tail, by rw [counted_text, counted_out]; exact h.out,
  by rw [counted_len, counted_lim]; exact h.deep⟩
theorem Pre.pop {f : Feed} (h : Pre f) {x : Fm} {rest : List Fm} (hs : f.stack = x :: rest) : Pre { f with stack := rest } :=
 ⟨h.may, h.len, (h.ok.pop hs).each, (h.ok.pop hs).tail, h.out, by have := h.deep; rw [hs] at this; simp only [List.length_cons] at this; show (rest.length : Int) ≤ f.lim.d; omega⟩

theorem pow256_le (k : Nat) (h : k ≤ 8) : 256 ^ k ≤ 18446744073709551616 := by
 have : 256 ^ k ≤ 256 ^ 8 := Nat.pow_le_pow_right (by omega) h
 simpa using this
theorem two_pow_le (k : Nat) (h : k ≤ 27) : 2 ^ (k - 24) ≤ 8 := by
 have : 2 ^ (k - 24) ≤ 2 ^ 3 := Nat.pow_le_pow_right (by omega) (by omega)
 simpa using this

/-- The number at hand takes a byte more. -/
theorem arg_step {num more width c : Nat} (h1 : 1 ≤ more) (h2 : more ≤ width) (hn : num < 256 ^ (width - more)) (hc : c < 256) : num * 256 + c < 256 ^ (width - (more - 1)) := by
 have e : width - (more - 1) = (width - more) + 1 := by omega
 rw [e, Nat.pow_succ]
 omega

theorem write_err {f : Feed} (s : Bytes) (h : f.err ≠ 0) : write f s = f := by
 cases s with
 | nil => rfl
 | cons c s => simp [write, h]
theorem write_drop (f : Feed) (s : Bytes) (k : Nat) (hk : k < s.length) (he : f.err = 0) : write f (s.drop k) = write (byte f s[k]) (s.drop (k + 1)) := by
 rw [List.drop_eq_getElem_cons hk]
 simp [write, he]
end Go.Px.Cf

/-! The feed, byte by byte, does what the reference's reader does (plain law). No program is named here. -/
namespace Go.Px.R7
open Cf

/-! What is at hand does not matter between two items -/
def hand (f h : Feed) : Feed := { f with kind := h.kind, hat := h.hat, info := h.info, num := h.num, more := h.more }
def blank : Feed := ⟨⟨0, 0, 0, 0⟩, [], [], [], 0, 0, 0, 0, 0, 0, 0, 0⟩
def norm (f : Feed) : Feed := hand f blank
theorem hand_of_norm {f g : Feed} (e : norm f = norm g) : g = hand f g := by
 cases f; cases g
 simp only [norm, hand, blank, Feed.mk.injEq] at e ⊢
 obtain ⟨h1, h2, h3, h4, h5, _, _, _, _, _, h6, h7⟩ := e
 exact ⟨h1.symm, h2.symm, h3.symm, h4.symm, h5.symm, trivial, trivial, trivial, trivial, trivial, h6.symm, h7.symm⟩
theorem counted_hand (f h : Feed) (p : Nat) : counted (hand f h) p = ((counted f p).1, hand (counted f p).2 h) := by
 obtain ⟨l, t, o, st, n, a, b, c, d, e, r, v⟩ := f
 unfold counted hand
 cases st with
 | nil => rfl
 | cons x rest =>
  simp only
  split
  ·split <;> rfl
  ·rfl
theorem settleN_hand (h : Feed) : ∀ (n : Nat) (f : Feed), settleN n (hand f h) = hand (settleN n f) h
 | 0, f => rfl
 | n + 1, f => by
  have hst : (hand f h).stack = f.stack := rfl
  unfold settleN
  simp only [hst]
  cases hs : f.stack with
  | nil => rfl
  | cons x rest =>
   simp only
   by_cases hl : 0 < x.left
   ·rw [if_pos hl, if_pos hl]
   ·rw [if_neg hl, if_neg hl]
    have e : ({ hand f h with stack := rest } : Feed) = hand { f with stack := rest } h := rfl
    rw [e, counted_hand]
    cases hc : Cf.counted { f with stack := rest } x.at_ with
    | mk cb g =>
     cases cb
     ·rfl
     ·exact settleN_hand h n g
theorem settle_hand (f h : Feed) : settle (hand f h) = hand (settle f) h := settleN_hand h f.stack.length { f with next := 0 }
theorem ended_hand (f h : Feed) (p : Nat) : ended (hand f h) p = hand (ended f p) h := by
 unfold ended
 rw [counted_hand]
 cases hc : Cf.counted f p with
 | mk cb g =>
  cases cb
  ·rfl
  ·exact settle_hand g h
theorem ended_norm (f : Feed) (p : Nat) : norm (ended f p) = ended (norm f) p := (ended_hand f blank p).symm
theorem settle_norm (f : Feed) : norm (settle f) = settle (norm f) := (settle_hand f blank).symm
theorem ended_congr {f g : Feed} (e : norm f = norm g) (p : Nat) : norm (ended f p) = norm (ended g p) := by rw [ended_norm, ended_norm, e]
theorem settle_congr {f g : Feed} (e : norm f = norm g) : norm (settle f) = norm (settle g) := by rw [settle_norm, settle_norm, e]

theorem write_norm (s : Bytes) : ∀ (f g : Feed), norm f = norm g → (f.next = 0 ∨ f.next = 3 ∨ f.err ≠ 0) → norm (write f s) = norm (write g s) := by
 intro f g e hn
 have hg := hand_of_norm e
 rw [hg]
 generalize g = h
 cases s with
 | nil => rfl
 | cons c s =>
  by_cases he : f.err = 0
  ·have e1 : write f (c :: s) = write (byte f c) s := by simp [write, he]
   have e2 : write (hand f h) (c :: s) = write (byte (hand f h) c) s := by simp [write, show (hand f h).err = f.err from rfl, he]
   rw [e1, e2]
   unfold byte
   have hl : (hand f h).text = f.text := rfl
   have hm : (hand f h).lim = f.lim := rfl
   have hx : (hand f h).next = f.next := rfl
   rw [hl, hm]
   by_cases hb : ((f.text.length : Int) == f.lim.b) = true
   ·rw [if_pos hb, if_pos hb, write_err _ (by simp [wrong]), write_err _ (by simp [wrong])]
    rfl
   ·rw [if_neg hb, if_neg hb]
    simp only [hx]
    rcases hn with hn | hn | hn
    ·have n0 : (f.next == 0) = true := by simpa using hn
     rw [if_pos n0, if_pos n0]
     rfl
    ·have n0 : ¬ (f.next == 0) = true := by simp [hn]
     have n1 : ¬ (f.next == 1) = true := by simp [hn]
     have n2 : ¬ (f.next == 2) = true := by simp [hn]
     rw [if_neg n0, if_neg n1, if_neg n2, if_neg n0, if_neg n1, if_neg n2, write_err _ (by simp [wrong]), write_err _ (by simp [wrong])]
     rfl
    ·exact absurd he hn
  ·rw [write_err _ he, write_err _ (show (hand f h).err ≠ 0 from he)]
   rfl

/-! Where the feed and the reader are -/
structure At (s : Bytes) (lim : Lim) (x : St) (p : Nat) (f : Feed) : Prop where
 fl : f.lim = lim
 text : f.text = s.take p
 ps : p ≤ s.length
 pb : (p : Int) ≤ lim.b
 err : f.err = 0
 xerr : x.err = 0
 taken : x.taken = p
 frames : x.frames = f.stack.length
 ended : x.ended = false
structure Sim (s : Bytes) (lim : Lim) (x : St) (p : Nat) (f : Feed) (k : Nat) : Prop extends At s lim x p f where
 next : f.next = 0
 out : f.out = x.out
 deep : ((f.stack.length + k : Nat) : Int) = lim.d
structure Stuck (s : Bytes) (x : St) (g : Feed) : Prop where
 ended : x.ended = true → g.err = 0 ∧ g.next ≠ 3 ∧ g.text = s ∧ x.err = 9 ∧ x.place = s.length
 told : x.ended = false → g.err = x.err ∧ g.at_ = x.place
 xerr : x.err ≠ 0
 taken : g.text.length = x.taken
 frames : g.stack.length = x.frames
theorem Stuck.norm {s : Bytes} {x : St} {f g : Feed} (h : Stuck s x f) (e : norm f = norm g) : Stuck s x g := by
 rw [hand_of_norm e]
 exact ⟨h.ended, h.told, h.xerr, h.taken, h.frames⟩
theorem At.norm {s : Bytes} {lim : Lim} {x : St} {p : Nat} {f g : Feed} (h : At s lim x p f) (e : norm f = norm g) : At s lim x p g := by
 rw [hand_of_norm e]
 exact ⟨h.fl, h.text, h.ps, h.pb, h.err, h.xerr, h.taken, h.frames, h.ended⟩
theorem Sim.norm {s : Bytes} {lim : Lim} {x : St} {p k : Nat} {f g : Feed} (h : Sim s lim x p f k) (e : norm f = norm g) : Sim s lim x p g k := by
 have h' := h.toAt.norm e
 rw [hand_of_norm e] at h' ⊢
 exact ⟨h', h.next, h.out, h.deep⟩

/-- What byte does with a byte that it may take. -/
def byteOn (f : Feed) (c : UInt8) : Feed :=
 if f.next == 0 then Cf.head f c.toNat
 else if f.next == 1 then argument f c.toNat
 else if f.next == 2 then
  let g := { f with more := f.more - 1 }
  if g.more == 0 then whole g else g
 else wrong f (f.text.length - 1 : Nat) 9
theorem byte_on {f : Feed} (h : ¬ (f.text.length : Int) = f.lim.b) (c : UInt8) : byte f c = byteOn { f with text := f.text ++ [c] } c := by
 unfold byte
 rw [if_neg (by simpa using h)]
 rfl

section
variable {s : Bytes} {lim : Lim} {x y z : St} {p q k : Nat} {f g : Feed}

theorem At.len (h : At s lim x p f) : f.text.length = p := by rw [h.text, List.length_take, Nat.min_eq_left h.ps]
theorem At.stuck_wrong (h : At s lim x p f) (a e : Int) (he : e ≠ 0) (r : Bytes) : Stuck s (fault x a e) (write (wrong f a e) r) := by
 rw [write_err _ (by simpa [wrong] using he)]
 exact ⟨(fun w => by rw [show (fault x a e).ended = x.ended from rfl, h.ended] at w; exact absurd w (by simp)), fun _ => ⟨rfl, rfl⟩, he, by show f.text.length = x.taken; rw [h.len, h.taken], h.frames.symm⟩
theorem want_no (h : At s lim x p f) (hn : f.next ≠ 3) (e : want s lim x p = (false, y)) : Stuck s y (write f (s.drop p)) := by
 have hps := h.ps
 have hpb := h.pb
 unfold want at e
 by_cases h1 : p < s.length ∧ (p : Int) < lim.b
 ·rw [if_pos h1] at e; simp at e
 ·rw [if_neg h1] at e
  by_cases h2 : lim.b < s.length
  ·rw [if_pos h2] at e
   have hp : (p : Int) = lim.b := by omega
   have hlt : p < s.length := by omega
   simp only [Prod.mk.injEq, true_and] at e
   subst e
   rw [write_drop f s p hlt h.err]
   have hb : byte f s[p] = wrong f lim.b 10 := by
    unfold byte
    rw [if_pos (by rw [h.len, h.fl]; simpa using hp), h.fl]
   rw [hb, write_err _ (by simp [wrong])]
   refine ⟨fun w => ?_, fun _ => ⟨rfl, rfl⟩, by simp [fault], ?_, h.frames.symm⟩
   ·rw [show (fault (take x lim.b.toNat) lim.b 10).ended = x.ended from rfl, h.ended] at w; cases w
   ·show f.text.length = max x.taken lim.b.toNat
    rw [h.len, h.taken]; omega
  ·rw [if_neg h2] at e
   have hp : p = s.length := by omega
   simp only [Prod.mk.injEq, true_and] at e
   subst e
   subst hp
   rw [List.drop_length]
   refine ⟨fun _ => ⟨h.err, hn, by rw [show write f [] = f from rfl, h.text, List.take_length], rfl, rfl⟩, fun w => ?_, by simp [fault], ?_, h.frames.symm⟩
   ·cases w
   ·show f.text.length = max x.taken s.length
    rw [h.len, h.taken]; omega
theorem want_yes (h : At s lim x p f) (e : want s lim x p = (true, y)) :
  ∃ hp : p < s.length, (p : Int) < lim.b ∧ y = { x with taken := p + 1 } ∧ At s lim y (p + 1) { f with text := f.text ++ [s[p]] } ∧ write f (s.drop p) = write (byteOn { f with text := f.text ++ [s[p]] } s[p]) (s.drop (p + 1)) ∧ s.getD p 0 = s[p] := by
 unfold want at e
 by_cases h1 : p < s.length ∧ (p : Int) < lim.b
 ·rw [if_pos h1] at e
  obtain ⟨hp, hb⟩ := h1
  simp only [Prod.mk.injEq, true_and] at e
  subst e
  have ey : take x (p + 1) = { x with taken := p + 1 } := by
   unfold take
   rw [h.taken, Nat.max_eq_right (Nat.le_succ p)]
  refine ⟨hp, hb, ey, ?_, ?_, by simp [List.getD, hp]⟩
  ·rw [ey]
   exact ⟨h.fl, by show f.text ++ [s[p]] = s.take (p + 1); rw [h.text, List.take_succ_eq_append_getElem hp], hp, by omega, h.err, h.xerr, rfl, h.frames, h.ended⟩
  ·rw [write_drop f s p hp h.err, byte_on (by rw [h.len, h.fl]; omega)]
 ·rw [if_neg h1] at e
  split at e <;> simp at e

/-- From x at p the reader has come to y at q. -/
structure Moved (s : Bytes) (lim : Lim) (x : St) (p : Nat) (y : St) (q : Nat) : Prop where
 le : p ≤ q
 qs : q ≤ s.length
 qb : (q : Int) ≤ lim.b
 err : y.err = 0
 taken : y.taken = q
 frames : y.frames = x.frames
 ended : y.ended = false
 place : y.place = x.place
theorem Moved.at (h : Moved s lim x p y q) (f : Feed) (hl : f.lim = lim) (ht : f.text = s.take q) (he : f.err = 0) (hf : x.frames = f.stack.length) : At s lim y q f :=
 ⟨hl, ht, h.qs, h.qb, he, h.err, h.taken, h.frames.trans hf, h.ended⟩
theorem Moved.trans (h : Moved s lim x p y q) {r : Nat} (k : Moved s lim y q z r) : Moved s lim x p z r :=
 ⟨Nat.le_trans h.le k.le, k.qs, k.qb, k.err, k.taken, k.frames.trans h.frames, k.ended, k.place.trans h.place⟩
/-! Arguments -/
theorem beBytes_len (n w : Nat) : (beBytes n w).length = w := by
 induction w with
 | zero => rfl
 | succ w ih => simp [beBytes, ih]
theorem headB_len (k n a : Nat) (h1 : 24 ≤ a) (h2 : a ≤ 27) (hn : n < 256 ^ (2 ^ (a - 24))) : (headB k n).length = 2 ^ (a - 24) + 1 ↔ ¬ n < least a := by
 have ha : a = 24 ∨ a = 25 ∨ a = 26 ∨ a = 27 := by omega
 unfold headB infoOf least
 rcases ha with rfl | rfl | rfl | rfl <;> (simp at hn ⊢; (repeat' split) <;> simp [beBytes_len] <;> omega)

theorem arg_sim : ∀ (m : Nat) (x : St) (p : Nat) (f : Feed), At s lim x p f → f.next = 1 → f.more = m + 1 → 24 ≤ f.info → f.info ≤ 27 → f.more ≤ 2 ^ (f.info - 24) → f.num < 256 ^ (2 ^ (f.info - 24) - f.more) →
  match argN s lim (m + 1) x p f.num with
  | (some n, y) => Moved s lim x p y (p + m + 1) ∧ y.out = x.out ∧ n < 256 ^ (2 ^ (f.info - 24)) ∧
    write f (s.drop p) = write (let g := { f with text := s.take (p + m + 1), num := n, more := 0 }; if n < least f.info then wrong g f.hat 9 else known g) (s.drop (p + m + 1))
  | (none, y) => Stuck s y (write f (s.drop p)) := by
 intro m
 induction m with
 | zero =>
  intro x p f h hn hm i1 i2 hle hnum
  unfold argN
  cases hw : want s lim x p with
  | mk b y =>
   cases b
   ·exact want_no h (by omega) hw
   ·obtain ⟨hp, hb, ey, hat, hwr, hget⟩ := want_yes h hw
    simp only [argN]
    have hc := s[p].toNat_lt
    have hst := arg_step (by omega) hle hnum hc
    rw [hm] at hst
    rw [hget]
    refine ⟨⟨by omega, hat.ps, hat.pb, hat.xerr, hat.taken, by rw [ey], by rw [ey]; exact h.ended, by rw [ey]⟩, by rw [ey], by simpa using hst, ?_⟩
    rw [hwr]
    unfold byteOn
    simp only [hn]
    rw [if_neg (by simp), if_pos (by simp)]
    unfold argument
    simp only [hm]
    rw [if_neg (by omega), ← hat.text]
 | succ m ih =>
  intro x p f h hn hm i1 i2 hle hnum
  unfold argN
  cases hw : want s lim x p with
  | mk b y =>
   cases b
   ·exact want_no h (by omega) hw
   ·obtain ⟨hp, hb, ey, hat, hwr, hget⟩ := want_yes h hw
    simp only
    have hc := s[p].toNat_lt
    have hst := arg_step (by omega) hle hnum hc
    rw [hget]
    have hby : byteOn { f with text := f.text ++ [s[p]] } s[p] = { f with text := f.text ++ [s[p]], num := f.num * 256 + s[p].toNat, more := f.more - 1 } := by
     unfold byteOn
     simp only [hn]
     rw [if_neg (by simp), if_pos (by simp)]
     unfold argument
     simp only
     rw [if_pos (by omega)]
    rw [hby] at hwr
    have hat' : At s lim y (p + 1) { f with text := f.text ++ [s[p]], num := f.num * 256 + s[p].toNat, more := f.more - 1 } := ⟨hat.fl, hat.text, hat.ps, hat.pb, hat.err, hat.xerr, hat.taken, hat.frames, hat.ended⟩
    have := ih y (p + 1) { f with text := f.text ++ [s[p]], num := f.num * 256 + s[p].toNat, more := f.more - 1 } hat' hn (by show f.more - 1 = m + 1; omega) i1 i2 (show f.more - 1 ≤ 2 ^ (f.info - 24) by omega) hst
    simp only at this
    have ep : p + 1 + m + 1 = p + (m + 1) + 1 := by omega
    rw [ep] at this
    cases ha : argN s lim (m + 1) y (p + 1) (f.num * 256 + s[p].toNat) with
    | mk o z =>
     rw [ha] at this
     cases o with
     | none =>
      simp only at this ⊢
      rw [hwr]; exact this
     | some n =>
      simp only at this ⊢
      obtain ⟨t1, t2, t3, t4⟩ := this
      have hmv : Moved s lim x p y (p + 1) := ⟨by omega, hat.ps, hat.pb, hat.xerr, hat.taken, by rw [ey], by rw [ey]; exact h.ended, by rw [ey]⟩
      refine ⟨hmv.trans t1, by rw [t2, ey], t3, ?_⟩
      rw [hwr, t4]

/-- Behind a head: the feed goes on as 'known' says. -/
theorem head_sim (h : At s lim x p f) (h0 : f.next = 0) (ho : f.out = x.out) (hol : (x.out.length : Int) ≤ lim.i) :
  match R7.head s lim x p with
  | (some (k, n, q), y) => Moved s lim x p y q ∧ p < q ∧ y.out = x.out ∧ n < 18446744073709551616 ∧ k < 8 ∧ ((x.out.length : Int) < lim.i) ∧
    ∃ i m v, write f (s.drop p) = write (known { f with text := s.take q, kind := (k : Nat), hat := p, info := i, num := n, more := m, next := v }) (s.drop q)
  | (none, y) => Stuck s y (write f (s.drop p)) := by
 unfold R7.head
 cases hw : want s lim x p with
 | mk b y =>
  cases b
  ·exact want_no h (by omega) hw
  ·obtain ⟨hp, hb, ey, hat, hwr, hget⟩ := want_yes h hw
   have hyo : y.out = x.out := by rw [ey]
   have hc := s[p].toNat_lt
   have hmv : Moved s lim x p y (p + 1) := ⟨by omega, hat.ps, hat.pb, hat.xerr, hat.taken, by rw [ey], by rw [ey]; exact h.ended, by rw [ey]⟩
   have hby : byteOn { f with text := f.text ++ [s[p]] } s[p] = headOn { f with text := f.text ++ [s[p]], kind := (s[p].toNat / 32 : Nat), hat := p, info := s[p].toNat % 32, num := 0, more := 0 } p (s[p].toNat / 32) (s[p].toNat % 32) := by
    unfold byteOn
    simp only [h0]
    rw [if_pos (by simp)]
    unfold Cf.head
    have e : (f.text ++ [s[p]]).length - 1 = p := by simp [h.len]
    simp only [e]
   rw [hwr, hby]
   simp only
   rw [hget]
   unfold headOn
   simp only
   have hall : ∀ hk i n m, At s lim y (p + 1) { f with text := f.text ++ [s[p]], kind := hk, hat := p, info := i, num := n, more := m } := fun hk i n m => ⟨hat.fl, hat.text, hat.ps, hat.pb, hat.err, hat.xerr, hat.taken, hat.frames, hat.ended⟩
   by_cases hi : lim.i ≤ y.out.length
   ·rw [if_pos hi, if_pos (show ((f.out.length : Int) == f.lim.i) = true by rw [ho, h.fl]; rw [hyo] at hi; simp; omega)]
    exact (hall _ _ _ _).stuck_wrong p 10 (by omega) _
   ·rw [if_neg hi, if_neg (show ¬ ((f.out.length : Int) == f.lim.i) = true by rw [ho, h.fl]; rw [hyo] at hi; simp; omega)]
    by_cases h27 : 27 < s[p].toNat % 32
    ·rw [if_pos h27, if_pos h27]
     exact (hall _ _ _ _).stuck_wrong p 9 (by omega) _
    ·rw [if_neg h27, if_neg h27]
     by_cases h7 : (s[p].toNat / 32 == 7 && (decide (s[p].toNat % 32 < 20) || decide (23 < s[p].toNat % 32))) = true
     ·rw [if_pos h7, if_pos h7]
      exact (hall _ _ _ _).stuck_wrong p 11 (by omega) _
     ·rw [if_neg h7, if_neg h7]
      by_cases h24 : s[p].toNat % 32 < 24
      ·rw [if_pos h24, if_pos h24]
       refine ⟨hmv, by omega, hyo, by omega, by omega, by rw [hyo] at hi; omega, s[p].toNat % 32, 0, f.next, ?_⟩
       rw [← hat.text]
      ·rw [if_neg h24, if_neg h24]
       obtain ⟨m, hm⟩ : ∃ m, 2 ^ (s[p].toNat % 32 - 24) = m + 1 := ⟨2 ^ (s[p].toNat % 32 - 24) - 1, by have := Nat.one_le_two_pow (n := s[p].toNat % 32 - 24); omega⟩
       have := arg_sim m y (p + 1) { f with text := f.text ++ [s[p]], kind := (s[p].toNat / 32 : Nat), hat := p, info := s[p].toNat % 32, num := 0, more := 2 ^ (s[p].toNat % 32 - 24), next := 1 }
        ⟨hat.fl, hat.text, hat.ps, hat.pb, hat.err, hat.xerr, hat.taken, hat.frames, hat.ended⟩ rfl hm (by show 24 ≤ s[p].toNat % 32; omega) (by show s[p].toNat % 32 ≤ 27; omega) (Nat.le_refl _) (by simp)
       simp only at this
       rw [hm]
       rw [hm] at this
       cases ha : argN s lim (m + 1) y (p + 1) 0 with
       | mk o z =>
        rw [ha] at this
        cases o with
        | none => simpa using this
        | some n =>
         simp only at this ⊢
         obtain ⟨t1, t2, t3, t4⟩ := this
         have hl := headB_len (s[p].toNat / 32) n (s[p].toNat % 32) (by omega) (by omega) (by rw [hm]; exact t3)
         rw [hm] at hl
         have ep : p + 1 + m + 1 = p + 1 + (m + 1) := by omega
         rw [ep] at t1 t4
         by_cases hlt : n < least (s[p].toNat % 32)
         ·rw [if_neg (fun e => hl.1 e hlt)]
          rw [if_pos hlt] at t4
          simp only
          rw [t4]
          exact (t1.at { f with text := s.take (p + 1 + (m + 1)), kind := (s[p].toNat / 32 : Nat), hat := p, info := s[p].toNat % 32, num := n, more := 0, next := 1 } hat.fl rfl hat.err (by rw [ey]; exact h.frames)).stuck_wrong p 9 (by omega) _
         ·rw [if_pos (hl.2 hlt)]
          rw [if_neg hlt] at t4
          simp only
          refine ⟨hmv.trans t1, by omega, t2.trans hyo, Nat.lt_of_lt_of_le t3 (pow256_le _ (by have := two_pow_le (s[p].toNat % 32) (by omega); omega)), by omega, by rw [hyo] at hi; omega, s[p].toNat % 32, 0, 1, ?_⟩
          rw [t4]
end
end Go.Px.R7

/-! The feed, byte by byte, does what the reference's reader does: items, lists and pairs of them, and the whole (plain law). No program is named here. -/
namespace Go.Px.R7
open Cf

section
variable {s : Bytes} {lim : Lim} {x y z : St} {p q k : Nat} {f g : Feed}

/-! Bytes and texts -/
theorem text_sim : ∀ (m : Nat) (x : St) (p : Nat) (f : Feed), At s lim x p f → f.next = 2 → f.more = m + 1 →
  match wantN s lim (m + 1) x p with
  | (true, y) => Moved s lim x p y (p + m + 1) ∧ y.out = x.out ∧ write f (s.drop p) = write (whole { f with text := s.take (p + m + 1), more := 0 }) (s.drop (p + m + 1))
  | (false, y) => Stuck s y (write f (s.drop p)) := by
 intro m
 induction m with
 | zero =>
  intro x p f h hn hm
  unfold wantN
  cases hw : want s lim x p with
  | mk b y =>
   cases b
   ·exact want_no h (by omega) hw
   ·obtain ⟨hp, hb, ey, hat, hwr, hget⟩ := want_yes h hw
    simp only [wantN]
    refine ⟨⟨by omega, hat.ps, hat.pb, hat.xerr, hat.taken, by rw [ey], by rw [ey]; exact h.ended, by rw [ey]⟩, by rw [ey], ?_⟩
    rw [hwr]
    unfold byteOn
    simp only [hn, hm]
    rw [if_neg (by simp), if_neg (by simp), if_pos (by simp), if_pos (by simp), ← hat.text]
 | succ m ih =>
  intro x p f h hn hm
  unfold wantN
  cases hw : want s lim x p with
  | mk b y =>
   cases b
   ·exact want_no h (by omega) hw
   ·obtain ⟨hp, hb, ey, hat, hwr, hget⟩ := want_yes h hw
    simp only
    have hby : byteOn { f with text := f.text ++ [s[p]] } s[p] = { f with text := f.text ++ [s[p]], more := f.more - 1 } := by
     unfold byteOn
     simp only [hn]
     rw [if_neg (by simp), if_neg (by simp), if_pos (by simp), if_neg (by simp; omega)]
    rw [hby] at hwr
    have hat' : At s lim y (p + 1) { f with text := f.text ++ [s[p]], more := f.more - 1 } := ⟨hat.fl, hat.text, hat.ps, hat.pb, hat.err, hat.xerr, hat.taken, hat.frames, hat.ended⟩
    have := ih y (p + 1) { f with text := f.text ++ [s[p]], more := f.more - 1 } hat' hn (by show f.more - 1 = m + 1; omega)
    have ep : p + 1 + m + 1 = p + (m + 1) + 1 := by omega
    rw [ep] at this
    cases ha : wantN s lim (m + 1) y (p + 1) with
    | mk o z =>
     rw [ha] at this
     cases o with
     | false =>
      simp only at this ⊢
      rw [hwr]; exact this
     | true =>
      simp only at this ⊢
      obtain ⟨t1, t2, t4⟩ := this
      have hmv : Moved s lim x p y (p + 1) := ⟨by omega, hat.ps, hat.pb, hat.xerr, hat.taken, by rw [ey], by rw [ey]; exact h.ended, by rw [ey]⟩
      exact ⟨hmv.trans t1, by rw [t2, ey], by rw [hwr, t4]⟩

/-- An item ended at its place p; now the reader is at q. -/
def Item (s : Bytes) (lim : Lim) (x : St) (p : Nat) (f : Feed) (r : Option Nat × St) : Prop :=
 match r with
 | (some q, y) => Moved s lim x p y q ∧ x.out.length < y.out.length ∧ (y.out.length : Int) ≤ lim.i ∧ p < q ∧ ∃ g v, write f (s.drop p) = write g (s.drop q) ∧ norm g = norm (ended { f with text := s.take q, out := y.out, next := v } p)
 | (none, y) => Stuck s y (write f (s.drop p))

theorem textN_sim {n p0 i : Nat} (hx : Moved s lim x p0 y p) (hp : p0 < p) (hf : x.frames = f.stack.length) (hfl : f.lim = lim) (hfe : f.err = 0) (ho : f.out = x.out) (hyo : y.out = x.out) (hol : (x.out.length : Int) < lim.i) (m : Nat) (v : Int) (hk : k = 2 ∨ k = 3)
  (hw : write f (s.drop p0) = write (known { f with text := s.take p, kind := (k : Nat), hat := p0, info := i, num := n, more := m, next := v }) (s.drop p)) :
  Item s lim x p0 f (textN s lim k n y p0 p) := by
 have hkn : known { f with text := s.take p, kind := (k : Nat), hat := p0, info := i, num := n, more := m, next := v } = (if n == 0 then whole { f with text := s.take p, kind := (k : Nat), hat := p0, info := i, num := n, more := n, next := 2 } else { f with text := s.take p, kind := (k : Nat), hat := p0, info := i, num := n, more := n, next := 2 }) := by
  unfold known
  rw [if_pos (by simp; omega)]
 rw [hkn] at hw
 have key : ∀ z, Moved s lim x p0 z (p + n) → z.out = x.out → write f (s.drop p0) = write (whole { f with text := s.take (p + n), kind := (k : Nat), hat := p0, info := i, num := n, more := 0, next := 2 }) (s.drop (p + n)) →
   Item s lim x p0 f (let t := (s.take (p + n)).drop p
    if k == 3 && !Lib.validD t then (none, fault z p0 9) else (some (p + n), { z with out := z.out ++ [⟨k, 0, t⟩] })) := by
  intro z hz hzo hwz
  have hlen : (s.take (p + n)).length - n = p := by rw [List.length_take, Nat.min_eq_left hz.qs]; omega
  unfold whole at hwz
  simp only at hwz ⊢
  rw [hlen] at hwz
  have hk3 : ((k : Int) == 3) = (k == 3) := by
   rcases hk with rfl | rfl <;> rfl
  rw [hk3] at hwz
  by_cases hv : (k == 3 && !Lib.validD ((s.take (p + n)).drop p)) = true
  ·rw [if_pos hv] at hwz ⊢
   show Stuck _ _ _
   rw [hwz]
   exact (hz.at { f with text := s.take (p + n), kind := (k : Nat), hat := p0, info := i, num := n, more := 0, next := 2 } hfl rfl hfe hf).stuck_wrong p0 9 (by omega) _
  ·rw [if_neg hv] at hwz ⊢
   refine ⟨⟨hz.le, hz.qs, hz.qb, hz.err, hz.taken, hz.frames, hz.ended, hz.place⟩, by simp [hzo], by simp [hzo]; omega, by omega, _, 2, hwz, ?_⟩
   refine ended_congr ?_ p0
   simp [norm, hand, ho, hzo]
 unfold textN
 by_cases h0 : n = 0
 ·subst h0
  rw [if_pos (by simp)] at hw
  simp only [wantN]
  exact key y hx hyo hw
 ·rw [if_neg (by simpa using h0)] at hw
  obtain ⟨j, rfl⟩ : ∃ j, n = j + 1 := ⟨n - 1, by omega⟩
  have := text_sim j y p { f with text := s.take p, kind := (k : Nat), hat := p0, info := i, num := j + 1, more := j + 1, next := 2 } (hx.at _ hfl rfl hfe hf) rfl rfl
  cases ha : wantN s lim (j + 1) y p with
  | mk o z =>
   rw [ha] at this
   cases o with
   | false =>
    simp only at this ⊢
    show Stuck _ _ _
    rw [hw]; exact this
   | true =>
    simp only at this
    obtain ⟨t1, t2, t3⟩ := this
    exact key z (hx.trans t1) (t2.trans hyo) (hw.trans t3)

/-- The feed's state where its innermost one is y, at a place. -/
def base (s : Bytes) (f0 : Feed) (at_ : Nat) (o : List Atom) (st : List Fm) : Feed := { f0 with text := s.take at_, out := o, stack := st }
def Items (s : Bytes) (lim : Lim) (x : St) (at_ : Nat) (f : Feed) (c : Nat) (E : Nat → List Atom → Feed) (r : Option Nat × St) : Prop :=
 match r with
 | (some q, y) => Moved s lim x at_ y q ∧ x.out.length + c ≤ y.out.length ∧ (y.out.length : Int) ≤ lim.i ∧ ∃ g, write f (s.drop at_) = write g (s.drop q) ∧ norm g = norm (E q y.out)
 | (none, y) => Stuck s y (write f (s.drop at_))

theorem settle_pos {f : Feed} {x : Fm} {st : List Fm} (hs : f.stack = x :: st) (hl : 0 < x.left) : settle f = { f with next := 0 } := by
 unfold settle
 rw [hs]
 simp only [List.length_cons]
 unfold settleN
 simp only
 rw [if_pos hl]
theorem ended_plain {f : Feed} {x : Fm} {st : List Fm} (hs : f.stack = x :: st) (hk : isKey x = false) (p : Nat) : ended f p = settle { f with stack := countedTop x :: st } := by
 unfold ended counted
 rw [hs]
 simp only [hk]
 rfl

theorem settle_zero {f : Feed} {x : Fm} {st : List Fm} (hs : f.stack = x :: st) (hl : x.left = 0) : settle f = ended { f with stack := st, next := 0 } x.at_ := by
 unfold settle
 rw [hs]
 simp only [List.length_cons]
 unfold settleN
 simp only
 rw [if_neg (by omega)]
 unfold ended
 have h1 := counted_len { f with stack := st, next := 0 } x.at_
 have h2 := counted_next { f with stack := st, next := 0 } x.at_
 cases hc : Cf.counted { f with stack := st, next := 0 } x.at_ with
 | mk cb g =>
  rw [hc] at h1 h2
  cases cb
  ·rfl
  ·simp only at h1 h2 ⊢
   unfold settle
   rw [h1]
   congr 1
   rw [← h2]
theorem ended_key {f : Feed} {x : Fm} {st : List Fm} (hs : f.stack = x :: st) (hk : isKey x = true) (p : Nat) :
  ended f p = if x.any && leB (f.text.drop p) x.key then wrong f p 9 else settle { f with stack := countedKey x (f.text.drop p) :: st } := by
 unfold ended counted
 rw [hs]
 simp only [hk]
 by_cases h : (x.any && leB (f.text.drop p) x.key) = true
 ·rw [if_pos h]; simp only [h]; rfl
 ·rw [if_neg h]; simp only [h]; rfl

theorem items_sim (rc : St → Nat → Option Nat × St) (d : Nat) (hrc : ∀ x p f, Sim s lim x p f d → (x.out.length : Int) ≤ lim.i → Item s lim x p f (rc x p)) (f0 : Feed) (hl0 : f0.lim = lim) (he0 : f0.err = 0) (y : Fm) (st : List Fm) (hy : y.kind ≠ 5) (hd : ((st.length + 1 + d : Nat) : Int) = lim.d) :
  ∀ (m : Nat) (x : St) (at_ : Nat) (f : Feed), at_ ≤ s.length → (at_ : Int) ≤ lim.b → x.err = 0 → x.taken = at_ → x.frames = st.length + 1 → x.ended = false → (x.out.length : Int) ≤ lim.i →
   norm f = norm (settle (base s f0 at_ x.out ({ y with left := m } :: st))) →
   Items s lim x at_ f m (fun q o => ended { base s f0 q o st with next := 0 } y.at_) (itemsN rc m x at_) := by
 intro m
 induction m with
 | zero =>
  intro x at_ f h1 h2 h3 h4 h5 h6 h7 hn
  rw [settle_zero (x := { y with left := 0 }) rfl rfl] at hn
  exact ⟨⟨Nat.le_refl _, h1, h2, h3, h4, rfl, h6, rfl⟩, Nat.le_refl _, h7, f, rfl, hn⟩
 | succ m ih =>
  intro x at_ f h1 h2 h3 h4 h5 h6 h7 hn
  rw [settle_pos (x := { y with left := m + 1 }) rfl (Nat.succ_pos m)] at hn
  have hsim : Sim s lim x at_ { base s f0 at_ x.out ({ y with left := m + 1 } :: st) with next := 0 } d := ⟨⟨hl0, rfl, h1, h2, he0, h3, h4, h5, h6⟩, rfl, rfl, hd⟩
  have hi := hrc x at_ f (hsim.norm hn.symm) h7
  unfold itemsN
  cases hr : rc x at_ with
  | mk o z =>
   rw [hr] at hi
   cases o with
   | none => exact hi
   | some q =>
    simp only
    obtain ⟨i1, i2, i3, i4, g, v, i5, i6⟩ := hi
    have hg : norm g = norm (settle (base s f0 q z.out ({ y with left := m } :: st))) := by
     rw [i6]
     have e : norm { f with text := s.take q, out := z.out, next := v } = norm { base s f0 q z.out ({ y with left := m + 1 } :: st) with next := v } := by
      rw [hand_of_norm hn.symm]
      rfl
     rw [ended_congr e, ended_plain (x := { y with left := m + 1 }) rfl (by unfold isKey; simp [hy])]
     rfl
    have := ih z q g i1.qs i1.qb i1.err i1.taken (i1.frames.trans h5) i1.ended i3 hg
    cases hr2 : itemsN rc m z q with
    | mk o2 z2 =>
     rw [hr2] at this
     cases o2 with
     | none =>
      show Stuck _ _ _
      rw [i5]; exact this
     | some r =>
      obtain ⟨j1, j2, j3, g2, j5, j6⟩ := this
      exact ⟨i1.trans j1, by omega, j3, g2, i5.trans j5, j6⟩

/-- A list's key so far. -/
def keyFm (y : Fm) (left : Nat) (last : Option Bytes) : Fm := { y with left := left, key := last.getD [], any := last.isSome }

theorem pairs_sim (rc : St → Nat → Option Nat × St) (d : Nat) (hrc : ∀ x p f, Sim s lim x p f d → (x.out.length : Int) ≤ lim.i → Item s lim x p f (rc x p)) (f0 : Feed) (hl0 : f0.lim = lim) (he0 : f0.err = 0) (y : Fm) (st : List Fm) (hy : y.kind = 5) (hd : ((st.length + 1 + d : Nat) : Int) = lim.d) :
  ∀ (m : Nat) (last : Option Bytes) (x : St) (at_ : Nat) (f : Feed), at_ ≤ s.length → (at_ : Int) ≤ lim.b → x.err = 0 → x.taken = at_ → x.frames = st.length + 1 → x.ended = false → (x.out.length : Int) ≤ lim.i →
   norm f = norm (settle (base s f0 at_ x.out (keyFm y (2 * m) last :: st))) →
   Items s lim x at_ f m (fun q o => ended { base s f0 q o st with next := 0 } y.at_) (pairsN s rc m last x at_) := by
 intro m
 induction m with
 | zero =>
  intro last x at_ f h1 h2 h3 h4 h5 h6 h7 hn
  rw [settle_zero (x := keyFm y (2 * 0) last) rfl rfl] at hn
  exact ⟨⟨Nat.le_refl _, h1, h2, h3, h4, rfl, h6, rfl⟩, Nat.le_refl _, h7, f, rfl, hn⟩
 | succ m ih =>
  intro last x at_ f h1 h2 h3 h4 h5 h6 h7 hn
  rw [settle_pos (x := keyFm y (2 * (m + 1)) last) rfl (by show 0 < 2 * (m + 1); omega)] at hn
  have hsim : Sim s lim x at_ { base s f0 at_ x.out (keyFm y (2 * (m + 1)) last :: st) with next := 0 } d := ⟨⟨hl0, rfl, h1, h2, he0, h3, h4, h5, h6⟩, rfl, rfl, hd⟩
  have hi := hrc x at_ f (hsim.norm hn.symm) h7
  unfold pairsN
  cases hr : rc x at_ with
  | mk o z =>
   rw [hr] at hi
   cases o with
   | none => exact hi
   | some q =>
    simp only
    obtain ⟨i1, i2, i3, i4, g, v, i5, i6⟩ := hi
    have e : norm { f with text := s.take q, out := z.out, next := v } = norm { base s f0 q z.out (keyFm y (2 * (m + 1)) last :: st) with next := v } := by
     rw [hand_of_norm hn.symm]
     rfl
    rw [ended_congr e, ended_key (x := keyFm y (2 * (m + 1)) last) rfl (by unfold isKey; simp [keyFm, hy])] at i6
    have i6 : norm g = norm (if ((keyFm y (2 * (m + 1)) last).any && leB ((s.take q).drop at_) (keyFm y (2 * (m + 1)) last).key) = true then wrong { base s f0 q z.out (keyFm y (2 * (m + 1)) last :: st) with next := v } at_ 9
      else settle { base s f0 q z.out (countedKey (keyFm y (2 * (m + 1)) last) ((s.take q).drop at_) :: st) with next := v }) := i6
    have hany : (last.any fun l => leB ((s.take q).drop at_) l) = ((keyFm y (2 * (m + 1)) last).any && leB ((s.take q).drop at_) (keyFm y (2 * (m + 1)) last).key) := by
     cases last <;> simp [keyFm]
    rw [hany]
    by_cases hb : ((keyFm y (2 * (m + 1)) last).any && leB ((s.take q).drop at_) (keyFm y (2 * (m + 1)) last).key) = true
    ·rw [if_pos hb]
     rw [if_pos hb] at i6
     show Stuck _ _ _
     rw [i5]
     have hat : At s lim z q { base s f0 q z.out (keyFm y (2 * (m + 1)) last :: st) with next := v } := i1.at _ hl0 rfl he0 h5
     exact (hat.stuck_wrong at_ 9 (by omega) (s.drop q)).norm (write_norm _ _ _ i6.symm (.inr (.inr (by simp [wrong]))))
    ·rw [if_neg hb]
     rw [if_neg hb] at i6
     have i7 : norm g = norm { base s f0 q z.out (keyFm y (2 * m + 1) (some ((s.take q).drop at_)) :: st) with next := 0 } := by
      rw [i6, settle_pos (x := countedKey (keyFm y (2 * (m + 1)) last) ((s.take q).drop at_)) rfl (by show 0 < 2 * (m + 1) - 1; omega)]
      rfl
     have hsim2 : Sim s lim z q { base s f0 q z.out (keyFm y (2 * m + 1) (some ((s.take q).drop at_)) :: st) with next := 0 } d :=
      ⟨⟨hl0, rfl, i1.qs, i1.qb, he0, i1.err, i1.taken, i1.frames.trans h5, i1.ended⟩, rfl, rfl, hd⟩
     have hj := hrc z q g (hsim2.norm i7.symm) i3
     cases hr2 : rc z q with
     | mk o2 z2 =>
      rw [hr2] at hj
      cases o2 with
      | none =>
       show Stuck _ _ _
       rw [i5]; exact hj
      | some r =>
       simp only
       obtain ⟨j1, j2, j3, j4, g2, v2, j5, j6⟩ := hj
       have e2 : norm { g with text := s.take r, out := z2.out, next := v2 } = norm { base s f0 r z2.out (keyFm y (2 * m + 1) (some ((s.take q).drop at_)) :: st) with next := v2 } := by
        rw [hand_of_norm i7.symm]
        rfl
       have hg : norm g2 = norm (settle (base s f0 r z2.out (keyFm y (2 * m) (some ((s.take q).drop at_)) :: st))) := by
        rw [j6, ended_congr e2, ended_plain (x := keyFm y (2 * m + 1) (some ((s.take q).drop at_))) rfl (by unfold isKey; simp [keyFm])]
        rfl
       have := ih (some ((s.take q).drop at_)) z2 r g2 j1.qs j1.qb j1.err j1.taken (j1.frames.trans (i1.frames.trans h5)) j1.ended j3 hg
       cases hr3 : pairsN s rc m (some ((s.take q).drop at_)) z2 r with
       | mk o3 z3 =>
        rw [hr3] at this
        cases o3 with
        | none =>
         show Stuck _ _ _
         rw [i5, j5]; exact this
        | some t =>
         obtain ⟨k1, k2, k3, g3, k5, k6⟩ := this
         exact ⟨(i1.trans j1).trans k1, by omega, k3, g3, (i5.trans j5).trans k5, k6⟩

/-! So many pairs that the reader never comes to their end -/
theorem pairsN_more (rc : St → Nat → Option Nat × St) : ∀ (m j : Nat) (last : Option Bytes) (x : St) (p : Nat) (y : St), pairsN s rc m last x p = (none, y) → pairsN s rc (m + j) last x p = (none, y) := by
 intro m
 induction m with
 | zero => intro j last x p y h; unfold pairsN at h; simp at h
 | succ m ih =>
  intro j last x p y h
  rw [show m + 1 + j = (m + j) + 1 by omega]
  unfold pairsN at h ⊢
  cases hr : rc x p with
  | mk o z =>
   rw [hr] at h
   cases o with
   | none => exact h
   | some q =>
    simp only at h ⊢
    split
    ·rename_i hc; rw [if_pos hc] at h; exact h
    ·rename_i hc; rw [if_neg hc] at h
     cases hr2 : rc z q with
     | mk o2 z2 =>
      rw [hr2] at h
      cases o2 with
      | none => exact h
      | some r => exact ih j _ z2 r y h

/-! An item; the whole -/
theorem hold_fin {k n : Nat} {F f : Feed} {p q c : Nat} {rc : St → Nat → Option Nat × St} (hmv : Moved s lim x p y q) (hyo : y.out = x.out) (hpq : p < q) (hw : write f (s.drop p) = write F (s.drop q)) (r : Option Nat × St)
  (hi : Items s lim { y with out := y.out ++ [⟨k, n, []⟩], frames := y.frames + 1 } q F c (fun q o => ended { base s f q o f.stack with next := 0 } p) r)
  (hr : (if k == 4 then itemsN rc n { y with out := y.out ++ [⟨k, n, []⟩], frames := y.frames + 1 } q else if k == 5 then pairsN s rc n none { y with out := y.out ++ [⟨k, n, []⟩], frames := y.frames + 1 } q else rc { y with out := y.out ++ [⟨k, n, []⟩], frames := y.frames + 1 } q) = r) :
  Item s lim x p f (holdN s rc k n y q) := by
 unfold holdN
 simp only [hr]
 obtain ⟨o, z⟩ := r
 cases o with
 | none =>
  show Stuck _ _ _
  rw [hw]; exact hi
 | some t =>
  obtain ⟨j1, j2, j3, g, j5, j6⟩ := hi
  have hf : z.frames - 1 = x.frames := by rw [j1.frames]; show y.frames + 1 - 1 = x.frames; rw [hmv.frames]; omega
  refine ⟨⟨Nat.le_trans hmv.le j1.le, j1.qs, j1.qb, j1.err, j1.taken, hf, j1.ended, j1.place.trans hmv.place⟩, ?_, j3, ?_, g, 0, hw.trans j5, j6⟩
  ·simp only [hyo, List.length_append, List.length_singleton] at j2
   show x.out.length < z.out.length
   omega
  ·have := j1.le; omega
theorem itemsN_one (rc : St → Nat → Option Nat × St) (x : St) (p : Nat) : itemsN rc 1 x p = rc x p := by
 unfold itemsN
 cases h : rc x p with
 | mk o y => cases o <;> rfl
theorem item_sim (hm : lim.may = true) : ∀ (d : Nat) (x : St) (p : Nat) (f : Feed), Sim s lim x p f d → (x.out.length : Int) ≤ lim.i → Item s lim x p f (item s lim d x p) := by
 have hmay := may_of hm
 have plain : ∀ (d : Nat) (x : St) (p : Nat) (f : Feed) (kk n q : Nat) (y : St) (i m : Nat) (v : Int), Sim s lim x p f d → Moved s lim x p y q → p < q → y.out = x.out → (x.out.length : Int) < lim.i → kk < 8 → ¬ (kk == 2 || kk == 3) = true → ¬ (kk == 4 || kk == 5 || kk == 6) = true →
   write f (s.drop p) = write (known { f with text := s.take q, kind := (kk : Nat), hat := p, info := i, num := n, more := m, next := v }) (s.drop q) →
   Item s lim x p f (some q, { y with out := y.out ++ [⟨kk, n, []⟩] }) := by
  intro d x p f kk n q y i m v h hmv hpq hyo hlt h8 h23 h456 hw
  simp only [Bool.or_eq_true, beq_iff_eq, not_or] at h23 h456
  have hkn : known { f with text := s.take q, kind := (kk : Nat), hat := p, info := i, num := n, more := m, next := v } = ended { f with text := s.take q, kind := (kk : Nat), hat := p, info := i, num := n, more := m, next := v, out := f.out ++ [⟨kk, n, []⟩] } p := by
   unfold known
   rw [if_neg (by simp; omega), if_neg (by simp; omega), if_neg (by simp; omega), if_neg (by simp; omega)]
  rw [hkn] at hw
  refine ⟨⟨hmv.le, hmv.qs, hmv.qb, hmv.err, hmv.taken, hmv.frames, hmv.ended, hmv.place⟩, by simp [hyo], by simp [hyo]; omega, hpq, _, v, hw, ?_⟩
  refine ended_congr ?_ p
  simp [norm, hand, h.out, hyo]
 intro d
 induction d with
 | zero =>
  intro x p f h hol
  unfold item
  have hh := head_sim h.toAt h.next h.out hol
  cases hr : R7.head s lim x p with
  | mk o y =>
   rw [hr] at hh
   cases o with
   | none => exact hh
   | some t =>
    obtain ⟨kk, n, q⟩ := t
    simp only at hh ⊢
    obtain ⟨hmv, hpq, hyo, hn, h8, hlt, i, m, v, hw⟩ := hh
    by_cases h23 : (kk == 2 || kk == 3) = true
    ·rw [if_pos h23]
     exact textN_sim hmv hpq h.frames h.fl h.err h.out hyo hlt m v (by simpa using h23) hw
    ·rw [if_neg h23]
     by_cases h456 : (kk == 4 || kk == 5 || kk == 6) = true
     ·rw [if_pos h456]
      have hdeep : ((f.stack.length : Int) == f.lim.d) = true := by
       have := h.deep
       rw [h.fl]
       simpa using this
      have hop : ∀ N, opens { f with text := s.take q, kind := (kk : Nat), hat := p, info := i, num := n, more := m, next := v } N = wrong { f with text := s.take q, kind := (kk : Nat), hat := p, info := i, num := n, more := m, next := v } p 10 := fun N => by
       unfold opens
       exact if_pos hdeep
      have hkn : known { f with text := s.take q, kind := (kk : Nat), hat := p, info := i, num := n, more := m, next := v } = wrong { f with text := s.take q, kind := (kk : Nat), hat := p, info := i, num := n, more := m, next := v } p 10 := by
       simp only [Bool.or_eq_true, beq_iff_eq, not_or] at h23 h456
       unfold known
       rw [if_neg (by simp; omega)]
       rcases h456 with (rfl | rfl) | rfl
       ·rw [if_pos (by simp), hop]
       ·rw [if_neg (by simp), if_pos (by simp), hop]
       ·rw [if_neg (by simp), if_neg (by simp), if_pos (by simp), hop]
      show Stuck _ _ _
      rw [hw, hkn]
      exact (hmv.at { f with text := s.take q, kind := (kk : Nat), hat := p, info := i, num := n, more := m, next := v } h.fl rfl h.err h.frames).stuck_wrong p 10 (by omega) _
     ·rw [if_neg h456]
      exact plain 0 x p f kk n q y i m v h hmv hpq hyo hlt h8 h23 h456 hw
 | succ d ih =>
  intro x p f h hol
  unfold item
  have hh := head_sim h.toAt h.next h.out hol
  cases hr : R7.head s lim x p with
  | mk o y =>
   rw [hr] at hh
   cases o with
   | none => exact hh
   | some t =>
    obtain ⟨kk, n, q⟩ := t
    simp only at hh ⊢
    obtain ⟨hmv, hpq, hyo, hn, h8, hlt, i, m, v, hw⟩ := hh
    by_cases h23 : (kk == 2 || kk == 3) = true
    ·rw [if_pos h23]
     exact textN_sim hmv hpq h.frames h.fl h.err h.out hyo hlt m v (by simpa using h23) hw
    ·rw [if_neg h23]
     by_cases h456 : (kk == 4 || kk == 5 || kk == 6) = true
     ·rw [if_pos h456]
      have hdeep : ((f.stack.length : Int) == f.lim.d) = false := by
       have := h.deep
       rw [h.fl]
       simp
       omega
      have hd : ((f.stack.length + 1 + d : Nat) : Int) = lim.d := by have := h.deep; omega
      have hop : ∀ N, opens { f with text := s.take q, kind := (kk : Nat), hat := p, info := i, num := n, more := m, next := v } N
        = settle (base s { f with kind := (kk : Nat), hat := p, info := i, num := n, more := m } q (f.out ++ [⟨kk, n, []⟩]) (⟨kk, p, i, n, m, N, [], false⟩ :: f.stack)) := fun N => by
       unfold opens
       exact if_neg (by simpa using hdeep)
      have hout : f.out ++ [⟨(kk : Int), n, []⟩] = ({ y with out := y.out ++ [⟨kk, n, []⟩], frames := y.frames + 1 } : St).out := by rw [h.out, ← hyo]
      have hol2 : (({ y with out := y.out ++ [⟨kk, n, []⟩], frames := y.frames + 1 } : St).out.length : Int) ≤ lim.i := by simp [hyo]; omega
      have hfr : ({ y with out := y.out ++ [⟨kk, n, []⟩], frames := y.frames + 1 } : St).frames = f.stack.length + 1 := by show y.frames + 1 = _; rw [hmv.frames, h.frames]
      simp only [Bool.or_eq_true, beq_iff_eq, not_or] at h23 h456
      rcases h456 with (rfl | rfl) | rfl
      ·have hkn : known { f with text := s.take q, kind := ((4 : Nat) : Int), hat := p, info := i, num := n, more := m, next := v } = opens { f with text := s.take q, kind := ((4 : Nat) : Int), hat := p, info := i, num := n, more := m, next := v } n := by
        unfold known
        rw [if_neg (by simp), if_pos (by simp)]
       rw [hkn, hop] at hw
       refine hold_fin (F := settle (base s { f with kind := ((4 : Nat) : Int), hat := p, info := i, num := n, more := m } q (f.out ++ [⟨(4 : Nat), n, []⟩]) (⟨(4 : Nat), p, i, n, m, n, [], false⟩ :: f.stack))) (c := n) hmv hyo hpq hw _ ?_ (if_pos (by rfl))
       have := items_sim (s := s) (lim := lim) (item s lim d) d (fun x p f => ih x p f) f h.fl h.err ⟨(4 : Nat), p, i, n, m, n, [], false⟩ f.stack (by simp) hd n { y with out := y.out ++ [⟨(4 : Nat), n, []⟩], frames := y.frames + 1 } q
        (settle (base s { f with kind := ((4 : Nat) : Int), hat := p, info := i, num := n, more := m } q (f.out ++ [⟨(4 : Nat), n, []⟩]) (⟨(4 : Nat), p, i, n, m, n, [], false⟩ :: f.stack))) hmv.qs hmv.qb hmv.err hmv.taken hfr hmv.ended hol2 (settle_congr (by rw [hout]; rfl))
       exact this
      ·have hkn : known { f with text := s.take q, kind := ((5 : Nat) : Int), hat := p, info := i, num := n, more := m, next := v } = opens { f with text := s.take q, kind := ((5 : Nat) : Int), hat := p, info := i, num := n, more := m, next := v } (2 * min n 1099511627776) := by
        unfold known
        rw [if_neg (by simp), if_neg (by simp), if_pos (by simp)]
       rw [hkn, hop] at hw
       have hps := pairs_sim (s := s) (lim := lim) (item s lim d) d (fun x p f => ih x p f) f h.fl h.err ⟨(5 : Nat), p, i, n, m, 0, [], false⟩ f.stack (by simp) hd (min n 1099511627776) none { y with out := y.out ++ [⟨(5 : Nat), n, []⟩], frames := y.frames + 1 } q
        (settle (base s { f with kind := ((5 : Nat) : Int), hat := p, info := i, num := n, more := m } q (f.out ++ [⟨(5 : Nat), n, []⟩]) (⟨(5 : Nat), p, i, n, m, 2 * min n 1099511627776, [], false⟩ :: f.stack))) hmv.qs hmv.qb hmv.err hmv.taken hfr hmv.ended hol2 (settle_congr (by rw [hout]; rfl))
       have hsame : pairsN s (item s lim d) n none { y with out := y.out ++ [⟨(5 : Nat), n, []⟩], frames := y.frames + 1 } q = pairsN s (item s lim d) (min n 1099511627776) none { y with out := y.out ++ [⟨(5 : Nat), n, []⟩], frames := y.frames + 1 } q := by
        by_cases hle : n ≤ 1099511627776
        ·rw [Nat.min_eq_left hle]
        ·have hmin : min n 1099511627776 = 1099511627776 := Nat.min_eq_right (by omega)
         rw [hmin] at hps ⊢
         cases hr2 : pairsN s (item s lim d) 1099511627776 none { y with out := y.out ++ [⟨(5 : Nat), n, []⟩], frames := y.frames + 1 } q with
         | mk o z =>
          rw [hr2] at hps
          cases o with
          | none =>
           have := pairsN_more (s := s) (item s lim d) 1099511627776 (n - 1099511627776) none _ q z hr2
           rw [show 1099511627776 + (n - 1099511627776) = n by omega] at this
           exact this
          | some t =>
           obtain ⟨_, j2, j3, _⟩ := hps
           exfalso
           have : z.out.length ≤ 4096 := by have := hmay; omega
           omega
       refine hold_fin (F := settle (base s { f with kind := ((5 : Nat) : Int), hat := p, info := i, num := n, more := m } q (f.out ++ [⟨(5 : Nat), n, []⟩]) (⟨(5 : Nat), p, i, n, m, 2 * min n 1099511627776, [], false⟩ :: f.stack))) (c := min n 1099511627776) hmv hyo hpq hw _ hps ?_
       rw [if_neg (by simp), if_pos (by simp)]
       exact hsame
      ·have hkn : known { f with text := s.take q, kind := ((6 : Nat) : Int), hat := p, info := i, num := n, more := m, next := v } = opens { f with text := s.take q, kind := ((6 : Nat) : Int), hat := p, info := i, num := n, more := m, next := v } 1 := by
        unfold known
        rw [if_neg (by simp), if_neg (by simp), if_neg (by simp), if_pos (by simp)]
       rw [hkn, hop] at hw
       refine hold_fin (F := settle (base s { f with kind := ((6 : Nat) : Int), hat := p, info := i, num := n, more := m } q (f.out ++ [⟨(6 : Nat), n, []⟩]) (⟨(6 : Nat), p, i, n, m, 1, [], false⟩ :: f.stack))) (c := 1) hmv hyo hpq hw _ ?_ ((if_neg (by simp)).trans ((if_neg (by simp)).trans (itemsN_one _ _ _).symm))
       have := items_sim (s := s) (lim := lim) (item s lim d) d (fun x p f => ih x p f) f h.fl h.err ⟨(6 : Nat), p, i, n, m, 1, [], false⟩ f.stack (by simp) hd 1 { y with out := y.out ++ [⟨(6 : Nat), n, []⟩], frames := y.frames + 1 } q
        (settle (base s { f with kind := ((6 : Nat) : Int), hat := p, info := i, num := n, more := m } q (f.out ++ [⟨(6 : Nat), n, []⟩]) (⟨(6 : Nat), p, i, n, m, 1, [], false⟩ :: f.stack))) hmv.qs hmv.qb hmv.err hmv.taken hfr hmv.ended hol2 (settle_congr (by rw [hout]; rfl))
       exact this
     ·rw [if_neg h456]
      exact plain (d + 1) x p f kk n q y i m v h hmv hpq hyo hlt h8 h23 h456 hw
end

end Go.Px.R7
