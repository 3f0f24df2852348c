/-
  Several texts in one: The functions of package cborfeed as plain functions on plain data (what each Go function computes). No program is named here. The reference's reader of layer 17 as plain functions on plain data. No program is named here. Plain laws on cborfeed's functions: what stays, and what holds between two bytes. No program is named here. Plain laws: a feed takes no more, and has no more begun, than its limits say. No program is named here. The feed, byte by byte, does what the reference's reader does (plain law). No program is named here. The feed, byte by byte, does what the reference's reader does: items, lists and pairs of them, and the whole (plain law). No program is named here. The program's reader of package cbor as plain functions on plain data. No program is named here. The program's reader does what the reference's does (plain law). No program is named here. The telling of layer 17 as plain functions: heads and texts in a row; what is one right item; the stack that counts. No program is named here. What is told is read, and what is read is told (plain laws of layer 17). No program is named here. What is read is one right item whose keys are in order (plain laws of layer 17). No program is named here. Lesser limits, and texts that are cut: the reading is the same, or is refused (plain laws of layer 17). No program is named here. Encode as a plain function, and how the two ways to it agree (plain laws of layer 17). No program is named here.
-/
import GoSem.Op.String
import Derived.Lib.ValidU
/-! The functions of package cborfeed as plain functions on plain data (what each Go function computes). No program is named here. -/
namespace Go.Px
abbrev Bytes := List UInt8
structure Lim where
  d : Int
  i : Int
  b : Int
  r : Int
def Lim.may (l : Lim) : Bool := decide (1 ≤ l.d) && decide (l.d ≤ 32) && decide (1 ≤ l.i) && decide (l.i ≤ 4096) && decide (1 ≤ l.b) && decide (l.b ≤ 262144) && decide (1 ≤ l.r) && decide (l.r ≤ 4096)
structure Atom where
  kind : Int
  num : Nat
  text : Bytes
deriving DecidableEq
def leB (a b : Bytes) : Bool := Op.bytesLess a b || a == b

namespace Cf
/-- An item that holds others. -/
structure Fm where
  kind : Int
  at_ : Nat
  info : Nat
  num : Nat
  more : Nat
  left : Nat
  key : Bytes
  any : Bool
structure Feed where
  lim : Lim
  text : Bytes
  out : List Atom
  stack : List Fm
  next : Int
  kind : Int
  hat : Nat
  info : Nat
  num : Nat
  more : Nat
  err : Int
  at_ : Int

def wrong (f : Feed) (p e : Int) : Feed := { f with err := e, at_ := p }

def countedTop (x : Fm) : Fm := { x with left := x.left - 1 }
def countedKey (x : Fm) (s : Bytes) : Fm := { x with left := x.left - 1, key := s, any := true }
def isKey (x : Fm) : Bool := x.kind == 5 && x.left % 2 == 0
def counted (f : Feed) (p : Nat) : Bool × Feed :=
  match f.stack with
  | [] => (true, f)
  | x :: rest =>
    if isKey x then
      if x.any && leB (f.text.drop p) x.key then (false, wrong f p 9)
      else (true, { f with stack := countedKey x (f.text.drop p) :: rest })
    else (true, { f with stack := countedTop x :: rest })

def settleN : Nat → Feed → Feed
  | 0, f => { f with next := 3 }
  | n + 1, f =>
    match f.stack with
    | [] => { f with next := 3 }
    | x :: rest => if 0 < x.left then f else
      match counted { f with stack := rest } x.at_ with
      | (true, g) => settleN n g
      | (false, g) => g
def settle (f : Feed) : Feed := settleN f.stack.length { f with next := 0 }
def ended (f : Feed) (p : Nat) : Feed :=
  match counted f p with
  | (true, g) => settle g
  | (false, g) => g
def whole (f : Feed) : Feed :=
  let s := f.text.drop (f.text.length - f.num)
  if f.kind == 3 && !Lib.validD s then wrong f f.hat 9
  else ended { f with out := f.out ++ [⟨f.kind, 0, s⟩] } f.hat
/-- Something that holds n items begins. -/
def opens (f : Feed) (n : Nat) : Feed :=
  if (f.stack.length : Int) == f.lim.d then wrong f f.hat 10
  else settle { f with out := f.out ++ [⟨f.kind, f.num, []⟩], stack := ⟨f.kind, f.hat, f.info, f.num, f.more, n, [], false⟩ :: f.stack }
def known (f : Feed) : Feed :=
  if f.kind == 2 || f.kind == 3 then
    let g := { f with more := f.num, next := 2 }
    if f.num == 0 then whole g else g
  else if f.kind == 4 then opens f f.num
  else if f.kind == 5 then opens f (2 * min f.num 1099511627776)
  else if f.kind == 6 then opens f 1
  else ended { f with out := f.out ++ [⟨f.kind, f.num, []⟩] } f.hat
def least (info : Nat) : Nat := if info > 24 then 2 ^ (4 * 2 ^ (info - 24)) else 24
def argument (f : Feed) (c : Nat) : Feed :=
  let g := { f with num := f.num * 256 + c, more := f.more - 1 }
  if 0 < g.more then g
  else if g.num < least g.info then wrong g g.hat 9
  else known g
/-- Behind a head's first byte: its kind is k, its lowest five bits are a, it stands at p. -/
def headOn (g : Feed) (p k a : Nat) : Feed :=
  if (g.out.length : Int) == g.lim.i then wrong g p 10
  else if 27 < a then wrong g p 9
  else if k == 7 && (decide (a < 20) || decide (23 < a)) then wrong g p 11
  else if a < 24 then known { g with num := a }
  else { g with more := 2 ^ (a - 24), next := 1 }
def head (f : Feed) (c : Nat) : Feed :=
  headOn { f with kind := (c / 32 : Nat), hat := f.text.length - 1, info := c % 32, num := 0, more := 0 } (f.text.length - 1) (c / 32) (c % 32)
/-- One byte. -/
def byte (f : Feed) (c : UInt8) : Feed :=
  if (f.text.length : Int) == f.lim.b then wrong f f.lim.b 10
  else
    let f := { f with text := f.text ++ [c] }
    if f.next == 0 then head f c.toNat
    else if f.next == 1 then argument f c.toNat
    else if f.next == 2 then
      let g := { f with more := f.more - 1 }
      if g.more == 0 then whole g else g
    else wrong f (f.text.length - 1 : Nat) 9
def write (f : Feed) : Bytes → Feed
  | [] => f
  | c :: s => if f.err == 0 then write (byte f c) s else f
def init (l : Lim) : Feed := ⟨l, [], [], [], 0, 0, 0, 0, 0, 0, 0, 0⟩
def End (f : Feed) : List Atom × Int × Int :=
  if f.err != 0 then ([], f.at_, f.err)
  else if f.next != 3 then ([], f.text.length, 9)
  else (f.out, 0, 0)

/-- What holds of the items that are begun. -/
structure FOk (f : Feed) : Prop where
  each : ∀ x ∈ f.stack, x.left < 18446744073709551616 ∧ x.at_ < f.text.length
  tail : ∀ x ∈ f.stack.tail, 0 < x.left
  text : f.text.length ≤ 1000000
  stack : f.stack.length ≤ 1000

theorem counted_text (f : Feed) (p : Nat) : (counted f p).2.text = f.text := by
  unfold counted; split
  · rfl
  · split
    · split <;> rfl
    · rfl
theorem counted_len (f : Feed) (p : Nat) : (counted f p).2.stack.length = f.stack.length := by
  unfold counted; split
  · rfl
  · rename_i x rest h; split
    · split
      · rfl
      · simp [h]
    · simp [h]
theorem FOk.counted {f : Feed} (h : FOk f) (p : Nat) : FOk (counted f p).2 := by
  refine ⟨?_, ?_, by rw [counted_text]; exact h.text, by rw [counted_len]; exact h.stack⟩
  · rw [counted_text]
    have he := h.each
    unfold Cf.counted
    split
    · exact he
    · rename_i x rest hs
      rw [hs] at he
      have hx := he x (by simp)
      have hr : ∀ y ∈ rest, y.left < 18446744073709551616 ∧ y.at_ < f.text.length := fun y hy => he y (by simp [hy])
      split
      · split
        · simpa [wrong, hs] using he
        · intro y hy
          rcases List.mem_cons.1 hy with rfl | hy
          · exact ⟨by simp [countedKey]; omega, hx.2⟩
          · exact hr y hy
      · intro y hy
        rcases List.mem_cons.1 hy with rfl | hy
        · exact ⟨by simp [countedTop]; omega, hx.2⟩
        · exact hr y hy
  · have ht := h.tail
    unfold Cf.counted
    split
    · exact ht
    · rename_i x rest hs
      rw [hs] at ht
      split
      · split
        · simpa [wrong, hs] using ht
        · exact ht
      · exact ht
theorem FOk.pop {f : Feed} (h : FOk f) {x : Fm} {rest : List Fm} (hs : f.stack = x :: rest) : FOk { f with stack := rest } := by
  refine ⟨fun y hy => h.each y (by rw [hs]; simp [hy]), fun y hy => h.tail y (by rw [hs]; exact List.mem_of_mem_tail hy), h.text, ?_⟩
  have := h.stack
  rw [hs] at this
  simp at this
  show rest.length ≤ 1000
  omega
theorem FOk.push {f : Feed} (h : FOk f) (hl : ∀ x ∈ f.stack, 0 < x.left) (N : Nat) (hN : N < 18446744073709551616) (hp : f.hat < f.text.length) (hs : f.stack.length ≤ 900) :
    FOk { f with stack := ⟨f.kind, f.hat, f.info, f.num, f.more, N, [], false⟩ :: f.stack } := by
  refine ⟨fun x hx => ?_, hl, h.text, by show f.stack.length + 1 ≤ 1000; omega⟩
  rcases List.mem_cons.1 hx with rfl | hx
  · exact ⟨hN, hp⟩
  · exact h.each x hx
theorem FOk.out {f : Feed} (h : FOk f) (l : List Atom) : FOk { f with out := l } := ⟨h.each, h.tail, h.text, h.stack⟩
end Cf
end Go.Px

/-! The reference's reader of layer 17 as plain functions on plain data. No program is named here. -/
namespace Go.Px.R7
structure St where
  out : List Atom
  err : Int
  place : Int
  taken : Nat
  frames : Nat
  ended : Bool
def start : St := ⟨[], 0, 0, 0, 0, false⟩
def fault (x : St) (p e : Int) : St := { x with err := e, place := p }
def take (x : St) (n : Nat) : St := { x with taken := max x.taken n }
def want (s : Bytes) (lim : Lim) (x : St) (p : Nat) : Bool × St :=
  if p < s.length ∧ (p : Int) < lim.b then (true, take x (p + 1))
  else if lim.b < s.length then (false, fault (take x lim.b.toNat) lim.b 10)
  else (false, { fault (take x s.length) s.length 9 with ended := true })

def beBytes (n : Nat) : Nat → Bytes
  | 0 => []
  | w + 1 => UInt8.ofNat (n / 256 ^ w) :: beBytes n w
def infoOf (n : Nat) : Nat := if n < 256 then 0 else if n < 65536 then 1 else if n < 4294967296 then 2 else 3
/-- A head's bytes. -/
def headB (kind n : Nat) : Bytes :=
  if n < 24 then [UInt8.ofNat (32 * kind + n)] else UInt8.ofNat (32 * kind + 24 + infoOf n) :: beBytes n (2 ^ infoOf n)

def argN (s : Bytes) (lim : Lim) : Nat → St → Nat → Nat → Option Nat × St
  | 0, x, _, n => (some n, x)
  | m + 1, x, p, n => match want s lim x p with
    | (false, y) => (none, y)
    | (true, y) => argN s lim m y (p + 1) (n * 256 + (s.getD p 0).toNat)
def head (s : Bytes) (lim : Lim) (x : St) (p : Nat) : Option (Nat × Nat × Nat) × St :=
  match want s lim x p with
  | (false, y) => (none, y)
  | (true, y) =>
    if lim.i ≤ y.out.length then (none, fault y p 10)
    else
      let k := (s.getD p 0).toNat / 32
      let a := (s.getD p 0).toNat % 32
      if 27 < a then (none, fault y p 9)
      else if k == 7 && (decide (a < 20) || decide (23 < a)) then (none, fault y p 11)
      else if a < 24 then (some (k, a, p + 1), y)
      else match argN s lim (2 ^ (a - 24)) y (p + 1) 0 with
        | (none, z) => (none, z)
        | (some n, z) => if (headB k n).length = 2 ^ (a - 24) + 1 then (some (k, n, p + 1 + 2 ^ (a - 24)), z) else (none, fault z p 9)
def wantN (s : Bytes) (lim : Lim) : Nat → St → Nat → Bool × St
  | 0, x, _ => (true, x)
  | m + 1, x, at_ => match want s lim x at_ with
    | (false, y) => (false, y)
    | (true, y) => wantN s lim m y (at_ + 1)
def itemsN (rc : St → Nat → Option Nat × St) : Nat → St → Nat → Option Nat × St
  | 0, x, at_ => (some at_, x)
  | m + 1, x, at_ => match rc x at_ with
    | (none, y) => (none, y)
    | (some q, y) => itemsN rc m y q
def pairsN (s : Bytes) (rc : St → Nat → Option Nat × St) : Nat → Option Bytes → St → Nat → Option Nat × St
  | 0, _, x, at_ => (some at_, x)
  | m + 1, last, x, at_ => match rc x at_ with
    | (none, y) => (none, y)
    | (some q, y) =>
      let key := (s.take q).drop at_
      if last.any (fun l => leB key l) then (none, fault y at_ 9)
      else match rc y q with
        | (none, z) => (none, z)
        | (some r, z) => pairsN s rc m (some key) z r
/-- Behind a head of something that holds others. -/
def holdN (s : Bytes) (rc : St → Nat → Option Nat × St) (k n : Nat) (y : St) (at_ : Nat) : Option Nat × St :=
  let y' := { y with out := y.out ++ [⟨k, n, []⟩], frames := y.frames + 1 }
  match (if k == 4 then itemsN rc n y' at_ else if k == 5 then pairsN s rc n none y' at_ else rc y' at_) with
  | (some q, z) => (some q, { z with frames := z.frames - 1 })
  | (none, z) => (none, z)
def textN (s : Bytes) (lim : Lim) (k n : Nat) (y : St) (p at_ : Nat) : Option Nat × St :=
  match wantN s lim n y at_ with
  | (false, z) => (none, z)
  | (true, z) =>
    let t := (s.take (at_ + n)).drop at_
    if k == 3 && !Lib.validD t then (none, fault z p 9) else (some (at_ + n), { z with out := z.out ++ [⟨k, 0, t⟩] })
/-- An item at a place; so many more may be begun within one another. -/
def item (s : Bytes) (lim : Lim) : Nat → St → Nat → Option Nat × St
  | 0, x, p => match head s lim x p with
    | (none, y) => (none, y)
    | (some (k, n, at_), y) =>
      if k == 2 || k == 3 then textN s lim k n y p at_
      else if k == 4 || k == 5 || k == 6 then (none, fault y p 10)
      else (some at_, { y with out := y.out ++ [⟨k, n, []⟩] })
  | d + 1, x, p => match head s lim x p with
    | (none, y) => (none, y)
    | (some (k, n, at_), y) =>
      if k == 2 || k == 3 then textN s lim k n y p at_
      else if k == 4 || k == 5 || k == 6 then holdN s (item s lim d) k n y at_
      else (some at_, { y with out := y.out ++ [⟨k, n, []⟩] })
def read (s : Bytes) (lim : Lim) : St :=
  match item s lim lim.d.toNat start 0 with
  | (none, x) => x
  | (some q, x) => if q < s.length then (match want s lim x q with | (true, y) => fault y q 9 | (false, y) => y) else x
def list (x : St) : List Atom := if x.err == 0 then x.out else []
end Go.Px.R7

/-! Plain laws on cborfeed's functions: what stays, and what holds between two bytes. No program is named here. -/
namespace Go.Px.Cf

theorem counted_lim (f : Feed) (p : Nat) : (counted f p).2.lim = f.lim := by
  unfold counted; split
  · rfl
  · split
    · split <;> rfl
    · rfl
theorem counted_out (f : Feed) (p : Nat) : (counted f p).2.out = f.out := by
  unfold counted; split
  · rfl
  · split
    · split <;> rfl
    · rfl
theorem counted_next (f : Feed) (p : Nat) : (counted f p).2.next = f.next := by
  unfold counted; split
  · rfl
  · split
    · split <;> rfl
    · rfl
theorem counted_true (f : Feed) (p : Nat) : (counted f p).1 = true → (counted f p).2.err = f.err := by
  unfold counted; split
  · intro _; rfl
  · split
    · split
      · intro h; cases h
      · intro _; rfl
    · intro _; rfl
theorem counted_false (f : Feed) (p : Nat) : (counted f p).1 = false → (counted f p).2.err = 9 := by
  unfold counted; split
  · intro h; cases h
  · split
    · split
      · intro _; rfl
      · intro h; cases h
    · intro h; cases h

theorem settleN_keeps : ∀ (n : Nat) (f : Feed), (settleN n f).lim = f.lim ∧ (settleN n f).text = f.text ∧ (settleN n f).out = f.out ∧ (settleN n f).stack.length ≤ f.stack.length
  | 0, f => ⟨rfl, rfl, rfl, Nat.le_refl _⟩
  | n + 1, f => by
    unfold settleN
    split
    · rename_i h; exact ⟨rfl, rfl, rfl, Nat.le_refl _⟩
    · rename_i x rest hs
      split
      · exact ⟨rfl, rfl, rfl, Nat.le_refl _⟩
      · have h1 := counted_lim { f with stack := rest } x.at_
        have h2 := counted_text { f with stack := rest } x.at_
        have h3 := counted_out { f with stack := rest } x.at_
        have h4 := counted_len { f with stack := rest } x.at_
        split
        · rename_i g hg
          rw [hg] at h1 h2 h3 h4
          obtain ⟨a, b, c, d⟩ := settleN_keeps n g
          refine ⟨a.trans h1, b.trans h2, c.trans h3, ?_⟩
          rw [hs]; simp only [List.length_cons] at *; omega
        · rename_i g hg
          rw [hg] at h1 h2 h3 h4
          refine ⟨h1, h2, h3, ?_⟩
          rw [hs]; simp only [List.length_cons] at *; omega

/-- What holds between two bytes, while there is no fault. -/
structure Live (f : Feed) : Prop where
  may : f.lim.may = true
  err : f.err = 0
  len : (f.text.length : Int) ≤ f.lim.b
  each : ∀ x ∈ f.stack, x.left < 18446744073709551616 ∧ x.at_ < f.text.length ∧ 0 < x.left
  out : f.out.length ≤ f.text.length
  deep : (f.stack.length : Int) ≤ f.lim.d
  next : f.next = 0 ∨ (f.next = 1 ∧ 24 ≤ f.info ∧ f.info ≤ 27 ∧ 1 ≤ f.more ∧ f.more ≤ 2 ^ (f.info - 24) ∧ f.num < 256 ^ (2 ^ (f.info - 24) - f.more) ∧ f.hat < f.text.length) ∨
    (f.next = 2 ∧ (f.kind = 2 ∨ f.kind = 3) ∧ 1 ≤ f.more ∧ f.num ≤ f.text.length + f.more ∧ f.hat < f.text.length ∧ f.more < 18446744073709551616) ∨ (f.next = 3 ∧ f.stack = [] ∧ f.out ≠ [])

theorem may_of {l : Lim} (h : l.may = true) : 1 ≤ l.d ∧ l.d ≤ 32 ∧ 1 ≤ l.i ∧ l.i ≤ 4096 ∧ 1 ≤ l.b ∧ l.b ≤ 262144 ∧ 1 ≤ l.r ∧ l.r ≤ 4096 := by
  simp only [Lim.may, Bool.and_eq_true, decide_eq_true_eq] at h
  obtain ⟨⟨⟨⟨⟨⟨⟨a, b⟩, c⟩, d⟩, e⟩, f⟩, g⟩, h⟩ := h
  exact ⟨a, b, c, d, e, f, g, h⟩

/-- What must hold ahead of settle. -/
structure Pre (f : Feed) : Prop where
  may : f.lim.may = true
  len : (f.text.length : Int) ≤ f.lim.b
  each : ∀ x ∈ f.stack, x.left < 18446744073709551616 ∧ x.at_ < f.text.length
  tail : ∀ x ∈ f.stack.tail, 0 < x.left
  out : f.out.length ≤ f.text.length
  deep : (f.stack.length : Int) ≤ f.lim.d

theorem Pre.ok {f : Feed} (h : Pre f) : FOk f := by
  have hm := may_of h.may
  have := h.len; have := h.deep
  exact ⟨h.each, h.tail, by omega, by omega⟩
theorem Live.pre {f : Feed} (h : Live f) : Pre f := ⟨h.may, h.len, fun x hx => ⟨(h.each x hx).1, (h.each x hx).2.1⟩, fun x hx => (h.each x (List.mem_of_mem_tail hx)).2.2, h.out, h.deep⟩
theorem Live.pos {f : Feed} (h : Live f) : ∀ x ∈ f.stack, 0 < x.left := fun x hx => (h.each x hx).2.2

theorem Pre.counted {f : Feed} (h : Pre f) (p : Nat) : Pre (counted f p).2 := by
  have hg := h.ok.counted p
  exact ⟨by rw [counted_lim]; exact h.may, by rw [counted_text, counted_lim]; exact h.len, hg.each, hg.tail, by rw [counted_text, counted_out]; exact h.out,
    by rw [counted_len, counted_lim]; exact h.deep⟩
theorem Pre.pop {f : Feed} (h : Pre f) {x : Fm} {rest : List Fm} (hs : f.stack = x :: rest) : Pre { f with stack := rest } :=
  ⟨h.may, h.len, (h.ok.pop hs).each, (h.ok.pop hs).tail, h.out, by have := h.deep; rw [hs] at this; simp only [List.length_cons] at this; show (rest.length : Int) ≤ f.lim.d; omega⟩

theorem settleN_live : ∀ (n : Nat) (f : Feed), f.stack.length = n → Pre f → f.next = 0 → f.err = 0 → f.out ≠ [] → (settleN n f).err = 0 → Live (settleN n f)
  | 0, f, hn, h, _, he, hne, _ => by
    have hs : f.stack = [] := List.length_eq_zero_iff.1 hn
    exact ⟨h.may, he, h.len, fun x hx => by simp [settleN, hs] at hx, h.out, h.deep, .inr (.inr (.inr ⟨rfl, hs, hne⟩))⟩
  | n + 1, f, hn, h, h0, he, hne, hr => by
    unfold settleN at hr ⊢
    split at hr
    · rename_i hs; rw [hs] at hn; cases hn
    · rename_i x rest hs
      by_cases hl : 0 < x.left
      · rw [if_pos hl]
        refine ⟨h.may, he, h.len, fun y hy => ⟨(h.each y hy).1, (h.each y hy).2, ?_⟩, h.out, h.deep, .inl h0⟩
        rw [hs] at hy
        rcases List.mem_cons.1 hy with rfl | hy
        · exact hl
        · exact h.tail y (by rw [hs]; exact hy)
      · rw [if_neg hl] at hr ⊢
        have hp := (h.pop hs).counted x.at_
        have h4 := counted_len { f with stack := rest } x.at_
        have h5 := counted_next { f with stack := rest } x.at_
        have h6 := counted_out { f with stack := rest } x.at_
        rw [hs] at hn
        simp only [List.length_cons, Nat.add_right_cancel_iff] at hn
        cases hc : Cf.counted { f with stack := rest } x.at_ with
        | mk cb g =>
          rw [hc] at hp h4 h5 h6
          cases cb
          · have := counted_false { f with stack := rest } x.at_ (by rw [hc])
            rw [hc] at hr this
            simp only at hr this
            omega
          · have := counted_true { f with stack := rest } x.at_ (by rw [hc])
            rw [hc] at hr this
            exact settleN_live n g (by rw [h4]; exact hn) hp (h5.trans h0) (this.trans he) (by rw [h6]; exact hne) hr

theorem settle_live {f : Feed} (h : Pre f) (he : f.err = 0) (hne : f.out ≠ []) (hr : (settle f).err = 0) : Live (settle f) :=
  settleN_live _ _ rfl ⟨h.may, h.len, h.each, h.tail, h.out, h.deep⟩ rfl he hne hr

theorem ended_live {f : Feed} (h : Pre f) (p : Nat) (he : f.err = 0) (hne : f.out ≠ []) (hr : (ended f p).err = 0) : Live (ended f p) := by
  unfold ended at hr ⊢
  have hp := h.counted p
  have h6 := counted_out f p
  cases hc : Cf.counted f p with
  | mk cb g =>
    rw [hc] at hp h6
    cases cb
    · have := counted_false f p (by rw [hc])
      rw [hc] at hr this
      simp only at hr this
      omega
    · have := counted_true f p (by rw [hc])
      rw [hc] at hr this
      exact settle_live hp (this.trans he) (by rw [h6]; exact hne) hr

theorem Pre.putOut {f : Feed} (h : Pre f) (a : Atom) (ho : f.out.length < f.text.length) : Pre { f with out := f.out ++ [a] } :=
  ⟨h.may, h.len, h.each, h.tail, by simp; omega, h.deep⟩

theorem whole_live {f : Feed} (h : Pre f) (ho : f.out.length < f.text.length) (he : f.err = 0) (hr : (whole f).err = 0) : Live (whole f) := by
  unfold whole at hr ⊢
  simp only at hr ⊢
  split
  · rename_i hc
    rw [if_pos hc] at hr
    simp [wrong] at hr
  · rename_i hc
    rw [if_neg hc] at hr
    exact ended_live (h.putOut _ ho) _ he (by simp) hr

theorem opens_live {f : Feed} (h : Pre f) (hl : ∀ x ∈ f.stack, 0 < x.left) (ho : f.out.length < f.text.length) (hp : f.hat < f.text.length) (N : Nat) (hN : N < 18446744073709551616) (he : f.err = 0) (hr : (opens f N).err = 0) : Live (opens f N) := by
  unfold opens at hr ⊢
  split
  · rename_i hc
    rw [if_pos hc] at hr
    simp [wrong] at hr
  · rename_i hc
    rw [if_neg hc] at hr
    refine settle_live ⟨h.may, h.len, fun x hx => ?_, hl, by simp; omega, ?_⟩ he (by simp) hr
    · rcases List.mem_cons.1 hx with rfl | hx
      · exact ⟨hN, hp⟩
      · exact h.each x hx
    · have := h.deep
      have hc' : ¬ (f.stack.length : Int) = f.lim.d := by simpa using hc
      show ((f.stack.length + 1 : Nat) : Int) ≤ f.lim.d
      omega

theorem known_live {f : Feed} (h : Pre f) (hl : ∀ x ∈ f.stack, 0 < x.left) (ho : f.out.length < f.text.length) (hp : f.hat < f.text.length) (hn : f.num < 18446744073709551616) (he : f.err = 0) (hr : (known f).err = 0) : Live (known f) := by
  unfold known at hr ⊢
  simp only at hr ⊢
  by_cases h23 : (f.kind == 2 || f.kind == 3) = true
  · rw [if_pos h23] at hr ⊢
    by_cases h0 : (f.num == 0) = true
    · rw [if_pos h0] at hr ⊢
      exact whole_live ⟨h.may, h.len, h.each, h.tail, h.out, h.deep⟩ ho he hr
    · rw [if_neg h0]
      have h0' : ¬ f.num = 0 := by simpa using h0
      refine ⟨h.may, he, h.len, fun x hx => ⟨(h.each x hx).1, (h.each x hx).2, hl x hx⟩, h.out, h.deep, .inr (.inr (.inl ⟨rfl, by simpa using h23, ?_, ?_, hp, hn⟩))⟩
      · show 1 ≤ f.num; omega
      · show f.num ≤ f.text.length + f.num; omega
  · rw [if_neg h23] at hr ⊢
    by_cases h4 : (f.kind == 4) = true
    · rw [if_pos h4] at hr ⊢; exact opens_live h hl ho hp _ hn he hr
    · rw [if_neg h4] at hr ⊢
      by_cases h5 : (f.kind == 5) = true
      · rw [if_pos h5] at hr ⊢; exact opens_live h hl ho hp _ (by omega) he hr
      · rw [if_neg h5] at hr ⊢
        by_cases h6 : (f.kind == 6) = true
        · rw [if_pos h6] at hr ⊢; exact opens_live h hl ho hp _ (by omega) he hr
        · rw [if_neg h6] at hr ⊢; exact ended_live (h.putOut _ ho) _ he (by simp) hr

theorem pow256_le (k : Nat) (h : k ≤ 8) : 256 ^ k ≤ 18446744073709551616 := by
  have : 256 ^ k ≤ 256 ^ 8 := Nat.pow_le_pow_right (by omega) h
  simpa using this
theorem two_pow_le (k : Nat) (h : k ≤ 27) : 2 ^ (k - 24) ≤ 8 := by
  have : 2 ^ (k - 24) ≤ 2 ^ 3 := Nat.pow_le_pow_right (by omega) (by omega)
  simpa using this

/-- The number at hand takes a byte more. -/
theorem arg_step {num more width c : Nat} (h1 : 1 ≤ more) (h2 : more ≤ width) (hn : num < 256 ^ (width - more)) (hc : c < 256) : num * 256 + c < 256 ^ (width - (more - 1)) := by
  have e : width - (more - 1) = (width - more) + 1 := by omega
  rw [e, Nat.pow_succ]
  omega

theorem byte_live {f : Feed} (h : Live f) (c : UInt8) (hr : (byte f c).err = 0) : Live (byte f c) := by
  have hm := may_of h.may
  have hlen := h.len
  have hc := c.toNat_lt
  unfold byte at hr ⊢
  by_cases hb : ((f.text.length : Int) == f.lim.b) = true
  · rw [if_pos hb] at hr; simp [wrong] at hr
  · rw [if_neg hb] at hr ⊢
    have hb' : ¬ (f.text.length : Int) = f.lim.b := by simpa using hb
    have hg : Pre { f with text := f.text ++ [c] } := by
      refine ⟨h.may, ?_, fun x hx => ⟨(h.each x hx).1, ?_⟩, fun x hx => (h.each x (List.mem_of_mem_tail hx)).2.2, ?_, h.deep⟩
      · simp only [List.length_append, List.length_singleton]; omega
      · have := (h.each x hx).2.1; simp only [List.length_append, List.length_singleton]; omega
      · have := h.out; simp only [List.length_append, List.length_singleton]; omega
    have ho : ({ f with text := f.text ++ [c] } : Feed).out.length < ({ f with text := f.text ++ [c] } : Feed).text.length := by
      have := h.out; simp only [List.length_append, List.length_singleton]; omega
    simp only at hr ⊢
    by_cases n0 : (f.next == 0) = true
    · rw [if_pos n0] at hr ⊢
      unfold head headOn at hr ⊢
      split at hr
      · simp [wrong] at hr
      · rename_i hi; rw [if_neg hi]
        split at hr
        · simp [wrong] at hr
        · rename_i h27; rw [if_neg h27]
          split at hr
          · simp [wrong] at hr
          · rename_i h7; rw [if_neg h7]
            split at hr
            · rename_i h24; rw [if_pos h24]
              refine known_live ⟨hg.may, hg.len, hg.each, hg.tail, hg.out, hg.deep⟩ h.pos ho ?_ ?_ h.err hr
              · simp
              · show c.toNat % 32 < _; omega
            · rename_i h24; rw [if_neg h24]
              refine ⟨hg.may, h.err, hg.len, fun x hx => ⟨(hg.each x hx).1, (hg.each x hx).2, h.pos x hx⟩, hg.out, hg.deep, .inr (.inl ⟨rfl, ?_, ?_, ?_, ?_, ?_, ?_⟩)⟩
              · show 24 ≤ c.toNat % 32; omega
              · show c.toNat % 32 ≤ 27; omega
              · exact Nat.one_le_two_pow
              · exact Nat.le_refl _
              · simp
              · simp
    · rw [if_neg n0] at hr ⊢
      have n0' : ¬ f.next = 0 := by simpa using n0
      by_cases n1 : (f.next == 1) = true
      · rw [if_pos n1] at hr ⊢
        have n1' : f.next = 1 := by simpa using n1
        rcases h.next with hx | ⟨_, i1, i2, m1, m2, hn, hh⟩ | ⟨hx, _⟩ | ⟨hx, _⟩
        · omega
        · have w8 := two_pow_le f.info i2
          have hs := arg_step m1 m2 hn hc
          unfold argument at hr ⊢
          simp only at hr ⊢
          split
          · rename_i hmore
            refine ⟨hg.may, h.err, hg.len, fun x hx => ⟨(hg.each x hx).1, (hg.each x hx).2, h.pos x hx⟩, hg.out, hg.deep, .inr (.inl ⟨n1', i1, i2, ?_, ?_, ?_, ?_⟩)⟩
            · show 1 ≤ f.more - 1; omega
            · show f.more - 1 ≤ 2 ^ (f.info - 24); omega
            · exact hs
            · show f.hat < (f.text ++ [c]).length; simp; omega
          · rename_i hmore
            rw [if_neg hmore] at hr
            split
            · rename_i hl; rw [if_pos hl] at hr; simp [wrong] at hr
            · rename_i hl; rw [if_neg hl] at hr
              refine known_live ⟨hg.may, hg.len, hg.each, hg.tail, hg.out, hg.deep⟩ h.pos ho ?_ ?_ h.err hr
              · show f.hat < (f.text ++ [c]).length; simp; omega
              · exact Nat.lt_of_lt_of_le hs (pow256_le _ (by omega))
        · omega
        · omega
      · rw [if_neg n1] at hr ⊢
        have n1' : ¬ f.next = 1 := by simpa using n1
        by_cases n2 : (f.next == 2) = true
        · rw [if_pos n2] at hr ⊢
          have n2' : f.next = 2 := by simpa using n2
          rcases h.next with hx | ⟨hx, _⟩ | ⟨_, hk, m1, hn, hh, hmm⟩ | ⟨hx, _⟩
          · omega
          · omega
          · by_cases h0 : ((f.more - 1 == 0)) = true
            · rw [if_pos h0] at hr ⊢
              exact whole_live ⟨hg.may, hg.len, hg.each, hg.tail, hg.out, hg.deep⟩ ho h.err hr
            · rw [if_neg h0]
              have h0' : ¬ f.more - 1 = 0 := by simpa using h0
              refine ⟨hg.may, h.err, hg.len, fun x hx => ⟨(hg.each x hx).1, (hg.each x hx).2, h.pos x hx⟩, hg.out, hg.deep, .inr (.inr (.inl ⟨n2', hk, ?_, ?_, ?_, ?_⟩))⟩
              · show 1 ≤ f.more - 1; omega
              · show f.num ≤ (f.text ++ [c]).length + (f.more - 1); simp; omega
              · show f.hat < (f.text ++ [c]).length; simp; omega
              · exact Nat.lt_of_le_of_lt (Nat.sub_le _ _) hmm
          · omega
        · rw [if_neg n2] at hr; simp [wrong] at hr

/-! The limits stay, and the text but for one byte -/
theorem settle_lim (f : Feed) : (settle f).lim = f.lim := (settleN_keeps _ _).1
theorem settle_text (f : Feed) : (settle f).text = f.text := (settleN_keeps _ _).2.1
theorem ended_keeps (f : Feed) (p : Nat) : (ended f p).lim = f.lim ∧ (ended f p).text = f.text := by
  have h1 := counted_lim f p
  have h2 := counted_text f p
  unfold ended
  split
  · rename_i g hg; rw [hg] at h1 h2; exact ⟨(settle_lim g).trans h1, (settle_text g).trans h2⟩
  · rename_i g hg; rw [hg] at h1 h2; exact ⟨h1, h2⟩
theorem whole_keeps (f : Feed) : (whole f).lim = f.lim ∧ (whole f).text = f.text := by
  unfold whole; simp only; split
  · exact ⟨rfl, rfl⟩
  · exact ended_keeps _ _
theorem opens_keeps (f : Feed) (n : Nat) : (opens f n).lim = f.lim ∧ (opens f n).text = f.text := by
  unfold opens; split
  · exact ⟨rfl, rfl⟩
  · exact ⟨settle_lim _, settle_text _⟩
theorem known_keeps (f : Feed) : (known f).lim = f.lim ∧ (known f).text = f.text := by
  unfold known; simp only
  split
  · split
    · exact whole_keeps _
    · exact ⟨rfl, rfl⟩
  · split
    · exact opens_keeps _ _
    · split
      · exact opens_keeps _ _
      · split
        · exact opens_keeps _ _
        · exact ended_keeps _ _
theorem argument_keeps (f : Feed) (c : Nat) : (argument f c).lim = f.lim ∧ (argument f c).text = f.text := by
  unfold argument; simp only
  split
  · exact ⟨rfl, rfl⟩
  · split
    · exact ⟨rfl, rfl⟩
    · exact known_keeps _
theorem head_keeps (f : Feed) (c : Nat) : (head f c).lim = f.lim ∧ (head f c).text = f.text := by
  unfold head headOn
  split
  · exact ⟨rfl, rfl⟩
  · split
    · exact ⟨rfl, rfl⟩
    · split
      · exact ⟨rfl, rfl⟩
      · split
        · exact known_keeps _
        · exact ⟨rfl, rfl⟩
theorem byte_keeps (f : Feed) (c : UInt8) : (byte f c).lim = f.lim ∧ (byte f c).text = if (f.text.length : Int) == f.lim.b then f.text else f.text ++ [c] := by
  unfold byte
  split
  · exact ⟨rfl, rfl⟩
  · rename_i h
    simp only
    split
    · exact head_keeps _ _
    · split
      · exact argument_keeps _ _
      · split
        · split
          · exact whole_keeps _
          · exact ⟨rfl, rfl⟩
        · exact ⟨rfl, rfl⟩

/-- What a feed is between two writes. -/
def FeedOk (f : Feed) : Prop := f.lim.may = true ∧ (f.err = 0 → Live f)
theorem byte_ok {f : Feed} (h : FeedOk f) (he : f.err = 0) (c : UInt8) : FeedOk (byte f c) :=
  ⟨by rw [(byte_keeps f c).1]; exact h.1, fun hr => byte_live (h.2 he) c hr⟩
theorem write_err {f : Feed} (s : Bytes) (h : f.err ≠ 0) : write f s = f := by
  cases s with
  | nil => rfl
  | cons c s => simp [write, h]
theorem write_ok : ∀ {f : Feed} (s : Bytes), FeedOk f → FeedOk (write f s)
  | f, [], h => h
  | f, c :: s, h => by
    unfold write
    split
    · rename_i he; exact write_ok s (byte_ok h (by simpa using he) c)
    · exact h
theorem write_append (f : Feed) : ∀ (s t : Bytes), write f (s ++ t) = write (write f s) t
  | [], t => rfl
  | c :: s, t => by
    by_cases he : f.err = 0
    · simp only [List.cons_append, write, he]
      exact write_append (byte f c) s t
    · rw [write_err _ he, write_err _ he, write_err _ he]
theorem write_drop (f : Feed) (s : Bytes) (k : Nat) (hk : k < s.length) (he : f.err = 0) : write f (s.drop k) = write (byte f s[k]) (s.drop (k + 1)) := by
  rw [List.drop_eq_getElem_cons hk]
  simp [write, he]
end Go.Px.Cf

/-! Plain laws: a feed takes no more, and has no more begun, than its limits say. No program is named here. -/
namespace Go.Px.Cf

/-! Never more than the limits -/
def Deep (f : Feed) : Prop := (f.stack.length : Int) ≤ f.lim.d
theorem settle_deep {f : Feed} (h : Deep f) : Deep (settle f) := by
  have h1 := (settleN_keeps f.stack.length { f with next := 0 }).2.2.2
  have h2 := settle_lim f
  unfold Deep at h ⊢
  rw [h2]
  have : (settle f).stack.length ≤ f.stack.length := h1
  omega
theorem ended_deep {f : Feed} (h : Deep f) (p : Nat) : Deep (ended f p) := by
  have h1 := counted_len f p
  have h2 := counted_lim f p
  unfold ended
  cases hc : Cf.counted f p with
  | mk cb g =>
    rw [hc] at h1 h2
    have hg : Deep g := by unfold Deep at h ⊢; rw [h2, h1]; exact h
    cases cb
    · exact hg
    · exact settle_deep hg
theorem whole_deep {f : Feed} (h : Deep f) : Deep (whole f) := by
  unfold whole; simp only; split
  · exact h
  · refine ended_deep ?_ _; exact h
theorem opens_deep {f : Feed} (h : Deep f) (n : Nat) : Deep (opens f n) := by
  unfold opens
  by_cases hc : ((f.stack.length : Int) == f.lim.d) = true
  · rw [if_pos hc]; exact h
  · rw [if_neg hc]
    refine settle_deep ?_
    have hc' : ¬ (f.stack.length : Int) = f.lim.d := by simpa using hc
    unfold Deep at h ⊢
    show ((f.stack.length + 1 : Nat) : Int) ≤ f.lim.d
    omega
theorem known_deep {f : Feed} (h : Deep f) : Deep (known f) := by
  unfold known; simp only
  split
  · split
    · refine whole_deep ?_; exact h
    · exact h
  · split
    · exact opens_deep h _
    · split
      · exact opens_deep h _
      · split
        · exact opens_deep h _
        · refine ended_deep ?_ _; exact h
theorem argument_deep {f : Feed} (h : Deep f) (c : Nat) : Deep (argument f c) := by
  unfold argument; simp only
  split
  · exact h
  · split
    · exact h
    · refine known_deep ?_; exact h
theorem head_deep {f : Feed} (h : Deep f) (c : Nat) : Deep (head f c) := by
  unfold head headOn
  split
  · exact h
  · split
    · exact h
    · split
      · exact h
      · split
        · refine known_deep ?_; exact h
        · exact h
theorem byte_deep {f : Feed} (h : Deep f) (c : UInt8) : Deep (byte f c) := by
  unfold byte
  split
  · exact h
  · simp only
    split
    · refine head_deep ?_ _; exact h
    · split
      · refine argument_deep ?_ _; exact h
      · split
        · split
          · refine whole_deep ?_; exact h
          · exact h
        · exact h
theorem write_deep : ∀ (s : Bytes) (f : Feed), Deep f → (f.text.length : Int) ≤ f.lim.b → Deep (write f s) ∧ ((write f s).text.length : Int) ≤ (write f s).lim.b ∧ (write f s).lim = f.lim
  | [], f, h, ht => ⟨h, ht, rfl⟩
  | c :: s, f, h, ht => by
    unfold write
    split
    · obtain ⟨k1, k2⟩ := byte_keeps f c
      have hb : ((byte f c).text.length : Int) ≤ (byte f c).lim.b := by
        rw [k1, k2]
        split
        · exact ht
        · rename_i hne
          have hne' : ¬ (f.text.length : Int) = f.lim.b := by simpa using hne
          simp only [List.length_append, List.length_singleton]
          omega
      obtain ⟨a, b, d⟩ := write_deep s (byte f c) (byte_deep h c) hb
      exact ⟨a, b, d.trans k1⟩
    · exact ⟨h, ht, rfl⟩
theorem write_within (s : Bytes) (l : Lim) (hm : l.may = true) : ((Cf.write (Cf.init l) s).text.length : Int) ≤ l.b ∧ ((Cf.write (Cf.init l) s).stack.length : Int) ≤ l.d := by
  have hmay := may_of hm
  obtain ⟨a, b, c⟩ := write_deep s (Cf.init l) (by show ((0 : Nat) : Int) ≤ l.d; omega) (by show ((0 : Nat) : Int) ≤ l.b; omega)
  unfold Deep at a
  rw [c] at a b
  exact ⟨b, a⟩

end Go.Px.Cf

/-! The feed, byte by byte, does what the reference's reader does (plain law). No program is named here. -/
namespace Go.Px.R7
open Cf

/-! What is at hand does not matter between two items -/
def hand (f h : Feed) : Feed := { f with kind := h.kind, hat := h.hat, info := h.info, num := h.num, more := h.more }
def blank : Feed := ⟨⟨0, 0, 0, 0⟩, [], [], [], 0, 0, 0, 0, 0, 0, 0, 0⟩
def norm (f : Feed) : Feed := hand f blank
theorem norm_hand (f h : Feed) : norm (hand f h) = norm f := rfl
theorem hand_of_norm {f g : Feed} (e : norm f = norm g) : g = hand f g := by
  cases f; cases g
  simp only [norm, hand, blank, Feed.mk.injEq] at e ⊢
  obtain ⟨h1, h2, h3, h4, h5, _, _, _, _, _, h6, h7⟩ := e
  exact ⟨h1.symm, h2.symm, h3.symm, h4.symm, h5.symm, trivial, trivial, trivial, trivial, trivial, h6.symm, h7.symm⟩
theorem counted_hand (f h : Feed) (p : Nat) : counted (hand f h) p = ((counted f p).1, hand (counted f p).2 h) := by
  obtain ⟨l, t, o, st, n, a, b, c, d, e, r, v⟩ := f
  unfold counted hand
  cases st with
  | nil => rfl
  | cons x rest =>
    simp only
    split
    · split <;> rfl
    · rfl
theorem settleN_hand (h : Feed) : ∀ (n : Nat) (f : Feed), settleN n (hand f h) = hand (settleN n f) h
  | 0, f => rfl
  | n + 1, f => by
    have hst : (hand f h).stack = f.stack := rfl
    unfold settleN
    simp only [hst]
    cases hs : f.stack with
    | nil => rfl
    | cons x rest =>
      simp only
      by_cases hl : 0 < x.left
      · rw [if_pos hl, if_pos hl]
      · rw [if_neg hl, if_neg hl]
        have e : ({ hand f h with stack := rest } : Feed) = hand { f with stack := rest } h := rfl
        rw [e, counted_hand]
        cases hc : Cf.counted { f with stack := rest } x.at_ with
        | mk cb g =>
          cases cb
          · rfl
          · exact settleN_hand h n g
theorem settle_hand (f h : Feed) : settle (hand f h) = hand (settle f) h := settleN_hand h f.stack.length { f with next := 0 }
theorem ended_hand (f h : Feed) (p : Nat) : ended (hand f h) p = hand (ended f p) h := by
  unfold ended
  rw [counted_hand]
  cases hc : Cf.counted f p with
  | mk cb g =>
    cases cb
    · rfl
    · exact settle_hand g h
theorem ended_norm (f : Feed) (p : Nat) : norm (ended f p) = ended (norm f) p := (ended_hand f blank p).symm
theorem settle_norm (f : Feed) : norm (settle f) = settle (norm f) := (settle_hand f blank).symm
theorem settle_next (f : Feed) (n : Int) : settle { f with next := n } = settle f := rfl
theorem ended_congr {f g : Feed} (e : norm f = norm g) (p : Nat) : norm (ended f p) = norm (ended g p) := by rw [ended_norm, ended_norm, e]
theorem settle_congr {f g : Feed} (e : norm f = norm g) : norm (settle f) = norm (settle g) := by rw [settle_norm, settle_norm, e]

theorem write_norm (s : Bytes) : ∀ (f g : Feed), norm f = norm g → (f.next = 0 ∨ f.next = 3 ∨ f.err ≠ 0) → norm (write f s) = norm (write g s) := by
  intro f g e hn
  have hg := hand_of_norm e
  rw [hg]
  generalize g = h
  cases s with
  | nil => rfl
  | cons c s =>
    by_cases he : f.err = 0
    · have e1 : write f (c :: s) = write (byte f c) s := by simp [write, he]
      have e2 : write (hand f h) (c :: s) = write (byte (hand f h) c) s := by simp [write, show (hand f h).err = f.err from rfl, he]
      rw [e1, e2]
      unfold byte
      have hl : (hand f h).text = f.text := rfl
      have hm : (hand f h).lim = f.lim := rfl
      have hx : (hand f h).next = f.next := rfl
      rw [hl, hm]
      by_cases hb : ((f.text.length : Int) == f.lim.b) = true
      · rw [if_pos hb, if_pos hb, write_err _ (by simp [wrong]), write_err _ (by simp [wrong])]
        rfl
      · rw [if_neg hb, if_neg hb]
        simp only [hx]
        rcases hn with hn | hn | hn
        · have n0 : (f.next == 0) = true := by simpa using hn
          rw [if_pos n0, if_pos n0]
          rfl
        · have n0 : ¬ (f.next == 0) = true := by simp [hn]
          have n1 : ¬ (f.next == 1) = true := by simp [hn]
          have n2 : ¬ (f.next == 2) = true := by simp [hn]
          rw [if_neg n0, if_neg n1, if_neg n2, if_neg n0, if_neg n1, if_neg n2, write_err _ (by simp [wrong]), write_err _ (by simp [wrong])]
          rfl
        · exact absurd he hn
    · rw [write_err _ he, write_err _ (show (hand f h).err ≠ 0 from he)]
      rfl

/-! Where the feed and the reader are -/
structure At (s : Bytes) (lim : Lim) (x : St) (p : Nat) (f : Feed) : Prop where
  fl : f.lim = lim
  text : f.text = s.take p
  ps : p ≤ s.length
  pb : (p : Int) ≤ lim.b
  err : f.err = 0
  xerr : x.err = 0
  taken : x.taken = p
  frames : x.frames = f.stack.length
  ended : x.ended = false
structure Sim (s : Bytes) (lim : Lim) (x : St) (p : Nat) (f : Feed) (k : Nat) : Prop extends At s lim x p f where
  next : f.next = 0
  out : f.out = x.out
  deep : ((f.stack.length + k : Nat) : Int) = lim.d
structure Stuck (s : Bytes) (x : St) (g : Feed) : Prop where
  ended : x.ended = true → g.err = 0 ∧ g.next ≠ 3 ∧ g.text = s ∧ x.err = 9 ∧ x.place = s.length
  told : x.ended = false → g.err = x.err ∧ g.at_ = x.place
  xerr : x.err ≠ 0
  taken : g.text.length = x.taken
  frames : g.stack.length = x.frames
theorem Stuck.norm {s : Bytes} {x : St} {f g : Feed} (h : Stuck s x f) (e : norm f = norm g) : Stuck s x g := by
  rw [hand_of_norm e]
  exact ⟨h.ended, h.told, h.xerr, h.taken, h.frames⟩
theorem At.norm {s : Bytes} {lim : Lim} {x : St} {p : Nat} {f g : Feed} (h : At s lim x p f) (e : norm f = norm g) : At s lim x p g := by
  rw [hand_of_norm e]
  exact ⟨h.fl, h.text, h.ps, h.pb, h.err, h.xerr, h.taken, h.frames, h.ended⟩
theorem Sim.norm {s : Bytes} {lim : Lim} {x : St} {p k : Nat} {f g : Feed} (h : Sim s lim x p f k) (e : norm f = norm g) : Sim s lim x p g k := by
  have h' := h.toAt.norm e
  rw [hand_of_norm e] at h' ⊢
  exact ⟨h', h.next, h.out, h.deep⟩

/-- What byte does with a byte that it may take. -/
def byteOn (f : Feed) (c : UInt8) : Feed :=
  if f.next == 0 then Cf.head f c.toNat
  else if f.next == 1 then argument f c.toNat
  else if f.next == 2 then
    let g := { f with more := f.more - 1 }
    if g.more == 0 then whole g else g
  else wrong f (f.text.length - 1 : Nat) 9
theorem byte_on {f : Feed} (h : ¬ (f.text.length : Int) = f.lim.b) (c : UInt8) : byte f c = byteOn { f with text := f.text ++ [c] } c := by
  unfold byte
  rw [if_neg (by simpa using h)]
  rfl

section
variable {s : Bytes} {lim : Lim} {x y z : St} {p q k : Nat} {f g : Feed}

theorem At.len (h : At s lim x p f) : f.text.length = p := by rw [h.text, List.length_take, Nat.min_eq_left h.ps]
theorem At.stuck_wrong (h : At s lim x p f) (a e : Int) (he : e ≠ 0) (r : Bytes) : Stuck s (fault x a e) (write (wrong f a e) r) := by
  rw [write_err _ (by simpa [wrong] using he)]
  exact ⟨(fun w => by rw [show (fault x a e).ended = x.ended from rfl, h.ended] at w; exact absurd w (by simp)), fun _ => ⟨rfl, rfl⟩, he, by show f.text.length = x.taken; rw [h.len, h.taken], h.frames.symm⟩
theorem want_no (h : At s lim x p f) (hn : f.next ≠ 3) (e : want s lim x p = (false, y)) : Stuck s y (write f (s.drop p)) := by
  have hps := h.ps
  have hpb := h.pb
  unfold want at e
  by_cases h1 : p < s.length ∧ (p : Int) < lim.b
  · rw [if_pos h1] at e; simp at e
  · rw [if_neg h1] at e
    by_cases h2 : lim.b < s.length
    · rw [if_pos h2] at e
      have hp : (p : Int) = lim.b := by omega
      have hlt : p < s.length := by omega
      simp only [Prod.mk.injEq, true_and] at e
      subst e
      rw [write_drop f s p hlt h.err]
      have hb : byte f s[p] = wrong f lim.b 10 := by
        unfold byte
        rw [if_pos (by rw [h.len, h.fl]; simpa using hp), h.fl]
      rw [hb, write_err _ (by simp [wrong])]
      refine ⟨fun w => ?_, fun _ => ⟨rfl, rfl⟩, by simp [fault], ?_, h.frames.symm⟩
      · rw [show (fault (take x lim.b.toNat) lim.b 10).ended = x.ended from rfl, h.ended] at w; cases w
      · show f.text.length = max x.taken lim.b.toNat
        rw [h.len, h.taken]; omega
    · rw [if_neg h2] at e
      have hp : p = s.length := by omega
      simp only [Prod.mk.injEq, true_and] at e
      subst e
      subst hp
      rw [List.drop_length]
      refine ⟨fun _ => ⟨h.err, hn, by rw [show write f [] = f from rfl, h.text, List.take_length], rfl, rfl⟩, fun w => ?_, by simp [fault], ?_, h.frames.symm⟩
      · cases w
      · show f.text.length = max x.taken s.length
        rw [h.len, h.taken]; omega
theorem want_yes (h : At s lim x p f) (e : want s lim x p = (true, y)) :
    ∃ hp : p < s.length, (p : Int) < lim.b ∧ y = { x with taken := p + 1 } ∧ At s lim y (p + 1) { f with text := f.text ++ [s[p]] } ∧ write f (s.drop p) = write (byteOn { f with text := f.text ++ [s[p]] } s[p]) (s.drop (p + 1)) ∧ s.getD p 0 = s[p] := by
  unfold want at e
  by_cases h1 : p < s.length ∧ (p : Int) < lim.b
  · rw [if_pos h1] at e
    obtain ⟨hp, hb⟩ := h1
    simp only [Prod.mk.injEq, true_and] at e
    subst e
    have ey : take x (p + 1) = { x with taken := p + 1 } := by
      unfold take
      rw [h.taken, Nat.max_eq_right (Nat.le_succ p)]
    refine ⟨hp, hb, ey, ?_, ?_, by simp [List.getD, hp]⟩
    · rw [ey]
      exact ⟨h.fl, by show f.text ++ [s[p]] = s.take (p + 1); rw [h.text, List.take_succ_eq_append_getElem hp], hp, by omega, h.err, h.xerr, rfl, h.frames, h.ended⟩
    · rw [write_drop f s p hp h.err, byte_on (by rw [h.len, h.fl]; omega)]
  · rw [if_neg h1] at e
    split at e <;> simp at e

/-- From x at p the reader has come to y at q. -/
structure Moved (s : Bytes) (lim : Lim) (x : St) (p : Nat) (y : St) (q : Nat) : Prop where
  le : p ≤ q
  qs : q ≤ s.length
  qb : (q : Int) ≤ lim.b
  err : y.err = 0
  taken : y.taken = q
  frames : y.frames = x.frames
  ended : y.ended = false
  place : y.place = x.place
theorem Moved.at (h : Moved s lim x p y q) (f : Feed) (hl : f.lim = lim) (ht : f.text = s.take q) (he : f.err = 0) (hf : x.frames = f.stack.length) : At s lim y q f :=
  ⟨hl, ht, h.qs, h.qb, he, h.err, h.taken, h.frames.trans hf, h.ended⟩
theorem Moved.trans (h : Moved s lim x p y q) {r : Nat} (k : Moved s lim y q z r) : Moved s lim x p z r :=
  ⟨Nat.le_trans h.le k.le, k.qs, k.qb, k.err, k.taken, k.frames.trans h.frames, k.ended, k.place.trans h.place⟩
theorem At.moved (h : At s lim x p f) : Moved s lim x p x p := ⟨Nat.le_refl _, h.ps, h.pb, h.xerr, h.taken, rfl, h.ended, rfl⟩

/-! Arguments -/
theorem beBytes_len (n w : Nat) : (beBytes n w).length = w := by
  induction w with
  | zero => rfl
  | succ w ih => simp [beBytes, ih]
theorem headB_len (k n a : Nat) (h1 : 24 ≤ a) (h2 : a ≤ 27) (hn : n < 256 ^ (2 ^ (a - 24))) : (headB k n).length = 2 ^ (a - 24) + 1 ↔ ¬ n < least a := by
  have ha : a = 24 ∨ a = 25 ∨ a = 26 ∨ a = 27 := by omega
  unfold headB infoOf least
  rcases ha with rfl | rfl | rfl | rfl <;> (simp at hn ⊢; (repeat' split) <;> simp [beBytes_len] <;> omega)

theorem arg_sim : ∀ (m : Nat) (x : St) (p : Nat) (f : Feed), At s lim x p f → f.next = 1 → f.more = m + 1 → 24 ≤ f.info → f.info ≤ 27 → f.more ≤ 2 ^ (f.info - 24) → f.num < 256 ^ (2 ^ (f.info - 24) - f.more) →
    match argN s lim (m + 1) x p f.num with
    | (some n, y) => Moved s lim x p y (p + m + 1) ∧ y.out = x.out ∧ n < 256 ^ (2 ^ (f.info - 24)) ∧
        write f (s.drop p) = write (let g := { f with text := s.take (p + m + 1), num := n, more := 0 }; if n < least f.info then wrong g f.hat 9 else known g) (s.drop (p + m + 1))
    | (none, y) => Stuck s y (write f (s.drop p)) := by
  intro m
  induction m with
  | zero =>
    intro x p f h hn hm i1 i2 hle hnum
    unfold argN
    cases hw : want s lim x p with
    | mk b y =>
      cases b
      · exact want_no h (by omega) hw
      · obtain ⟨hp, hb, ey, hat, hwr, hget⟩ := want_yes h hw
        simp only [argN]
        have hc := s[p].toNat_lt
        have hst := arg_step (by omega) hle hnum hc
        rw [hm] at hst
        rw [hget]
        refine ⟨⟨by omega, hat.ps, hat.pb, hat.xerr, hat.taken, by rw [ey], by rw [ey]; exact h.ended, by rw [ey]⟩, by rw [ey], by simpa using hst, ?_⟩
        rw [hwr]
        unfold byteOn
        simp only [hn]
        rw [if_neg (by simp), if_pos (by simp)]
        unfold argument
        simp only [hm]
        rw [if_neg (by omega), ← hat.text]
  | succ m ih =>
    intro x p f h hn hm i1 i2 hle hnum
    unfold argN
    cases hw : want s lim x p with
    | mk b y =>
      cases b
      · exact want_no h (by omega) hw
      · obtain ⟨hp, hb, ey, hat, hwr, hget⟩ := want_yes h hw
        simp only
        have hc := s[p].toNat_lt
        have hst := arg_step (by omega) hle hnum hc
        rw [hget]
        have hby : byteOn { f with text := f.text ++ [s[p]] } s[p] = { f with text := f.text ++ [s[p]], num := f.num * 256 + s[p].toNat, more := f.more - 1 } := by
          unfold byteOn
          simp only [hn]
          rw [if_neg (by simp), if_pos (by simp)]
          unfold argument
          simp only
          rw [if_pos (by omega)]
        rw [hby] at hwr
        have hat' : At s lim y (p + 1) { f with text := f.text ++ [s[p]], num := f.num * 256 + s[p].toNat, more := f.more - 1 } := ⟨hat.fl, hat.text, hat.ps, hat.pb, hat.err, hat.xerr, hat.taken, hat.frames, hat.ended⟩
        have := ih y (p + 1) { f with text := f.text ++ [s[p]], num := f.num * 256 + s[p].toNat, more := f.more - 1 } hat' hn (by show f.more - 1 = m + 1; omega) i1 i2 (show f.more - 1 ≤ 2 ^ (f.info - 24) by omega) hst
        simp only at this
        have ep : p + 1 + m + 1 = p + (m + 1) + 1 := by omega
        rw [ep] at this
        cases ha : argN s lim (m + 1) y (p + 1) (f.num * 256 + s[p].toNat) with
        | mk o z =>
          rw [ha] at this
          cases o with
          | none =>
            simp only at this ⊢
            rw [hwr]; exact this
          | some n =>
            simp only at this ⊢
            obtain ⟨t1, t2, t3, t4⟩ := this
            have hmv : Moved s lim x p y (p + 1) := ⟨by omega, hat.ps, hat.pb, hat.xerr, hat.taken, by rw [ey], by rw [ey]; exact h.ended, by rw [ey]⟩
            refine ⟨hmv.trans t1, by rw [t2, ey], t3, ?_⟩
            rw [hwr, t4]

/-- Behind a head: the feed goes on as 'known' says. -/
theorem head_sim (h : At s lim x p f) (h0 : f.next = 0) (ho : f.out = x.out) (hol : (x.out.length : Int) ≤ lim.i) :
    match R7.head s lim x p with
    | (some (k, n, q), y) => Moved s lim x p y q ∧ p < q ∧ y.out = x.out ∧ n < 18446744073709551616 ∧ k < 8 ∧ ((x.out.length : Int) < lim.i) ∧
        ∃ i m v, write f (s.drop p) = write (known { f with text := s.take q, kind := (k : Nat), hat := p, info := i, num := n, more := m, next := v }) (s.drop q)
    | (none, y) => Stuck s y (write f (s.drop p)) := by
  unfold R7.head
  cases hw : want s lim x p with
  | mk b y =>
    cases b
    · exact want_no h (by omega) hw
    · obtain ⟨hp, hb, ey, hat, hwr, hget⟩ := want_yes h hw
      have hyo : y.out = x.out := by rw [ey]
      have hc := s[p].toNat_lt
      have hmv : Moved s lim x p y (p + 1) := ⟨by omega, hat.ps, hat.pb, hat.xerr, hat.taken, by rw [ey], by rw [ey]; exact h.ended, by rw [ey]⟩
      have hby : byteOn { f with text := f.text ++ [s[p]] } s[p] = headOn { f with text := f.text ++ [s[p]], kind := (s[p].toNat / 32 : Nat), hat := p, info := s[p].toNat % 32, num := 0, more := 0 } p (s[p].toNat / 32) (s[p].toNat % 32) := by
        unfold byteOn
        simp only [h0]
        rw [if_pos (by simp)]
        unfold Cf.head
        have e : (f.text ++ [s[p]]).length - 1 = p := by simp [h.len]
        simp only [e]
      rw [hwr, hby]
      simp only
      rw [hget]
      unfold headOn
      simp only
      have hall : ∀ hk i n m, At s lim y (p + 1) { f with text := f.text ++ [s[p]], kind := hk, hat := p, info := i, num := n, more := m } := fun hk i n m => ⟨hat.fl, hat.text, hat.ps, hat.pb, hat.err, hat.xerr, hat.taken, hat.frames, hat.ended⟩
      by_cases hi : lim.i ≤ y.out.length
      · rw [if_pos hi, if_pos (show ((f.out.length : Int) == f.lim.i) = true by rw [ho, h.fl]; rw [hyo] at hi; simp; omega)]
        exact (hall _ _ _ _).stuck_wrong p 10 (by omega) _
      · rw [if_neg hi, if_neg (show ¬ ((f.out.length : Int) == f.lim.i) = true by rw [ho, h.fl]; rw [hyo] at hi; simp; omega)]
        by_cases h27 : 27 < s[p].toNat % 32
        · rw [if_pos h27, if_pos h27]
          exact (hall _ _ _ _).stuck_wrong p 9 (by omega) _
        · rw [if_neg h27, if_neg h27]
          by_cases h7 : (s[p].toNat / 32 == 7 && (decide (s[p].toNat % 32 < 20) || decide (23 < s[p].toNat % 32))) = true
          · rw [if_pos h7, if_pos h7]
            exact (hall _ _ _ _).stuck_wrong p 11 (by omega) _
          · rw [if_neg h7, if_neg h7]
            by_cases h24 : s[p].toNat % 32 < 24
            · rw [if_pos h24, if_pos h24]
              refine ⟨hmv, by omega, hyo, by omega, by omega, by rw [hyo] at hi; omega, s[p].toNat % 32, 0, f.next, ?_⟩
              rw [← hat.text]
            · rw [if_neg h24, if_neg h24]
              obtain ⟨m, hm⟩ : ∃ m, 2 ^ (s[p].toNat % 32 - 24) = m + 1 := ⟨2 ^ (s[p].toNat % 32 - 24) - 1, by have := Nat.one_le_two_pow (n := s[p].toNat % 32 - 24); omega⟩
              have := arg_sim m y (p + 1) { f with text := f.text ++ [s[p]], kind := (s[p].toNat / 32 : Nat), hat := p, info := s[p].toNat % 32, num := 0, more := 2 ^ (s[p].toNat % 32 - 24), next := 1 }
                ⟨hat.fl, hat.text, hat.ps, hat.pb, hat.err, hat.xerr, hat.taken, hat.frames, hat.ended⟩ rfl hm (by show 24 ≤ s[p].toNat % 32; omega) (by show s[p].toNat % 32 ≤ 27; omega) (Nat.le_refl _) (by simp)
              simp only at this
              rw [hm]
              rw [hm] at this
              cases ha : argN s lim (m + 1) y (p + 1) 0 with
              | mk o z =>
                rw [ha] at this
                cases o with
                | none => simpa using this
                | some n =>
                  simp only at this ⊢
                  obtain ⟨t1, t2, t3, t4⟩ := this
                  have hl := headB_len (s[p].toNat / 32) n (s[p].toNat % 32) (by omega) (by omega) (by rw [hm]; exact t3)
                  rw [hm] at hl
                  have ep : p + 1 + m + 1 = p + 1 + (m + 1) := by omega
                  rw [ep] at t1 t4
                  by_cases hlt : n < least (s[p].toNat % 32)
                  · rw [if_neg (fun e => hl.1 e hlt)]
                    rw [if_pos hlt] at t4
                    simp only
                    rw [t4]
                    exact (t1.at { f with text := s.take (p + 1 + (m + 1)), kind := (s[p].toNat / 32 : Nat), hat := p, info := s[p].toNat % 32, num := n, more := 0, next := 1 } hat.fl rfl hat.err (by rw [ey]; exact h.frames)).stuck_wrong p 9 (by omega) _
                  · rw [if_pos (hl.2 hlt)]
                    rw [if_neg hlt] at t4
                    simp only
                    refine ⟨hmv.trans t1, by omega, t2.trans hyo, Nat.lt_of_lt_of_le t3 (pow256_le _ (by have := two_pow_le (s[p].toNat % 32) (by omega); omega)), by omega, by rw [hyo] at hi; omega, s[p].toNat % 32, 0, 1, ?_⟩
                    rw [t4]
end
end Go.Px.R7

/-! The feed, byte by byte, does what the reference's reader does: items, lists and pairs of them, and the whole (plain law). No program is named here. -/
namespace Go.Px.R7
open Cf

section
variable {s : Bytes} {lim : Lim} {x y z : St} {p q k : Nat} {f g : Feed}

/-! Bytes and texts -/
theorem text_sim : ∀ (m : Nat) (x : St) (p : Nat) (f : Feed), At s lim x p f → f.next = 2 → f.more = m + 1 →
    match wantN s lim (m + 1) x p with
    | (true, y) => Moved s lim x p y (p + m + 1) ∧ y.out = x.out ∧ write f (s.drop p) = write (whole { f with text := s.take (p + m + 1), more := 0 }) (s.drop (p + m + 1))
    | (false, y) => Stuck s y (write f (s.drop p)) := by
  intro m
  induction m with
  | zero =>
    intro x p f h hn hm
    unfold wantN
    cases hw : want s lim x p with
    | mk b y =>
      cases b
      · exact want_no h (by omega) hw
      · obtain ⟨hp, hb, ey, hat, hwr, hget⟩ := want_yes h hw
        simp only [wantN]
        refine ⟨⟨by omega, hat.ps, hat.pb, hat.xerr, hat.taken, by rw [ey], by rw [ey]; exact h.ended, by rw [ey]⟩, by rw [ey], ?_⟩
        rw [hwr]
        unfold byteOn
        simp only [hn, hm]
        rw [if_neg (by simp), if_neg (by simp), if_pos (by simp), if_pos (by simp), ← hat.text]
  | succ m ih =>
    intro x p f h hn hm
    unfold wantN
    cases hw : want s lim x p with
    | mk b y =>
      cases b
      · exact want_no h (by omega) hw
      · obtain ⟨hp, hb, ey, hat, hwr, hget⟩ := want_yes h hw
        simp only
        have hby : byteOn { f with text := f.text ++ [s[p]] } s[p] = { f with text := f.text ++ [s[p]], more := f.more - 1 } := by
          unfold byteOn
          simp only [hn]
          rw [if_neg (by simp), if_neg (by simp), if_pos (by simp), if_neg (by simp; omega)]
        rw [hby] at hwr
        have hat' : At s lim y (p + 1) { f with text := f.text ++ [s[p]], more := f.more - 1 } := ⟨hat.fl, hat.text, hat.ps, hat.pb, hat.err, hat.xerr, hat.taken, hat.frames, hat.ended⟩
        have := ih y (p + 1) { f with text := f.text ++ [s[p]], more := f.more - 1 } hat' hn (by show f.more - 1 = m + 1; omega)
        have ep : p + 1 + m + 1 = p + (m + 1) + 1 := by omega
        rw [ep] at this
        cases ha : wantN s lim (m + 1) y (p + 1) with
        | mk o z =>
          rw [ha] at this
          cases o with
          | false =>
            simp only at this ⊢
            rw [hwr]; exact this
          | true =>
            simp only at this ⊢
            obtain ⟨t1, t2, t4⟩ := this
            have hmv : Moved s lim x p y (p + 1) := ⟨by omega, hat.ps, hat.pb, hat.xerr, hat.taken, by rw [ey], by rw [ey]; exact h.ended, by rw [ey]⟩
            exact ⟨hmv.trans t1, by rw [t2, ey], by rw [hwr, t4]⟩

/-- An item ended at its place p; now the reader is at q. -/
def Item (s : Bytes) (lim : Lim) (x : St) (p : Nat) (f : Feed) (r : Option Nat × St) : Prop :=
  match r with
  | (some q, y) => Moved s lim x p y q ∧ x.out.length < y.out.length ∧ (y.out.length : Int) ≤ lim.i ∧ p < q ∧ ∃ g v, write f (s.drop p) = write g (s.drop q) ∧ norm g = norm (ended { f with text := s.take q, out := y.out, next := v } p)
  | (none, y) => Stuck s y (write f (s.drop p))

theorem textN_sim {n p0 i : Nat} (hx : Moved s lim x p0 y p) (hp : p0 < p) (hf : x.frames = f.stack.length) (hfl : f.lim = lim) (hfe : f.err = 0) (ho : f.out = x.out) (hyo : y.out = x.out) (hol : (x.out.length : Int) < lim.i) (m : Nat) (v : Int) (hk : k = 2 ∨ k = 3)
    (hw : write f (s.drop p0) = write (known { f with text := s.take p, kind := (k : Nat), hat := p0, info := i, num := n, more := m, next := v }) (s.drop p)) :
    Item s lim x p0 f (textN s lim k n y p0 p) := by
  have hkn : known { f with text := s.take p, kind := (k : Nat), hat := p0, info := i, num := n, more := m, next := v } = (if n == 0 then whole { f with text := s.take p, kind := (k : Nat), hat := p0, info := i, num := n, more := n, next := 2 } else { f with text := s.take p, kind := (k : Nat), hat := p0, info := i, num := n, more := n, next := 2 }) := by
    unfold known
    rw [if_pos (by simp; omega)]
  rw [hkn] at hw
  have key : ∀ z, Moved s lim x p0 z (p + n) → z.out = x.out → write f (s.drop p0) = write (whole { f with text := s.take (p + n), kind := (k : Nat), hat := p0, info := i, num := n, more := 0, next := 2 }) (s.drop (p + n)) →
      Item s lim x p0 f (let t := (s.take (p + n)).drop p
        if k == 3 && !Lib.validD t then (none, fault z p0 9) else (some (p + n), { z with out := z.out ++ [⟨k, 0, t⟩] })) := by
    intro z hz hzo hwz
    have hlen : (s.take (p + n)).length - n = p := by rw [List.length_take, Nat.min_eq_left hz.qs]; omega
    unfold whole at hwz
    simp only at hwz ⊢
    rw [hlen] at hwz
    have hk3 : ((k : Int) == 3) = (k == 3) := by
      rcases hk with rfl | rfl <;> rfl
    rw [hk3] at hwz
    by_cases hv : (k == 3 && !Lib.validD ((s.take (p + n)).drop p)) = true
    · rw [if_pos hv] at hwz ⊢
      show Stuck _ _ _
      rw [hwz]
      exact (hz.at { f with text := s.take (p + n), kind := (k : Nat), hat := p0, info := i, num := n, more := 0, next := 2 } hfl rfl hfe hf).stuck_wrong p0 9 (by omega) _
    · rw [if_neg hv] at hwz ⊢
      refine ⟨⟨hz.le, hz.qs, hz.qb, hz.err, hz.taken, hz.frames, hz.ended, hz.place⟩, by simp [hzo], by simp [hzo]; omega, by omega, _, 2, hwz, ?_⟩
      refine ended_congr ?_ p0
      simp [norm, hand, ho, hzo]
  unfold textN
  by_cases h0 : n = 0
  · subst h0
    rw [if_pos (by simp)] at hw
    simp only [wantN]
    exact key y hx hyo hw
  · rw [if_neg (by simpa using h0)] at hw
    obtain ⟨j, rfl⟩ : ∃ j, n = j + 1 := ⟨n - 1, by omega⟩
    have := text_sim j y p { f with text := s.take p, kind := (k : Nat), hat := p0, info := i, num := j + 1, more := j + 1, next := 2 } (hx.at _ hfl rfl hfe hf) rfl rfl
    cases ha : wantN s lim (j + 1) y p with
    | mk o z =>
      rw [ha] at this
      cases o with
      | false =>
        simp only at this ⊢
        show Stuck _ _ _
        rw [hw]; exact this
      | true =>
        simp only at this
        obtain ⟨t1, t2, t3⟩ := this
        exact key z (hx.trans t1) (t2.trans hyo) (hw.trans t3)

/-- The feed's state where its innermost one is y, at a place. -/
def base (s : Bytes) (f0 : Feed) (at_ : Nat) (o : List Atom) (st : List Fm) : Feed := { f0 with text := s.take at_, out := o, stack := st }
def Items (s : Bytes) (lim : Lim) (x : St) (at_ : Nat) (f : Feed) (c : Nat) (E : Nat → List Atom → Feed) (r : Option Nat × St) : Prop :=
  match r with
  | (some q, y) => Moved s lim x at_ y q ∧ x.out.length + c ≤ y.out.length ∧ (y.out.length : Int) ≤ lim.i ∧ ∃ g, write f (s.drop at_) = write g (s.drop q) ∧ norm g = norm (E q y.out)
  | (none, y) => Stuck s y (write f (s.drop at_))

theorem settle_pos {f : Feed} {x : Fm} {st : List Fm} (hs : f.stack = x :: st) (hl : 0 < x.left) : settle f = { f with next := 0 } := by
  unfold settle
  rw [hs]
  simp only [List.length_cons]
  unfold settleN
  simp only
  rw [if_pos hl]
theorem ended_plain {f : Feed} {x : Fm} {st : List Fm} (hs : f.stack = x :: st) (hk : isKey x = false) (p : Nat) : ended f p = settle { f with stack := countedTop x :: st } := by
  unfold ended counted
  rw [hs]
  simp only [hk]
  rfl

theorem settle_zero {f : Feed} {x : Fm} {st : List Fm} (hs : f.stack = x :: st) (hl : x.left = 0) : settle f = ended { f with stack := st, next := 0 } x.at_ := by
  unfold settle
  rw [hs]
  simp only [List.length_cons]
  unfold settleN
  simp only
  rw [if_neg (by omega)]
  unfold ended
  have h1 := counted_len { f with stack := st, next := 0 } x.at_
  have h2 := counted_next { f with stack := st, next := 0 } x.at_
  cases hc : Cf.counted { f with stack := st, next := 0 } x.at_ with
  | mk cb g =>
    rw [hc] at h1 h2
    cases cb
    · rfl
    · simp only at h1 h2 ⊢
      unfold settle
      rw [h1]
      congr 1
      rw [← h2]
theorem ended_key {f : Feed} {x : Fm} {st : List Fm} (hs : f.stack = x :: st) (hk : isKey x = true) (p : Nat) :
    ended f p = if x.any && leB (f.text.drop p) x.key then wrong f p 9 else settle { f with stack := countedKey x (f.text.drop p) :: st } := by
  unfold ended counted
  rw [hs]
  simp only [hk]
  by_cases h : (x.any && leB (f.text.drop p) x.key) = true
  · rw [if_pos h]; simp only [h]; rfl
  · rw [if_neg h]; simp only [h]; rfl

theorem items_sim (rc : St → Nat → Option Nat × St) (d : Nat) (hrc : ∀ x p f, Sim s lim x p f d → (x.out.length : Int) ≤ lim.i → Item s lim x p f (rc x p)) (f0 : Feed) (hl0 : f0.lim = lim) (he0 : f0.err = 0) (y : Fm) (st : List Fm) (hy : y.kind ≠ 5) (hd : ((st.length + 1 + d : Nat) : Int) = lim.d) :
    ∀ (m : Nat) (x : St) (at_ : Nat) (f : Feed), at_ ≤ s.length → (at_ : Int) ≤ lim.b → x.err = 0 → x.taken = at_ → x.frames = st.length + 1 → x.ended = false → (x.out.length : Int) ≤ lim.i →
      norm f = norm (settle (base s f0 at_ x.out ({ y with left := m } :: st))) →
      Items s lim x at_ f m (fun q o => ended { base s f0 q o st with next := 0 } y.at_) (itemsN rc m x at_) := by
  intro m
  induction m with
  | zero =>
    intro x at_ f h1 h2 h3 h4 h5 h6 h7 hn
    rw [settle_zero (x := { y with left := 0 }) rfl rfl] at hn
    exact ⟨⟨Nat.le_refl _, h1, h2, h3, h4, rfl, h6, rfl⟩, Nat.le_refl _, h7, f, rfl, hn⟩
  | succ m ih =>
    intro x at_ f h1 h2 h3 h4 h5 h6 h7 hn
    rw [settle_pos (x := { y with left := m + 1 }) rfl (Nat.succ_pos m)] at hn
    have hsim : Sim s lim x at_ { base s f0 at_ x.out ({ y with left := m + 1 } :: st) with next := 0 } d := ⟨⟨hl0, rfl, h1, h2, he0, h3, h4, h5, h6⟩, rfl, rfl, hd⟩
    have hi := hrc x at_ f (hsim.norm hn.symm) h7
    unfold itemsN
    cases hr : rc x at_ with
    | mk o z =>
      rw [hr] at hi
      cases o with
      | none => exact hi
      | some q =>
        simp only
        obtain ⟨i1, i2, i3, i4, g, v, i5, i6⟩ := hi
        have hg : norm g = norm (settle (base s f0 q z.out ({ y with left := m } :: st))) := by
          rw [i6]
          have e : norm { f with text := s.take q, out := z.out, next := v } = norm { base s f0 q z.out ({ y with left := m + 1 } :: st) with next := v } := by
            rw [hand_of_norm hn.symm]
            rfl
          rw [ended_congr e, ended_plain (x := { y with left := m + 1 }) rfl (by unfold isKey; simp [hy])]
          rfl
        have := ih z q g i1.qs i1.qb i1.err i1.taken (i1.frames.trans h5) i1.ended i3 hg
        cases hr2 : itemsN rc m z q with
        | mk o2 z2 =>
          rw [hr2] at this
          cases o2 with
          | none =>
            show Stuck _ _ _
            rw [i5]; exact this
          | some r =>
            obtain ⟨j1, j2, j3, g2, j5, j6⟩ := this
            exact ⟨i1.trans j1, by omega, j3, g2, i5.trans j5, j6⟩

/-- A list's key so far. -/
def keyFm (y : Fm) (left : Nat) (last : Option Bytes) : Fm := { y with left := left, key := last.getD [], any := last.isSome }

theorem pairs_sim (rc : St → Nat → Option Nat × St) (d : Nat) (hrc : ∀ x p f, Sim s lim x p f d → (x.out.length : Int) ≤ lim.i → Item s lim x p f (rc x p)) (f0 : Feed) (hl0 : f0.lim = lim) (he0 : f0.err = 0) (y : Fm) (st : List Fm) (hy : y.kind = 5) (hd : ((st.length + 1 + d : Nat) : Int) = lim.d) :
    ∀ (m : Nat) (last : Option Bytes) (x : St) (at_ : Nat) (f : Feed), at_ ≤ s.length → (at_ : Int) ≤ lim.b → x.err = 0 → x.taken = at_ → x.frames = st.length + 1 → x.ended = false → (x.out.length : Int) ≤ lim.i →
      norm f = norm (settle (base s f0 at_ x.out (keyFm y (2 * m) last :: st))) →
      Items s lim x at_ f m (fun q o => ended { base s f0 q o st with next := 0 } y.at_) (pairsN s rc m last x at_) := by
  intro m
  induction m with
  | zero =>
    intro last x at_ f h1 h2 h3 h4 h5 h6 h7 hn
    rw [settle_zero (x := keyFm y (2 * 0) last) rfl rfl] at hn
    exact ⟨⟨Nat.le_refl _, h1, h2, h3, h4, rfl, h6, rfl⟩, Nat.le_refl _, h7, f, rfl, hn⟩
  | succ m ih =>
    intro last x at_ f h1 h2 h3 h4 h5 h6 h7 hn
    rw [settle_pos (x := keyFm y (2 * (m + 1)) last) rfl (by show 0 < 2 * (m + 1); omega)] at hn
    have hsim : Sim s lim x at_ { base s f0 at_ x.out (keyFm y (2 * (m + 1)) last :: st) with next := 0 } d := ⟨⟨hl0, rfl, h1, h2, he0, h3, h4, h5, h6⟩, rfl, rfl, hd⟩
    have hi := hrc x at_ f (hsim.norm hn.symm) h7
    unfold pairsN
    cases hr : rc x at_ with
    | mk o z =>
      rw [hr] at hi
      cases o with
      | none => exact hi
      | some q =>
        simp only
        obtain ⟨i1, i2, i3, i4, g, v, i5, i6⟩ := hi
        have e : norm { f with text := s.take q, out := z.out, next := v } = norm { base s f0 q z.out (keyFm y (2 * (m + 1)) last :: st) with next := v } := by
          rw [hand_of_norm hn.symm]
          rfl
        rw [ended_congr e, ended_key (x := keyFm y (2 * (m + 1)) last) rfl (by unfold isKey; simp [keyFm, hy])] at i6
        have i6 : norm g = norm (if ((keyFm y (2 * (m + 1)) last).any && leB ((s.take q).drop at_) (keyFm y (2 * (m + 1)) last).key) = true then wrong { base s f0 q z.out (keyFm y (2 * (m + 1)) last :: st) with next := v } at_ 9
            else settle { base s f0 q z.out (countedKey (keyFm y (2 * (m + 1)) last) ((s.take q).drop at_) :: st) with next := v }) := i6
        have hany : (last.any fun l => leB ((s.take q).drop at_) l) = ((keyFm y (2 * (m + 1)) last).any && leB ((s.take q).drop at_) (keyFm y (2 * (m + 1)) last).key) := by
          cases last <;> simp [keyFm]
        rw [hany]
        by_cases hb : ((keyFm y (2 * (m + 1)) last).any && leB ((s.take q).drop at_) (keyFm y (2 * (m + 1)) last).key) = true
        · rw [if_pos hb]
          rw [if_pos hb] at i6
          show Stuck _ _ _
          rw [i5]
          have hat : At s lim z q { base s f0 q z.out (keyFm y (2 * (m + 1)) last :: st) with next := v } := i1.at _ hl0 rfl he0 h5
          exact (hat.stuck_wrong at_ 9 (by omega) (s.drop q)).norm (write_norm _ _ _ i6.symm (.inr (.inr (by simp [wrong]))))
        · rw [if_neg hb]
          rw [if_neg hb] at i6
          have i7 : norm g = norm { base s f0 q z.out (keyFm y (2 * m + 1) (some ((s.take q).drop at_)) :: st) with next := 0 } := by
            rw [i6, settle_pos (x := countedKey (keyFm y (2 * (m + 1)) last) ((s.take q).drop at_)) rfl (by show 0 < 2 * (m + 1) - 1; omega)]
            rfl
          have hsim2 : Sim s lim z q { base s f0 q z.out (keyFm y (2 * m + 1) (some ((s.take q).drop at_)) :: st) with next := 0 } d :=
            ⟨⟨hl0, rfl, i1.qs, i1.qb, he0, i1.err, i1.taken, i1.frames.trans h5, i1.ended⟩, rfl, rfl, hd⟩
          have hj := hrc z q g (hsim2.norm i7.symm) i3
          cases hr2 : rc z q with
          | mk o2 z2 =>
            rw [hr2] at hj
            cases o2 with
            | none =>
              show Stuck _ _ _
              rw [i5]; exact hj
            | some r =>
              simp only
              obtain ⟨j1, j2, j3, j4, g2, v2, j5, j6⟩ := hj
              have e2 : norm { g with text := s.take r, out := z2.out, next := v2 } = norm { base s f0 r z2.out (keyFm y (2 * m + 1) (some ((s.take q).drop at_)) :: st) with next := v2 } := by
                rw [hand_of_norm i7.symm]
                rfl
              have hg : norm g2 = norm (settle (base s f0 r z2.out (keyFm y (2 * m) (some ((s.take q).drop at_)) :: st))) := by
                rw [j6, ended_congr e2, ended_plain (x := keyFm y (2 * m + 1) (some ((s.take q).drop at_))) rfl (by unfold isKey; simp [keyFm])]
                rfl
              have := ih (some ((s.take q).drop at_)) z2 r g2 j1.qs j1.qb j1.err j1.taken (j1.frames.trans (i1.frames.trans h5)) j1.ended j3 hg
              cases hr3 : pairsN s rc m (some ((s.take q).drop at_)) z2 r with
              | mk o3 z3 =>
                rw [hr3] at this
                cases o3 with
                | none =>
                  show Stuck _ _ _
                  rw [i5, j5]; exact this
                | some t =>
                  obtain ⟨k1, k2, k3, g3, k5, k6⟩ := this
                  exact ⟨(i1.trans j1).trans k1, by omega, k3, g3, (i5.trans j5).trans k5, k6⟩

/-! So many pairs that the reader never comes to their end -/
theorem pairsN_more (rc : St → Nat → Option Nat × St) : ∀ (m j : Nat) (last : Option Bytes) (x : St) (p : Nat) (y : St), pairsN s rc m last x p = (none, y) → pairsN s rc (m + j) last x p = (none, y) := by
  intro m
  induction m with
  | zero => intro j last x p y h; unfold pairsN at h; simp at h
  | succ m ih =>
    intro j last x p y h
    rw [show m + 1 + j = (m + j) + 1 by omega]
    unfold pairsN at h ⊢
    cases hr : rc x p with
    | mk o z =>
      rw [hr] at h
      cases o with
      | none => exact h
      | some q =>
        simp only at h ⊢
        split
        · rename_i hc; rw [if_pos hc] at h; exact h
        · rename_i hc; rw [if_neg hc] at h
          cases hr2 : rc z q with
          | mk o2 z2 =>
            rw [hr2] at h
            cases o2 with
            | none => exact h
            | some r => exact ih j _ z2 r y h

/-! An item; the whole -/
theorem hold_fin {k n : Nat} {F f : Feed} {p q c : Nat} {rc : St → Nat → Option Nat × St} (hmv : Moved s lim x p y q) (hyo : y.out = x.out) (hpq : p < q) (hw : write f (s.drop p) = write F (s.drop q)) (r : Option Nat × St)
    (hi : Items s lim { y with out := y.out ++ [⟨k, n, []⟩], frames := y.frames + 1 } q F c (fun q o => ended { base s f q o f.stack with next := 0 } p) r)
    (hr : (if k == 4 then itemsN rc n { y with out := y.out ++ [⟨k, n, []⟩], frames := y.frames + 1 } q else if k == 5 then pairsN s rc n none { y with out := y.out ++ [⟨k, n, []⟩], frames := y.frames + 1 } q else rc { y with out := y.out ++ [⟨k, n, []⟩], frames := y.frames + 1 } q) = r) :
    Item s lim x p f (holdN s rc k n y q) := by
  unfold holdN
  simp only [hr]
  obtain ⟨o, z⟩ := r
  cases o with
  | none =>
    show Stuck _ _ _
    rw [hw]; exact hi
  | some t =>
    obtain ⟨j1, j2, j3, g, j5, j6⟩ := hi
    have hf : z.frames - 1 = x.frames := by rw [j1.frames]; show y.frames + 1 - 1 = x.frames; rw [hmv.frames]; omega
    refine ⟨⟨Nat.le_trans hmv.le j1.le, j1.qs, j1.qb, j1.err, j1.taken, hf, j1.ended, j1.place.trans hmv.place⟩, ?_, j3, ?_, g, 0, hw.trans j5, j6⟩
    · simp only [hyo, List.length_append, List.length_singleton] at j2
      show x.out.length < z.out.length
      omega
    · have := j1.le; omega
theorem itemsN_one (rc : St → Nat → Option Nat × St) (x : St) (p : Nat) : itemsN rc 1 x p = rc x p := by
  unfold itemsN
  cases h : rc x p with
  | mk o y => cases o <;> rfl
theorem item_sim (hm : lim.may = true) : ∀ (d : Nat) (x : St) (p : Nat) (f : Feed), Sim s lim x p f d → (x.out.length : Int) ≤ lim.i → Item s lim x p f (item s lim d x p) := by
  have hmay := may_of hm
  have plain : ∀ (d : Nat) (x : St) (p : Nat) (f : Feed) (kk n q : Nat) (y : St) (i m : Nat) (v : Int), Sim s lim x p f d → Moved s lim x p y q → p < q → y.out = x.out → (x.out.length : Int) < lim.i → kk < 8 → ¬ (kk == 2 || kk == 3) = true → ¬ (kk == 4 || kk == 5 || kk == 6) = true →
      write f (s.drop p) = write (known { f with text := s.take q, kind := (kk : Nat), hat := p, info := i, num := n, more := m, next := v }) (s.drop q) →
      Item s lim x p f (some q, { y with out := y.out ++ [⟨kk, n, []⟩] }) := by
    intro d x p f kk n q y i m v h hmv hpq hyo hlt h8 h23 h456 hw
    simp only [Bool.or_eq_true, beq_iff_eq, not_or] at h23 h456
    have hkn : known { f with text := s.take q, kind := (kk : Nat), hat := p, info := i, num := n, more := m, next := v } = ended { f with text := s.take q, kind := (kk : Nat), hat := p, info := i, num := n, more := m, next := v, out := f.out ++ [⟨kk, n, []⟩] } p := by
      unfold known
      rw [if_neg (by simp; omega), if_neg (by simp; omega), if_neg (by simp; omega), if_neg (by simp; omega)]
    rw [hkn] at hw
    refine ⟨⟨hmv.le, hmv.qs, hmv.qb, hmv.err, hmv.taken, hmv.frames, hmv.ended, hmv.place⟩, by simp [hyo], by simp [hyo]; omega, hpq, _, v, hw, ?_⟩
    refine ended_congr ?_ p
    simp [norm, hand, h.out, hyo]
  intro d
  induction d with
  | zero =>
    intro x p f h hol
    unfold item
    have hh := head_sim h.toAt h.next h.out hol
    cases hr : R7.head s lim x p with
    | mk o y =>
      rw [hr] at hh
      cases o with
      | none => exact hh
      | some t =>
        obtain ⟨kk, n, q⟩ := t
        simp only at hh ⊢
        obtain ⟨hmv, hpq, hyo, hn, h8, hlt, i, m, v, hw⟩ := hh
        by_cases h23 : (kk == 2 || kk == 3) = true
        · rw [if_pos h23]
          exact textN_sim hmv hpq h.frames h.fl h.err h.out hyo hlt m v (by simpa using h23) hw
        · rw [if_neg h23]
          by_cases h456 : (kk == 4 || kk == 5 || kk == 6) = true
          · rw [if_pos h456]
            have hdeep : ((f.stack.length : Int) == f.lim.d) = true := by
              have := h.deep
              rw [h.fl]
              simpa using this
            have hop : ∀ N, opens { f with text := s.take q, kind := (kk : Nat), hat := p, info := i, num := n, more := m, next := v } N = wrong { f with text := s.take q, kind := (kk : Nat), hat := p, info := i, num := n, more := m, next := v } p 10 := fun N => by
              unfold opens
              exact if_pos hdeep
            have hkn : known { f with text := s.take q, kind := (kk : Nat), hat := p, info := i, num := n, more := m, next := v } = wrong { f with text := s.take q, kind := (kk : Nat), hat := p, info := i, num := n, more := m, next := v } p 10 := by
              simp only [Bool.or_eq_true, beq_iff_eq, not_or] at h23 h456
              unfold known
              rw [if_neg (by simp; omega)]
              rcases h456 with (rfl | rfl) | rfl
              · rw [if_pos (by simp), hop]
              · rw [if_neg (by simp), if_pos (by simp), hop]
              · rw [if_neg (by simp), if_neg (by simp), if_pos (by simp), hop]
            show Stuck _ _ _
            rw [hw, hkn]
            exact (hmv.at { f with text := s.take q, kind := (kk : Nat), hat := p, info := i, num := n, more := m, next := v } h.fl rfl h.err h.frames).stuck_wrong p 10 (by omega) _
          · rw [if_neg h456]
            exact plain 0 x p f kk n q y i m v h hmv hpq hyo hlt h8 h23 h456 hw
  | succ d ih =>
    intro x p f h hol
    unfold item
    have hh := head_sim h.toAt h.next h.out hol
    cases hr : R7.head s lim x p with
    | mk o y =>
      rw [hr] at hh
      cases o with
      | none => exact hh
      | some t =>
        obtain ⟨kk, n, q⟩ := t
        simp only at hh ⊢
        obtain ⟨hmv, hpq, hyo, hn, h8, hlt, i, m, v, hw⟩ := hh
        by_cases h23 : (kk == 2 || kk == 3) = true
        · rw [if_pos h23]
          exact textN_sim hmv hpq h.frames h.fl h.err h.out hyo hlt m v (by simpa using h23) hw
        · rw [if_neg h23]
          by_cases h456 : (kk == 4 || kk == 5 || kk == 6) = true
          · rw [if_pos h456]
            have hdeep : ((f.stack.length : Int) == f.lim.d) = false := by
              have := h.deep
              rw [h.fl]
              simp
              omega
            have hd : ((f.stack.length + 1 + d : Nat) : Int) = lim.d := by have := h.deep; omega
            have hop : ∀ N, opens { f with text := s.take q, kind := (kk : Nat), hat := p, info := i, num := n, more := m, next := v } N
                = settle (base s { f with kind := (kk : Nat), hat := p, info := i, num := n, more := m } q (f.out ++ [⟨kk, n, []⟩]) (⟨kk, p, i, n, m, N, [], false⟩ :: f.stack)) := fun N => by
              unfold opens
              exact if_neg (by simpa using hdeep)
            have hout : f.out ++ [⟨(kk : Int), n, []⟩] = ({ y with out := y.out ++ [⟨kk, n, []⟩], frames := y.frames + 1 } : St).out := by rw [h.out, ← hyo]
            have hol2 : (({ y with out := y.out ++ [⟨kk, n, []⟩], frames := y.frames + 1 } : St).out.length : Int) ≤ lim.i := by simp [hyo]; omega
            have hfr : ({ y with out := y.out ++ [⟨kk, n, []⟩], frames := y.frames + 1 } : St).frames = f.stack.length + 1 := by show y.frames + 1 = _; rw [hmv.frames, h.frames]
            simp only [Bool.or_eq_true, beq_iff_eq, not_or] at h23 h456
            rcases h456 with (rfl | rfl) | rfl
            · have hkn : known { f with text := s.take q, kind := ((4 : Nat) : Int), hat := p, info := i, num := n, more := m, next := v } = opens { f with text := s.take q, kind := ((4 : Nat) : Int), hat := p, info := i, num := n, more := m, next := v } n := by
                unfold known
                rw [if_neg (by simp), if_pos (by simp)]
              rw [hkn, hop] at hw
              refine hold_fin (F := settle (base s { f with kind := ((4 : Nat) : Int), hat := p, info := i, num := n, more := m } q (f.out ++ [⟨(4 : Nat), n, []⟩]) (⟨(4 : Nat), p, i, n, m, n, [], false⟩ :: f.stack))) (c := n) hmv hyo hpq hw _ ?_ (if_pos (by rfl))
              have := items_sim (s := s) (lim := lim) (item s lim d) d (fun x p f => ih x p f) f h.fl h.err ⟨(4 : Nat), p, i, n, m, n, [], false⟩ f.stack (by simp) hd n { y with out := y.out ++ [⟨(4 : Nat), n, []⟩], frames := y.frames + 1 } q
                (settle (base s { f with kind := ((4 : Nat) : Int), hat := p, info := i, num := n, more := m } q (f.out ++ [⟨(4 : Nat), n, []⟩]) (⟨(4 : Nat), p, i, n, m, n, [], false⟩ :: f.stack))) hmv.qs hmv.qb hmv.err hmv.taken hfr hmv.ended hol2 (settle_congr (by rw [hout]; rfl))
              exact this
            · have hkn : known { f with text := s.take q, kind := ((5 : Nat) : Int), hat := p, info := i, num := n, more := m, next := v } = opens { f with text := s.take q, kind := ((5 : Nat) : Int), hat := p, info := i, num := n, more := m, next := v } (2 * min n 1099511627776) := by
                unfold known
                rw [if_neg (by simp), if_neg (by simp), if_pos (by simp)]
              rw [hkn, hop] at hw
              have hps := pairs_sim (s := s) (lim := lim) (item s lim d) d (fun x p f => ih x p f) f h.fl h.err ⟨(5 : Nat), p, i, n, m, 0, [], false⟩ f.stack (by simp) hd (min n 1099511627776) none { y with out := y.out ++ [⟨(5 : Nat), n, []⟩], frames := y.frames + 1 } q
                (settle (base s { f with kind := ((5 : Nat) : Int), hat := p, info := i, num := n, more := m } q (f.out ++ [⟨(5 : Nat), n, []⟩]) (⟨(5 : Nat), p, i, n, m, 2 * min n 1099511627776, [], false⟩ :: f.stack))) hmv.qs hmv.qb hmv.err hmv.taken hfr hmv.ended hol2 (settle_congr (by rw [hout]; rfl))
              have hsame : pairsN s (item s lim d) n none { y with out := y.out ++ [⟨(5 : Nat), n, []⟩], frames := y.frames + 1 } q = pairsN s (item s lim d) (min n 1099511627776) none { y with out := y.out ++ [⟨(5 : Nat), n, []⟩], frames := y.frames + 1 } q := by
                by_cases hle : n ≤ 1099511627776
                · rw [Nat.min_eq_left hle]
                · have hmin : min n 1099511627776 = 1099511627776 := Nat.min_eq_right (by omega)
                  rw [hmin] at hps ⊢
                  cases hr2 : pairsN s (item s lim d) 1099511627776 none { y with out := y.out ++ [⟨(5 : Nat), n, []⟩], frames := y.frames + 1 } q with
                  | mk o z =>
                    rw [hr2] at hps
                    cases o with
                    | none =>
                      have := pairsN_more (s := s) (item s lim d) 1099511627776 (n - 1099511627776) none _ q z hr2
                      rw [show 1099511627776 + (n - 1099511627776) = n by omega] at this
                      exact this
                    | some t =>
                      obtain ⟨_, j2, j3, _⟩ := hps
                      exfalso
                      have : z.out.length ≤ 4096 := by have := hmay; omega
                      omega
              refine hold_fin (F := settle (base s { f with kind := ((5 : Nat) : Int), hat := p, info := i, num := n, more := m } q (f.out ++ [⟨(5 : Nat), n, []⟩]) (⟨(5 : Nat), p, i, n, m, 2 * min n 1099511627776, [], false⟩ :: f.stack))) (c := min n 1099511627776) hmv hyo hpq hw _ hps ?_
              rw [if_neg (by simp), if_pos (by simp)]
              exact hsame
            · have hkn : known { f with text := s.take q, kind := ((6 : Nat) : Int), hat := p, info := i, num := n, more := m, next := v } = opens { f with text := s.take q, kind := ((6 : Nat) : Int), hat := p, info := i, num := n, more := m, next := v } 1 := by
                unfold known
                rw [if_neg (by simp), if_neg (by simp), if_neg (by simp), if_pos (by simp)]
              rw [hkn, hop] at hw
              refine hold_fin (F := settle (base s { f with kind := ((6 : Nat) : Int), hat := p, info := i, num := n, more := m } q (f.out ++ [⟨(6 : Nat), n, []⟩]) (⟨(6 : Nat), p, i, n, m, 1, [], false⟩ :: f.stack))) (c := 1) hmv hyo hpq hw _ ?_ ((if_neg (by simp)).trans ((if_neg (by simp)).trans (itemsN_one _ _ _).symm))
              have := items_sim (s := s) (lim := lim) (item s lim d) d (fun x p f => ih x p f) f h.fl h.err ⟨(6 : Nat), p, i, n, m, 1, [], false⟩ f.stack (by simp) hd 1 { y with out := y.out ++ [⟨(6 : Nat), n, []⟩], frames := y.frames + 1 } q
                (settle (base s { f with kind := ((6 : Nat) : Int), hat := p, info := i, num := n, more := m } q (f.out ++ [⟨(6 : Nat), n, []⟩]) (⟨(6 : Nat), p, i, n, m, 1, [], false⟩ :: f.stack))) hmv.qs hmv.qb hmv.err hmv.taken hfr hmv.ended hol2 (settle_congr (by rw [hout]; rfl))
              exact this
          · rw [if_neg h456]
            exact plain (d + 1) x p f kk n q y i m v h hmv hpq hyo hlt h8 h23 h456 hw
end

/-- The feed tells what the reference's reader tells. -/
theorem feed_ref (s : Bytes) (lim : Lim) (hm : lim.may = true) :
    (write (init lim) s).err = (if (read s lim).ended then 0 else (read s lim).err) ∧ Cf.End (write (init lim) s) = (list (read s lim), (read s lim).place, (read s lim).err) ∧
      (write (init lim) s).text.length = (read s lim).taken ∧ (write (init lim) s).stack.length = (read s lim).frames := by
  have hmay := may_of hm
  have hsim : Sim s lim start 0 (init lim) lim.d.toNat := ⟨⟨rfl, by simp [init], Nat.zero_le _, by omega, rfl, rfl, rfl, rfl, rfl⟩, rfl, rfl, by show ((0 + lim.d.toNat : Nat) : Int) = lim.d; omega⟩
  have hi := item_sim (s := s) hm lim.d.toNat start 0 (init lim) hsim (by show ((0 : Nat) : Int) ≤ lim.i; omega)
  have fin : ∀ (x : St) (g : Feed), Stuck s x g → g.err = (if x.ended then 0 else x.err) ∧ Cf.End g = (list x, x.place, x.err) ∧ g.text.length = x.taken ∧ g.stack.length = x.frames := by
    intro x g h
    refine ⟨?_, ?_, h.taken, h.frames⟩
    · cases he : x.ended
      · simpa using (h.told he).1
      · simpa using (h.ended he).1
    · have hl : list x = [] := by
        unfold list
        rw [if_neg (by simpa using h.xerr)]
      rw [hl]
      unfold Cf.End
      cases he : x.ended
      · have ht := h.told he
        rw [if_pos (by rw [ht.1]; simpa using h.xerr), ht.1, ht.2]
      · obtain ⟨h1, h2, h3, h4, h5⟩ := h.ended he
        rw [if_neg (by simp [h1]), if_pos (by simpa using h2), h3, h4, h5]
  unfold read
  cases hr : item s lim lim.d.toNat start 0 with
  | mk o x =>
    rw [hr] at hi
    cases o with
    | none => exact fin x _ hi
    | some q =>
      obtain ⟨i1, i2, i3, i4, g, v, i5, i6⟩ := hi
      rw [show s.drop 0 = s from rfl] at i5
      have e6 : ended { init lim with text := s.take q, out := x.out, next := v } 0 = { init lim with text := s.take q, out := x.out, next := 3 } := rfl
      rw [e6] at i6
      have hat : At s lim x q { init lim with text := s.take q, out := x.out, next := 3 } := i1.at _ rfl rfl rfl rfl
      simp only
      by_cases hq : q < s.length
      · rw [if_pos hq]
        have hnw := write_norm (s.drop q) _ _ i6.symm (.inr (.inl rfl))
        rw [i5]
        cases hw : want s lim x q with
        | mk b y =>
          cases b with
          | false =>
            simp only
            refine fin y _ (Stuck.norm ?_ hnw)
            have hps := hat.ps
            have hpb := hat.pb
            unfold want at hw
            by_cases h1 : q < s.length ∧ (q : Int) < lim.b
            · rw [if_pos h1] at hw; simp at hw
            · rw [if_neg h1, if_pos (by omega)] at hw
              simp only [Prod.mk.injEq, true_and] at hw
              subst hw
              have hp : (q : Int) = lim.b := by omega
              rw [write_drop _ s q hq rfl]
              have hb : byte { init lim with text := s.take q, out := x.out, next := 3 } s[q] = wrong { init lim with text := s.take q, out := x.out, next := 3 } lim.b 10 := by
                unfold byte
                rw [if_pos (by rw [hat.len]; show ((q : Int) == lim.b) = true; simpa using hp)]
                rfl
              rw [hb, write_err _ (by simp [wrong])]
              refine ⟨fun w => ?_, fun _ => ⟨rfl, rfl⟩, by simp [fault], ?_, hat.frames.symm⟩
              · rw [show (fault (take x lim.b.toNat) lim.b 10).ended = x.ended from rfl, hat.ended] at w; cases w
              · show (s.take q).length = max x.taken lim.b.toNat
                rw [hat.taken, List.length_take, Nat.min_eq_left (by omega)]; omega
          | true =>
            simp only
            refine fin _ _ (Stuck.norm ?_ hnw)
            obtain ⟨hp, hb, ey, hat2, hwr, hget⟩ := want_yes hat hw
            rw [hwr]
            have hby : byteOn { init lim with text := s.take q ++ [s[q]], out := x.out, next := 3 } s[q] = wrong { init lim with text := s.take q ++ [s[q]], out := x.out, next := 3 } q 9 := by
              unfold byteOn
              simp only
              rw [if_neg (by simp), if_neg (by simp), if_neg (by simp)]
              congr 1
              simp
              omega
            rw [hby]
            exact hat2.stuck_wrong q 9 (by omega) _
      · rw [if_neg hq]
        have hqe : q = s.length := by have := hat.ps; omega
        subst hqe
        rw [i5, List.drop_length]
        rw [hand_of_norm i6.symm]
        refine ⟨?_, ?_, ?_, ?_⟩
        · rw [hat.ended]; exact hat.xerr.symm
        · have hl : list x = x.out := by
            unfold list
            rw [if_pos (by simpa using hat.xerr)]
          rw [hl]
          show (x.out, (0 : Int), (0 : Int)) = (x.out, x.place, x.err)
          rw [hat.xerr, i1.place]
          rfl
        · show (s.take s.length).length = x.taken
          rw [hat.taken, List.take_length]
        · exact hat.frames.symm
end Go.Px.R7

/-! The program's reader of package cbor as plain functions on plain data. No program is named here. -/
namespace Go.Px.D7
structure Fm where
  kind : Int
  at_ : Nat
  left : Nat
  key : Bytes
  any : Bool
structure Dx where
  at_ : Nat
  stack : List Fm
  out : List Atom
abbrev Flt := Int × Int
def want (s : Bytes) (lim : Lim) (p : Nat) : Except Flt Nat :=
  if s.length ≤ p then .error (s.length, 9) else if lim.b ≤ p then .error (lim.b, 10) else .ok (s.getD p 0).toNat
def argN (s : Bytes) (lim : Lim) : Nat → Nat → Nat → Except Flt Nat
  | 0, _, n => .ok n
  | m + 1, p, n => match want s lim p with
    | .error e => .error e
    | .ok c => argN s lim m (p + 1) (n * 256 + c)
/-- A head: its kind, its argument, the place behind. -/
def head (s : Bytes) (lim : Lim) (o p : Nat) : Except Flt (Nat × Nat × Nat) :=
  match want s lim p with
  | .error e => .error e
  | .ok c =>
    if (o : Int) = lim.i then .error (p, 10)
    else if 27 < c % 32 then .error (p, 9)
    else if c / 32 == 7 && (decide (c % 32 < 20) || decide (23 < c % 32)) then .error (p, 11)
    else if c % 32 < 24 then .ok (c / 32, c % 32, p + 1)
    else match argN s lim (2 ^ (c % 32 - 24)) (p + 1) 0 with
      | .error e => .error e
      | .ok n => if n < Cf.least (c % 32) then .error (p, 9) else .ok (c / 32, n, p + 1 + 2 ^ (c % 32 - 24))
def room (s : Bytes) (lim : Lim) (p : Nat) : Nat := min s.length lim.b.toNat - p
def take (s : Bytes) (lim : Lim) (p n : Nat) : Except Flt Bytes :=
  if room s lim p < n then (match want s lim (p + room s lim p) with | .error e => .error e | .ok _ => .ok []) else .ok ((s.take (p + n)).drop p)
def ended (s : Bytes) (x : Dx) (p : Nat) : Except Flt Dx :=
  match x.stack with
  | [] => .ok x
  | f :: rest =>
    if f.kind == 5 && f.left % 2 == 0 then
      if f.any && leB ((s.take x.at_).drop p) f.key then .error (p, 9)
      else .ok { x with stack := { f with key := (s.take x.at_).drop p, any := true, left := f.left - 1 } :: rest }
    else .ok { x with stack := { f with left := f.left - 1 } :: rest }
def push (lim : Lim) (x : Dx) (p k n q left : Nat) : Except Flt Dx :=
  if (x.stack.length : Int) = lim.d then .error (p, 10)
  else .ok { at_ := q, stack := ⟨k, p, left, [], false⟩ :: x.stack, out := x.out ++ [⟨k, n, []⟩] }
def beginD (s : Bytes) (lim : Lim) (x : Dx) : Except Flt Dx :=
  match head s lim x.out.length x.at_ with
  | .error e => .error e
  | .ok (k, n, q) =>
    if k == 2 || k == 3 then
      match take s lim q n with
      | .error e => .error e
      | .ok t => if k == 3 && !Lib.validD t then .error (x.at_, 9) else ended s { at_ := q + n, stack := x.stack, out := x.out ++ [⟨k, 0, t⟩] } x.at_
    else if k == 4 then push lim x x.at_ k n q n
    else if k == 5 then push lim x x.at_ k n q (2 * min n 1099511627776)
    else if k == 6 then push lim x x.at_ k n q 1
    else ended s { at_ := q, stack := x.stack, out := x.out ++ [⟨k, n, []⟩] } x.at_
def loopN (s : Bytes) (lim : Lim) : Nat → Dx → Option (Except Flt Dx)
  | 0, _ => none
  | m + 1, x => match x.stack with
    | [] => some (.ok x)
    | f :: rest =>
      if 0 < f.left then (match beginD s lim x with | .error e => some (.error e) | .ok y => loopN s lim m y)
      else match ended s { x with stack := rest } f.at_ with | .error e => some (.error e) | .ok y => loopN s lim m y
def after (s : Bytes) (lim : Lim) (r : Except Flt Dx) (m : Nat) : Option (Except Flt Dx) :=
  match r with
  | .error e => some (.error e)
  | .ok y => loopN s lim m y
end Go.Px.D7

/-! The program's reader does what the reference's does (plain law). No program is named here. -/
namespace Go.Px.D7
open R7 (St Moved)

/-- What holds of the reference's reader between two items. -/
structure Ok (s : Bytes) (lim : Lim) (x : St) (p : Nat) : Prop where
  ps : p ≤ s.length
  pb : (p : Int) ≤ lim.b
  taken : x.taken = p
  out : (x.out.length : Int) ≤ lim.i
def flt (y : St) : Flt := (y.place, y.err)

theorem want_ok {s : Bytes} {lim : Lim} {x y : St} {p : Nat} (h : R7.want s lim x p = (true, y)) (ht : x.taken = p) : want s lim p = .ok (s.getD p 0).toNat ∧ p < s.length ∧ (p : Int) < lim.b ∧ y = { x with taken := p + 1 } := by
  unfold R7.want at h
  by_cases h1 : p < s.length ∧ (p : Int) < lim.b
  · rw [if_pos h1] at h
    simp only [Prod.mk.injEq, true_and] at h
    refine ⟨?_, h1.1, h1.2, ?_⟩
    · unfold want; rw [if_neg (by omega), if_neg (by omega)]
    · rw [← h]; unfold R7.take; rw [ht, Nat.max_eq_right (Nat.le_succ p)]
  · rw [if_neg h1] at h
    split at h <;> simp at h
theorem want_bad {s : Bytes} {lim : Lim} {x y : St} {p : Nat} (h : R7.want s lim x p = (false, y)) (hp : p ≤ s.length) (hb : (p : Int) ≤ lim.b) : want s lim p = .error (flt y) := by
  unfold R7.want at h
  by_cases h1 : p < s.length ∧ (p : Int) < lim.b
  · rw [if_pos h1] at h; simp at h
  · rw [if_neg h1] at h
    by_cases h2 : lim.b < s.length
    · rw [if_pos h2] at h
      simp only [Prod.mk.injEq, true_and] at h
      subst h
      unfold want
      rw [if_neg (by omega), if_pos (by omega)]
      rfl
    · rw [if_neg h2] at h
      simp only [Prod.mk.injEq, true_and] at h
      subst h
      unfold want
      rw [if_pos (by omega)]
      rfl
theorem argN_eq (s : Bytes) (lim : Lim) : ∀ (m : Nat) (x : St) (p n : Nat), x.taken = p → p ≤ s.length → (p : Int) ≤ lim.b →
    match R7.argN s lim m x p n with
    | (some v, y) => argN s lim m p n = .ok v ∧ y = { x with taken := p + m } ∧ p + m ≤ s.length ∧ ((p + m : Nat) : Int) ≤ lim.b
    | (none, y) => argN s lim m p n = .error (flt y)
  | 0, x, p, n, ht, hp, hb => ⟨rfl, by rw [Nat.add_zero, ← ht], hp, hb⟩
  | m + 1, x, p, n, ht, hp, hb => by
    unfold R7.argN argN
    cases hw : R7.want s lim x p with
    | mk b y =>
      cases b
      · simp only; rw [want_bad hw hp hb]
      · obtain ⟨h1, h2, h3, h4⟩ := want_ok hw ht
        simp only
        rw [h1]
        simp only
        have := argN_eq s lim m y (p + 1) (n * 256 + (s.getD p 0).toNat) (by rw [h4]) h2 (by omega)
        cases hr : R7.argN s lim m y (p + 1) (n * 256 + (s.getD p 0).toNat) with
        | mk o z =>
          rw [hr] at this
          cases o with
          | none => exact this
          | some v =>
            obtain ⟨a, b, c, d⟩ := this
            refine ⟨a, ?_, by omega, by omega⟩
            rw [b, h4, show p + 1 + m = p + (m + 1) by omega]
theorem argN_small (s : Bytes) (lim : Lim) : ∀ (m : Nat) (x : St) (p n k : Nat), n < 256 ^ k → ∀ v y, R7.argN s lim m x p n = (some v, y) → v < 256 ^ (k + m)
  | 0, x, p, n, k, h, v, y, e => by
    unfold R7.argN at e
    simp only [Prod.mk.injEq, Option.some.injEq] at e
    rw [← e.1]; exact h
  | m + 1, x, p, n, k, h, v, y, e => by
    unfold R7.argN at e
    cases hw : R7.want s lim x p with
    | mk b z =>
      rw [hw] at e
      cases b
      · simp at e
      · have hc := (s.getD p 0).toNat_lt
        have := argN_small s lim m z (p + 1) (n * 256 + (s.getD p 0).toNat) (k + 1) (by rw [Nat.pow_succ]; omega) v y e
        rw [show k + (m + 1) = k + 1 + m by omega]; exact this
theorem head_eq {s : Bytes} {lim : Lim} {x : St} {p : Nat} (h : Ok s lim x p) :
    match R7.head s lim x p with
    | (some (k, n, q), y) => head s lim x.out.length p = .ok (k, n, q) ∧ y = { x with taken := q } ∧ q ≤ s.length ∧ (q : Int) ≤ lim.b ∧ p < q ∧ k < 8 ∧ n < 18446744073709551616
    | (none, y) => head s lim x.out.length p = .error (flt y) := by
  unfold R7.head head
  cases hw : R7.want s lim x p with
  | mk b y =>
    cases b
    · simp only; rw [want_bad hw h.ps h.pb]
    · obtain ⟨h1, h2, h3, h4⟩ := want_ok hw h.taken
      have hyo : y.out = x.out := by rw [h4]
      have hc := (s.getD p 0).toNat_lt
      simp only
      rw [h1]
      simp only
      obtain ⟨c, hcc⟩ : ∃ c, c = (s.getD p 0).toNat := ⟨_, rfl⟩
      rw [← hcc] at hc ⊢
      have ho := h.out
      by_cases hi : lim.i ≤ y.out.length
      · rw [if_pos hi, if_pos (show (x.out.length : Int) = lim.i by rw [hyo] at hi; omega)]; rfl
      · rw [if_neg hi, if_neg (show ¬ (x.out.length : Int) = lim.i by rw [hyo] at hi; omega)]
        by_cases h27 : 27 < c % 32
        · rw [if_pos h27, if_pos h27]; rfl
        · rw [if_neg h27, if_neg h27]
          by_cases h7 : (c / 32 == 7 && (decide (c % 32 < 20) || decide (23 < c % 32))) = true
          · rw [if_pos h7, if_pos h7]; rfl
          · rw [if_neg h7, if_neg h7]
            by_cases h24 : c % 32 < 24
            · rw [if_pos h24, if_pos h24]
              exact ⟨rfl, h4, h2, by omega, by omega, by omega, by omega⟩
            · rw [if_neg h24, if_neg h24]
              have ha := argN_eq s lim (2 ^ (c % 32 - 24)) y (p + 1) 0 (by rw [h4]) h2 (by omega)
              have hs := argN_small s lim (2 ^ (c % 32 - 24)) y (p + 1) 0 0 (by simp)
              cases hr : R7.argN s lim (2 ^ (c % 32 - 24)) y (p + 1) 0 with
              | mk o z =>
                rw [hr] at ha
                cases o with
                | none =>
                  simp only at ha ⊢
                  rw [ha]
                | some n =>
                  simp only at ha ⊢
                  obtain ⟨a1, a2, a3, a4⟩ := ha
                  rw [a1]
                  simp only
                  have hn := hs n z hr
                  rw [Nat.zero_add] at hn
                  have hl := R7.headB_len (c / 32) n (c % 32) (by omega) (by omega) hn
                  by_cases hlt : n < Cf.least (c % 32)
                  · rw [if_neg (fun e => hl.1 e hlt), if_pos hlt]; rfl
                  · rw [if_pos (hl.2 hlt), if_neg hlt]
                    refine ⟨rfl, by rw [a2, h4], a3, a4, Nat.lt_of_lt_of_le (Nat.lt_succ_self p) (Nat.le_add_right _ _), by omega, Nat.lt_of_lt_of_le hn (Cf.pow256_le _ (by have := Cf.two_pow_le (c % 32) (by omega); omega))⟩
theorem wantN_eq (s : Bytes) (lim : Lim) : ∀ (m : Nat) (x : St) (p : Nat), x.taken = p → p ≤ s.length → (p : Int) ≤ lim.b →
    match R7.wantN s lim m x p with
    | (true, y) => y = { x with taken := p + m } ∧ p + m ≤ s.length ∧ ((p + m : Nat) : Int) ≤ lim.b
    | (false, y) => room s lim p < m ∧ want s lim (p + room s lim p) = .error (flt y)
  | 0, x, p, ht, hp, hb => ⟨by rw [Nat.add_zero, ← ht], hp, hb⟩
  | m + 1, x, p, ht, hp, hb => by
    unfold R7.wantN
    cases hw : R7.want s lim x p with
    | mk b y =>
      cases b
      · have hr0 : room s lim p = 0 := by
          unfold room
          unfold R7.want at hw
          by_cases h1 : p < s.length ∧ (p : Int) < lim.b
          · rw [if_pos h1] at hw; simp at hw
          · omega
        exact ⟨by omega, by rw [hr0, Nat.add_zero]; exact want_bad hw hp hb⟩
      · obtain ⟨h1, h2, h3, h4⟩ := want_ok hw ht
        simp only
        have := wantN_eq s lim m y (p + 1) (by rw [h4]) h2 (by omega)
        cases hr : R7.wantN s lim m y (p + 1) with
        | mk o z =>
          rw [hr] at this
          cases o with
          | true =>
            obtain ⟨a, b, c⟩ := this
            exact ⟨by rw [a, h4, show p + 1 + m = p + (m + 1) by omega], by omega, by omega⟩
          | false =>
            obtain ⟨a, b⟩ := this
            have hrm : room s lim p = room s lim (p + 1) + 1 := by unfold room at *; omega
            exact ⟨by omega, by rw [hrm, show p + (room s lim (p + 1) + 1) = p + 1 + room s lim (p + 1) by omega]; exact b⟩
theorem room_enough {s : Bytes} {lim : Lim} {p n : Nat} (h1 : p + n ≤ s.length) (h2 : ((p + n : Nat) : Int) ≤ lim.b) : ¬ room s lim p < n := by unfold room; omega

/-! Items -/
def Runs (r : Nat → Option (Except Flt Dx)) (e : Nat → Option (Except Flt Dx)) : Prop := ∃ n, ∀ m, r (n + m) = e m
theorem Runs.refl {r : Nat → Option (Except Flt Dx)} : Runs r r := ⟨0, fun m => by rw [Nat.zero_add]⟩
theorem Runs.trans {r e f : Nat → Option (Except Flt Dx)} (h : Runs r e) (k : Runs e f) : Runs r f := by
  obtain ⟨n, h⟩ := h
  obtain ⟨n2, k⟩ := k
  exact ⟨n + n2, fun m => by rw [Nat.add_assoc, h, k]⟩
theorem Runs.step {r e : Nat → Option (Except Flt Dx)} (h : ∀ m, r (m + 1) = e m) : Runs r e := ⟨1, fun m => by rw [Nat.add_comm]; exact h m⟩
theorem Runs.of {r e : Nat → Option (Except Flt Dx)} (h : ∀ m, r m = e m) : Runs r e := ⟨0, fun m => by rw [Nat.zero_add]; exact h m⟩

def ItemD (s : Bytes) (lim : Lim) (x : St) (p : Nat) (st : List Fm) (r : Option Nat × St) : Prop :=
  match r with
  | (some q, y) => Ok s lim y q ∧ x.out.length < y.out.length ∧ Runs (after s lim (beginD s lim ⟨p, st, x.out⟩)) (after s lim (ended s ⟨q, st, y.out⟩ p))
  | (none, y) => Runs (after s lim (beginD s lim ⟨p, st, x.out⟩)) (fun _ => some (.error (flt y)))
def ItemsD (s : Bytes) (lim : Lim) (x : St) (d : Dx) (st : List Fm) (at0 c : Nat) (r : Option Nat × St) : Prop :=
  match r with
  | (some q, y) => Ok s lim y q ∧ x.out.length + c ≤ y.out.length ∧ Runs (fun m => loopN s lim m d) (after s lim (ended s ⟨q, st, y.out⟩ at0))
  | (none, y) => Runs (fun m => loopN s lim m d) (fun _ => some (.error (flt y)))
theorem loop_beg (s : Bytes) (lim : Lim) (x : Dx) (f : Fm) (rest : List Fm) (h : x.stack = f :: rest) (hl : 0 < f.left) : Runs (fun m => loopN s lim m x) (after s lim (beginD s lim x)) := by
  refine Runs.step fun m => ?_
  show loopN s lim (m + 1) x = _
  unfold loopN
  rw [h]
  simp only
  rw [if_pos hl]
  rfl
theorem loop_pop (s : Bytes) (lim : Lim) (x : Dx) (f : Fm) (rest : List Fm) (h : x.stack = f :: rest) (hl : f.left = 0) : Runs (fun m => loopN s lim m x) (after s lim (ended s { x with stack := rest } f.at_)) := by
  refine Runs.step fun m => ?_
  show loopN s lim (m + 1) x = _
  unfold loopN
  rw [h]
  simp only
  rw [if_neg (by omega)]
  rfl

theorem items_eq (s : Bytes) (lim : Lim) (rc : St → Nat → Option Nat × St) (d : Nat) (hrc : ∀ x p st, Ok s lim x p → ((st.length + d : Nat) : Int) = lim.d → ItemD s lim x p st (rc x p)) (f : Fm) (hf : f.kind ≠ 5) (st : List Fm) (hd : ((st.length + 1 + d : Nat) : Int) = lim.d) :
    ∀ (m : Nat) (x : St) (p : Nat), Ok s lim x p → ItemsD s lim x ⟨p, { f with left := m } :: st, x.out⟩ st f.at_ m (R7.itemsN rc m x p) := by
  intro m
  induction m with
  | zero =>
    intro x p h
    exact ⟨h, Nat.le_refl _, loop_pop s lim _ { f with left := 0 } st rfl rfl⟩
  | succ m ih =>
    intro x p h
    have h1 := loop_beg s lim ⟨p, { f with left := m + 1 } :: st, x.out⟩ { f with left := m + 1 } st rfl (Nat.succ_pos m)
    have h2 := hrc x p ({ f with left := m + 1 } :: st) h hd
    unfold R7.itemsN
    cases hr : rc x p with
    | mk o y =>
      rw [hr] at h2
      cases o with
      | none => exact h1.trans h2
      | some q =>
        simp only
        obtain ⟨i1, i2, i4⟩ := h2
        have he : ended s ⟨q, { f with left := m + 1 } :: st, y.out⟩ p = .ok ⟨q, { f with left := m } :: st, y.out⟩ := by
          unfold ended
          simp only
          rw [if_neg (by simp [hf])]
          rfl
        rw [he] at i4
        have h3 := ih y q i1
        cases hr2 : R7.itemsN rc m y q with
        | mk o2 z =>
          rw [hr2] at h3
          cases o2 with
          | none => exact h1.trans (i4.trans h3)
          | some r =>
            obtain ⟨j1, j2, j3⟩ := h3
            exact ⟨j1, by omega, h1.trans (i4.trans j3)⟩
theorem pairs_eq (s : Bytes) (lim : Lim) (rc : St → Nat → Option Nat × St) (d : Nat) (hrc : ∀ x p st, Ok s lim x p → ((st.length + d : Nat) : Int) = lim.d → ItemD s lim x p st (rc x p)) (f : Fm) (hf : f.kind = 5) (st : List Fm) (hd : ((st.length + 1 + d : Nat) : Int) = lim.d) :
    ∀ (m : Nat) (last : Option Bytes) (x : St) (p : Nat), Ok s lim x p → ItemsD s lim x ⟨p, { f with left := 2 * m, key := last.getD [], any := last.isSome } :: st, x.out⟩ st f.at_ m (R7.pairsN s rc m last x p) := by
  intro m
  induction m with
  | zero =>
    intro last x p h
    exact ⟨h, Nat.le_refl _, loop_pop s lim _ { f with left := 2 * 0, key := last.getD [], any := last.isSome } st rfl rfl⟩
  | succ m ih =>
    intro last x p h
    have h1 := loop_beg s lim ⟨p, { f with left := 2 * (m + 1), key := last.getD [], any := last.isSome } :: st, x.out⟩ { f with left := 2 * (m + 1), key := last.getD [], any := last.isSome } st rfl (show 0 < 2 * (m + 1) by omega)
    have h2 := hrc x p ({ f with left := 2 * (m + 1), key := last.getD [], any := last.isSome } :: st) h hd
    unfold R7.pairsN
    cases hr : rc x p with
    | mk o y =>
      rw [hr] at h2
      cases o with
      | none => exact h1.trans h2
      | some q =>
        simp only
        obtain ⟨i1, i2, i4⟩ := h2
        have hany : (last.any fun l => leB ((s.take q).drop p) l) = (last.isSome && leB ((s.take q).drop p) (last.getD [])) := by cases last <;> rfl
        rw [hany]
        have he : ended s ⟨q, { f with left := 2 * (m + 1), key := last.getD [], any := last.isSome } :: st, y.out⟩ p = if (last.isSome && leB ((s.take q).drop p) (last.getD [])) = true then .error (p, 9) else .ok ⟨q, { f with left := 2 * (m + 1) - 1, key := (s.take q).drop p, any := true } :: st, y.out⟩ := by
          unfold ended
          simp only
          rw [if_pos (by simp [hf])]
        rw [he] at i4
        by_cases hb : (last.isSome && leB ((s.take q).drop p) (last.getD [])) = true
        · rw [if_pos hb]
          rw [if_pos hb] at i4
          exact h1.trans i4
        · rw [if_neg hb]
          rw [if_neg hb] at i4
          have h3 := loop_beg s lim ⟨q, { f with left := 2 * (m + 1) - 1, key := (s.take q).drop p, any := true } :: st, y.out⟩ { f with left := 2 * (m + 1) - 1, key := (s.take q).drop p, any := true } st rfl (show 0 < 2 * (m + 1) - 1 by omega)
          have h4 := hrc y q ({ f with left := 2 * (m + 1) - 1, key := (s.take q).drop p, any := true } :: st) i1 hd
          cases hr2 : rc y q with
          | mk o2 z =>
            rw [hr2] at h4
            cases o2 with
            | none => exact h1.trans (i4.trans (h3.trans h4))
            | some r =>
              simp only
              obtain ⟨j1, j2, j4⟩ := h4
              have he2 : ended s ⟨r, { f with left := 2 * (m + 1) - 1, key := (s.take q).drop p, any := true } :: st, z.out⟩ q = .ok ⟨r, { f with left := 2 * m, key := (s.take q).drop p, any := true } :: st, z.out⟩ := by
                unfold ended
                simp only
                rw [if_neg (by simp; omega)]
                rw [show 2 * (m + 1) - 1 - 1 = 2 * m by omega]
              rw [he2] at j4
              have h5 := ih (some ((s.take q).drop p)) z r j1
              cases hr3 : R7.pairsN s rc m (some ((s.take q).drop p)) z r with
              | mk o3 z3 =>
                rw [hr3] at h5
                cases o3 with
                | none => exact h1.trans (i4.trans (h3.trans (j4.trans h5)))
                | some t =>
                  obtain ⟨k1, k2, k3⟩ := h5
                  exact ⟨k1, by omega, h1.trans (i4.trans (h3.trans (j4.trans k3)))⟩
theorem text_eq {s : Bytes} {lim : Lim} {x y : St} {p q k n : Nat} {st : List Fm} (hy : y = { x with taken := q }) (hqs : q ≤ s.length) (hqb : (q : Int) ≤ lim.b) (hh : head s lim x.out.length p = .ok (k, n, q)) (hlt : (x.out.length : Int) < lim.i) (hk : (k == 2 || k == 3) = true) :
    ItemD s lim x p st (R7.textN s lim k n y p q) := by
  have hb : beginD s lim ⟨p, st, x.out⟩ = (match take s lim q n with
      | .error e => .error e
      | .ok t => if k == 3 && !Lib.validD t then .error (p, 9) else ended s ⟨q + n, st, x.out ++ [⟨k, 0, t⟩]⟩ p) := by
    unfold beginD
    rw [hh]
    simp only
    rw [if_pos hk]
    try rfl
  have hw := wantN_eq s lim n y q (by rw [hy]) hqs hqb
  unfold R7.textN
  cases hr : R7.wantN s lim n y q with
  | mk o z =>
    rw [hr] at hw
    cases o with
    | false =>
      obtain ⟨a, b⟩ := hw
      have ht : take s lim q n = .error (flt z) := by unfold take; rw [if_pos a, b]
      rw [ht] at hb
      refine Runs.of fun m => ?_
      rw [hb]
      rfl
    | true =>
      obtain ⟨a, b, c⟩ := hw
      have ht : take s lim q n = .ok ((s.take (q + n)).drop q) := by unfold take; rw [if_neg (room_enough b c)]
      rw [ht] at hb
      simp only at hb ⊢
      have hzo : z.out = x.out := by rw [a, hy]
      by_cases hv : (k == 3 && !Lib.validD ((s.take (q + n)).drop q)) = true
      · rw [if_pos hv] at hb ⊢
        refine Runs.of fun m => ?_
        rw [hb]
        rfl
      · rw [if_neg hv] at hb ⊢
        refine ⟨⟨b, c, by rw [a, hy], by simp [hzo]; omega⟩, by simp [hzo], Runs.of fun m => ?_⟩
        rw [hb, hzo]
theorem push_ok {lim : Lim} {x : St} {p q k n left : Nat} {st : List Fm} (h : ¬ (st.length : Int) = lim.d) : push lim ⟨p, st, x.out⟩ p k n q left = .ok ⟨q, ⟨k, p, left, [], false⟩ :: st, x.out ++ [⟨k, n, []⟩]⟩ := by
  unfold push
  rw [if_neg h]

theorem item_eq (s : Bytes) (lim : Lim) (hm : lim.may = true) : ∀ (d : Nat) (x : St) (p : Nat) (st : List Fm), Ok s lim x p → ((st.length + d : Nat) : Int) = lim.d → ItemD s lim x p st (R7.item s lim d x p) := by
  have hmay := Cf.may_of hm
  intro d
  induction d with
  | zero =>
    intro x p st h hd
    have hh := head_eq h
    unfold R7.item
    cases hr : R7.head s lim x p with
    | mk o y =>
      rw [hr] at hh
      cases o with
      | none =>
        refine Runs.of fun m => ?_
        unfold beginD
        rw [hh]
        rfl
      | some t =>
        obtain ⟨k, n, q⟩ := t
        simp only at hh ⊢
        obtain ⟨h1, h2, h3, h4, h5, h6, h7⟩ := hh
        have hlt : (x.out.length : Int) < lim.i := by
          have := h.out
          unfold head at h1
          cases hw : want s lim p with
          | error e => rw [hw] at h1; simp at h1
          | ok c =>
            rw [hw] at h1
            simp only at h1
            by_cases e : (x.out.length : Int) = lim.i
            · rw [if_pos e] at h1; simp at h1
            · omega
        by_cases h23 : (k == 2 || k == 3) = true
        · rw [if_pos h23]; exact text_eq h2 h3 h4 h1 hlt h23
        · rw [if_neg h23]
          by_cases h456 : (k == 4 || k == 5 || k == 6) = true
          · rw [if_pos h456]
            refine Runs.of fun m => ?_
            have hfull : ∀ l, push lim ⟨p, st, x.out⟩ p k n q l = .error (p, 10) := fun l => by unfold push; rw [if_pos (show (st.length : Int) = lim.d by omega)]
            have hbe : beginD s lim ⟨p, st, x.out⟩ = .error (p, 10) := by
              unfold beginD
              rw [h1]
              simp only
              rw [if_neg h23]
              simp only [Bool.or_eq_true, beq_iff_eq] at h456
              rcases h456 with (rfl | rfl) | rfl
              · rw [if_pos (by simp), hfull]
              · rw [if_neg (by simp), if_pos (by simp), hfull]
              · rw [if_neg (by simp), if_neg (by simp), if_pos (by simp), hfull]
            rw [hbe]
            rfl
          · rw [if_neg h456]
            have hyo : y.out = x.out := by rw [h2]
            refine ⟨⟨h3, h4, by rw [h2], by simp [hyo]; omega⟩, by simp [hyo], Runs.of fun m => ?_⟩
            have hbe : beginD s lim ⟨p, st, x.out⟩ = ended s ⟨q, st, x.out ++ [⟨k, n, []⟩]⟩ p := by
              unfold beginD
              rw [h1]
              simp only
              simp only [Bool.or_eq_true, beq_iff_eq, not_or] at h456
              rw [if_neg h23, if_neg (by simp [h456]), if_neg (by simp [h456]), if_neg (by simp [h456])]
            rw [hbe, hyo]
  | succ d ih =>
    intro x p st h hd
    have hh := head_eq h
    unfold R7.item
    cases hr : R7.head s lim x p with
    | mk o y =>
      rw [hr] at hh
      cases o with
      | none =>
        refine Runs.of fun m => ?_
        unfold beginD
        rw [hh]
        rfl
      | some t =>
        obtain ⟨k, n, q⟩ := t
        simp only at hh ⊢
        obtain ⟨h1, h2, h3, h4, h5, h6, h7⟩ := hh
        have hlt : (x.out.length : Int) < lim.i := by
          have := h.out
          unfold head at h1
          cases hw : want s lim p with
          | error e => rw [hw] at h1; simp at h1
          | ok c =>
            rw [hw] at h1
            simp only at h1
            by_cases e : (x.out.length : Int) = lim.i
            · rw [if_pos e] at h1; simp at h1
            · omega
        have hyo : y.out = x.out := by rw [h2]
        by_cases h23 : (k == 2 || k == 3) = true
        · rw [if_pos h23]; exact text_eq h2 h3 h4 h1 hlt h23
        · rw [if_neg h23]
          by_cases h456 : (k == 4 || k == 5 || k == 6) = true
          · rw [if_pos h456]
            have hdd : ¬ (st.length : Int) = lim.d := by omega
            have hd1 : ((st.length + 1 + d : Nat) : Int) = lim.d := by omega
            have hOk : Ok s lim { y with out := y.out ++ [⟨k, n, []⟩], frames := y.frames + 1 } q := ⟨h3, h4, by rw [h2], by simp [hyo]; omega⟩
            have fin : ∀ (left c : Nat) (r : Option Nat × St), beginD s lim ⟨p, st, x.out⟩ = .ok ⟨q, ⟨k, p, left, [], false⟩ :: st, x.out ++ [⟨k, n, []⟩]⟩ →
                ItemsD s lim { y with out := y.out ++ [⟨k, n, []⟩], frames := y.frames + 1 } ⟨q, ⟨k, p, left, [], false⟩ :: st, y.out ++ [⟨k, n, []⟩]⟩ st p c r →
                (if k == 4 then R7.itemsN (R7.item s lim d) n { y with out := y.out ++ [⟨k, n, []⟩], frames := y.frames + 1 } q else if k == 5 then R7.pairsN s (R7.item s lim d) n none { y with out := y.out ++ [⟨k, n, []⟩], frames := y.frames + 1 } q else R7.item s lim d { y with out := y.out ++ [⟨k, n, []⟩], frames := y.frames + 1 } q) = r →
                ItemD s lim x p st (R7.holdN s (R7.item s lim d) k n y q) := by
              intro left c r hb hi hre
              unfold R7.holdN
              simp only [hre]
              rw [hyo] at hi
              have h0 : Runs (after s lim (beginD s lim ⟨p, st, x.out⟩)) (fun m => loopN s lim m ⟨q, ⟨k, p, left, [], false⟩ :: st, x.out ++ [⟨k, n, []⟩]⟩) := Runs.of fun m => by rw [hb]; rfl
              obtain ⟨o, z⟩ := r
              cases o with
              | none => exact h0.trans hi
              | some t =>
                obtain ⟨j1, j2, j3⟩ := hi
                refine ⟨⟨j1.ps, j1.pb, j1.taken, j1.out⟩, ?_, h0.trans j3⟩
                simp only [List.length_append, List.length_singleton] at j2
                show x.out.length < z.out.length
                omega
            simp only [Bool.or_eq_true, beq_iff_eq] at h456
            rcases h456 with (rfl | rfl) | rfl
            · refine fin n n _ ?_ ?_ (if_pos (by rfl))
              · unfold beginD; rw [h1]; simp only; rw [if_neg (by simp), if_pos (by simp)]; exact push_ok hdd
              · exact items_eq s lim (R7.item s lim d) d ih ⟨(4 : Nat), p, n, [], false⟩ (by simp) st hd1 n _ q hOk
            · have hps := pairs_eq s lim (R7.item s lim d) d ih ⟨(5 : Nat), p, 0, [], false⟩ (by simp) st hd1 (min n 1099511627776) none _ q hOk
              have hsame : R7.pairsN s (R7.item s lim d) n none { y with out := y.out ++ [⟨(5 : Nat), n, []⟩], frames := y.frames + 1 } q = R7.pairsN s (R7.item s lim d) (min n 1099511627776) none { y with out := y.out ++ [⟨(5 : Nat), n, []⟩], frames := y.frames + 1 } q := by
                by_cases hle : n ≤ 1099511627776
                · rw [Nat.min_eq_left hle]
                · have hmin : min n 1099511627776 = 1099511627776 := Nat.min_eq_right (by omega)
                  rw [hmin] at hps ⊢
                  cases hr2 : R7.pairsN s (R7.item s lim d) 1099511627776 none { y with out := y.out ++ [⟨(5 : Nat), n, []⟩], frames := y.frames + 1 } q with
                  | mk o z =>
                    rw [hr2] at hps
                    cases o with
                    | none =>
                      have := R7.pairsN_more (s := s) (R7.item s lim d) 1099511627776 (n - 1099511627776) none _ q z hr2
                      rw [show 1099511627776 + (n - 1099511627776) = n by omega] at this
                      exact this
                    | some t =>
                      obtain ⟨j1, j2, _⟩ := hps
                      exfalso
                      have := j1.out
                      have : z.out.length ≤ 4096 := by have := hmay; omega
                      omega
              refine fin (2 * min n 1099511627776) (min n 1099511627776) _ ?_ hps ?_
              · unfold beginD; rw [h1]; simp only; rw [if_neg (by simp), if_neg (by simp), if_pos (by simp)]; exact push_ok hdd
              · rw [if_neg (by simp), if_pos (by simp)]; exact hsame
            · refine fin 1 1 _ ?_ ?_ ((if_neg (by simp)).trans ((if_neg (by simp)).trans (R7.itemsN_one _ _ _).symm))
              · unfold beginD; rw [h1]; simp only; rw [if_neg (by simp), if_neg (by simp), if_neg (by simp), if_pos (by simp)]; exact push_ok hdd
              · exact items_eq s lim (R7.item s lim d) d ih ⟨(6 : Nat), p, 1, [], false⟩ (by simp) st hd1 1 _ q hOk
          · rw [if_neg h456]
            refine ⟨⟨h3, h4, by rw [h2], by simp [hyo]; omega⟩, by simp [hyo], Runs.of fun m => ?_⟩
            have hbe : beginD s lim ⟨p, st, x.out⟩ = ended s ⟨q, st, x.out ++ [⟨k, n, []⟩]⟩ p := by
              unfold beginD
              rw [h1]
              simp only
              simp only [Bool.or_eq_true, beq_iff_eq, not_or] at h456
              rw [if_neg h23, if_neg (by simp [h456]), if_neg (by simp [h456]), if_neg (by simp [h456])]
            rw [hbe, hyo]
/-- What the whole reading comes to: enough rounds are enough. -/
def run (s : Bytes) (lim : Lim) (m : Nat) : Option (Except Flt Dx) := after s lim (beginD s lim ⟨0, [], []⟩) m
theorem run_ref (s : Bytes) (lim : Lim) (hm : lim.may = true) :
    match R7.item s lim lim.d.toNat R7.start 0 with
    | (some q, y) => ∃ m, run s lim m = some (.ok ⟨q, [], y.out⟩)
    | (none, y) => ∃ m, run s lim m = some (.error (flt y)) := by
  have hmay := Cf.may_of hm
  have h := item_eq s lim hm lim.d.toNat R7.start 0 [] ⟨Nat.zero_le _, by omega, rfl, by show ((0 : Nat) : Int) ≤ lim.i; omega⟩ (by show ((0 + lim.d.toNat : Nat) : Int) = lim.d; omega)
  cases hr : R7.item s lim lim.d.toNat R7.start 0 with
  | mk o y =>
    rw [hr] at h
    cases o with
    | none =>
      obtain ⟨n, h⟩ := h
      exact ⟨n, h 0⟩
    | some q =>
      obtain ⟨_, _, n, h⟩ := h
      exact ⟨n + 1, h 1⟩
end Go.Px.D7

/-! The telling of layer 17 as plain functions: heads and texts in a row; what is one right item; the stack that counts. No program is named here. -/
namespace Go.Px.R7
/-- What Decode hands back: items, place, error. -/
def decode (s : Bytes) (lim : Lim) : List Atom × Int × Int := if lim.may then (list (read s lim), (read s lim).place, (read s lim).err) else ([], 0, 2)
theorem decode_no {s : Bytes} {lim : Lim} (h : lim.may = false) : decode s lim = ([], 0, 2) := by unfold decode; rw [h]; rfl
theorem decode_yes {s : Bytes} {lim : Lim} (h : lim.may = true) : decode s lim = (list (read s lim), (read s lim).place, (read s lim).err) := by unfold decode; rw [h]; rfl
end Go.Px.R7
namespace Go.Px.E7

def atomB (a : Atom) : Bytes := R7.headB a.kind.toNat (if a.kind == 2 || a.kind == 3 then a.text.length else a.num) ++ a.text
def encB (l : List Atom) : Bytes := l.flatMap atomB
def right (a : Atom) : Bool :=
  if a.kind == 2 then a.num == 0
  else if a.kind == 3 then a.num == 0 && Lib.validD a.text
  else if a.kind == 7 then a.text.isEmpty && (decide (20 ≤ a.num) && decide (a.num ≤ 23))
  else if a.kind == 0 || a.kind == 1 || a.kind == 4 || a.kind == 5 || a.kind == 6 then a.text.isEmpty
  else false
def leaf (a : Atom) : Bool := !(a.kind == 4 || a.kind == 5 || a.kind == 6)
def holds (a : Atom) : Option Nat := if a.kind == 4 then some (min a.num 1099511627776) else if a.kind == 5 then some (2 * min a.num 1099511627776) else if a.kind == 6 then some 1 else none
def count (a : Atom) : Nat := if a.kind == 4 then a.num else if a.kind == 5 then 2 * a.num else 1
def dec : List Nat → List Nat
  | [] => []
  | n :: r => (n - 1) :: r
def pops : List Nat → List Nat
  | [] => []
  | n :: r => if n = 0 then pops r else n :: r
/-- The program's count of what stands within one another. -/
def shape : Bool → List Atom → List Nat → Nat → Option (Nat × List Nat)
  | _, [], left, most => some (most, left)
  | first, a :: r, left, most =>
    if (!first && left.isEmpty) || !right a then none
    else match holds a with
      | some n => shape false r (pops (n :: dec left)) (max most (left.length + 1))
      | none => shape false r (pops (dec left)) most
/-- The reference's. -/
def behind : List Atom → List Nat → Nat → Nat → Option Nat × Nat
  | [], _, most, _ => (none, most)
  | a :: r, left, most, i =>
    if (a.kind == 4 || a.kind == 5) && decide (5000 < a.num) then (none, most)
    else
      let left2 := if leaf a then dec left else count a :: dec left
      if (pops left2).isEmpty then (some (i + 1), max most left2.length) else behind r (pops left2) (max most left2.length) (i + 1)

/-! Items in a row -/
def Kids (R : List Atom → Bool → Prop) (mp : Bool) : Nat → Nat → Bytes → List Atom → Bool → Prop
  | 0, _, _, l, o => l = [] ∧ o = false
  | m + 1, i, last, l, o => ∃ x r o1 o2, l = x ++ r ∧ R x o1 ∧ Kids R mp m (i + 1) (if mp && i % 2 == 0 then encB x else last) r o2 ∧ o = (o1 || (mp && i % 2 == 0 && decide (0 < i) && leB (encB x) last) || o2)
/-- One item, within which at most d stand within one another; the letter says whether keys are out of order somewhere. -/
def ItF : Nat → List Atom → Bool → Prop
  | 0, l, o => ∃ a, l = [a] ∧ right a = true ∧ leaf a = true ∧ o = false
  | d + 1, l, o => (∃ a, l = [a] ∧ right a = true ∧ leaf a = true ∧ o = false) ∨ (∃ a r, l = a :: r ∧ right a = true ∧ leaf a = false ∧ Kids (ItF d) (a.kind == 5) (count a) 0 [] r o)
theorem Kids.mono {R R' : List Atom → Bool → Prop} (h : ∀ l o, R l o → R' l o) {mp : Bool} : ∀ {m i last l o}, Kids R mp m i last l o → Kids R' mp m i last l o
  | 0, _, _, _, _, k => k
  | _ + 1, _, _, _, _, ⟨x, r, o1, o2, e, h1, h2, h3⟩ => ⟨x, r, o1, o2, e, h _ _ h1, Kids.mono h h2, h3⟩
theorem ItF.succ : ∀ {d l o}, ItF d l o → ItF (d + 1) l o
  | 0, _, _, h => .inl h
  | _ + 1, _, _, .inl h => .inl h
  | _ + 1, _, _, .inr ⟨a, r, e, h1, h2, h3⟩ => .inr ⟨a, r, e, h1, h2, h3.mono fun _ _ h => ItF.succ h⟩
theorem ItF.mono {d e : Nat} (hd : d ≤ e) {l : List Atom} {o : Bool} (h : ItF d l o) : ItF e l o := by
  induction hd with
  | refl => exact h
  | step _ ih => exact ih.succ
theorem ItF.pos {d : Nat} {l : List Atom} {o : Bool} (h : ItF d l o) : 1 ≤ l.length := by
  cases d with
  | zero => obtain ⟨a, rfl, _⟩ := h; exact Nat.le_refl _
  | succ d =>
    rcases h with ⟨a, rfl, _⟩ | ⟨a, r, rfl, _⟩
    · exact Nat.le_refl _
    · simp
theorem Kids.le {R : List Atom → Bool → Prop} (h : ∀ l o, R l o → 1 ≤ l.length) {mp : Bool} : ∀ {m i last l o}, Kids R mp m i last l o → m ≤ l.length
  | 0, _, _, _, _, _ => Nat.zero_le _
  | m + 1, i, last, l, o, ⟨x, r, o1, o2, e, h1, h2, h3⟩ => by
    have a := h _ _ h1
    have b := Kids.le h h2
    subst e
    simp only [List.length_append]
    omega
theorem ItF.all : ∀ {d l o}, ItF d l o → ∀ a ∈ l, right a = true
  | 0, _, _, ⟨a, e, h, _⟩ => by subst e; intro b hb; rw [List.mem_singleton.1 hb]; exact h
  | d + 1, _, _, .inl ⟨a, e, h, _⟩ => by subst e; intro b hb; rw [List.mem_singleton.1 hb]; exact h
  | d + 1, _, _, .inr ⟨a, r, e, h, _, hk⟩ => by
    subst e
    have inner : ∀ (m i : Nat) (last : Bytes) (mp : Bool) (l : List Atom) (o : Bool), Kids (ItF d) mp m i last l o → ∀ a ∈ l, right a = true := by
      intro m
      induction m with
      | zero => intro i last mp l o k; obtain ⟨rfl, _⟩ := k; intro a ha; cases ha
      | succ m ih =>
        intro i last mp l o ⟨x, r, o1, o2, e, h1, h2, _⟩
        subst e
        intro a ha
        rcases List.mem_append.1 ha with ha | ha
        · exact ItF.all h1 a ha
        · exact ih _ _ _ _ _ h2 a ha
    intro b hb
    rcases List.mem_cons.1 hb with rfl | hb
    · exact h
    · exact inner _ _ _ _ _ _ hk b hb

/-! From the stack to items -/
def RowsN (R : List Atom → Bool → Prop) : Nat → List Atom → Prop
  | 0, l => l = []
  | n + 1, l => ∃ x r o, l = x ++ r ∧ R x o ∧ RowsN R n r
theorem RowsN.kids {R : List Atom → Bool → Prop} (mp : Bool) : ∀ {n l}, RowsN R n l → ∀ i last, ∃ o, Kids R mp n i last l o
  | 0, _, h => fun _ _ => ⟨false, h, rfl⟩
  | n + 1, _, ⟨x, r, o, e, h1, h2⟩ => fun i last => by
    obtain ⟨o2, k⟩ := RowsN.kids mp h2 (i + 1) (if mp && i % 2 == 0 then encB x else last)
    exact ⟨_, x, r, o, o2, e, h1, k, rfl⟩
theorem RowsN.le {R : List Atom → Bool → Prop} (h : ∀ l o, R l o → 1 ≤ l.length) : ∀ {n l}, RowsN R n l → n ≤ l.length
  | 0, _, _ => Nat.zero_le _
  | n + 1, _, ⟨x, r, o, e, h1, h2⟩ => by
    have a := h _ _ h1
    have b := RowsN.le h h2
    subst e
    simp only [List.length_append]
    omega
def Stk (D : Nat) : List Nat → List Atom → Prop
  | [], l => l = []
  | c :: rest, l => ∃ l1 l2, l = l1 ++ l2 ∧ RowsN (ItF (D - (rest.length + 1))) c l1 ∧ Stk D rest l2
theorem Stk.pops {D : Nat} : ∀ {st l}, Stk D (E7.pops st) l → Stk D st l
  | [], _, h => h
  | n :: r, l, h => by
    unfold E7.pops at h
    by_cases hn : n = 0
    · rw [if_pos hn] at h
      subst hn
      exact ⟨[], l, rfl, rfl, Stk.pops h⟩
    · rw [if_neg hn] at h
      exact h
theorem pops_pos : ∀ (st : List Nat), pops st = [] ∨ ∃ n r, pops st = (n + 1) :: r
  | [] => .inl rfl
  | n :: r => by
    unfold pops
    by_cases hn : n = 0
    · rw [if_pos hn]; exact pops_pos r
    · rw [if_neg hn]; exact .inr ⟨n - 1, r, by rw [Nat.sub_add_cancel (by omega)]⟩
theorem pops_len : ∀ (st : List Nat), (pops st).length ≤ st.length
  | [] => Nat.le_refl _
  | n :: r => by
    unfold pops
    by_cases hn : n = 0
    · rw [if_pos hn]; have := pops_len r; simp; omega
    · rw [if_neg hn]; exact Nat.le_refl _
theorem shape_most : ∀ (l : List Atom) (f : Bool) (left : List Nat) (most m : Nat) (e : List Nat), shape f l left most = some (m, e) → most ≤ m
  | [], f, left, most, m, e, h => by unfold shape at h; simp only [Option.some.injEq, Prod.mk.injEq] at h; omega
  | a :: r, f, left, most, m, e, h => by
    unfold shape at h
    split at h
    · cases h
    · split at h
      · have := shape_most r _ _ _ _ _ h; omega
      · exact shape_most r _ _ _ _ _ h
theorem holds_leaf {a : Atom} (h : leaf a = true) : holds a = none := by
  unfold leaf at h
  simp only [Bool.not_eq_true', Bool.or_eq_false_iff] at h
  unfold holds
  rw [h.1.1, h.1.2, h.2]
  rfl
theorem holds_some {a : Atom} (h : leaf a = false) : ∃ n, holds a = some n ∧ (n = count a ∨ 1099511627776 ≤ n) := by
  unfold leaf at h
  simp only [Bool.not_eq_false', Bool.or_eq_true] at h
  unfold holds count
  rcases h with (h | h) | h
  · rw [h]
    refine ⟨_, rfl, ?_⟩
    by_cases hc : a.num ≤ 1099511627776
    · rw [Nat.min_eq_left hc]; exact .inl rfl
    · rw [Nat.min_eq_right (by omega)]; exact .inr (Nat.le_refl _)
  · have h4 : (a.kind == 4) = false := by have := beq_iff_eq.1 h; rw [this]; rfl
    rw [h4, h]
    refine ⟨_, rfl, ?_⟩
    by_cases hc : a.num ≤ 1099511627776
    · rw [Nat.min_eq_left hc]; exact .inl rfl
    · rw [Nat.min_eq_right (by omega)]; exact .inr (by omega)
  · have h4 : (a.kind == 4) = false := by have := beq_iff_eq.1 h; rw [this]; rfl
    have h5 : (a.kind == 5) = false := by have := beq_iff_eq.1 h; rw [this]; rfl
    rw [h4, h5, h]
    exact ⟨1, rfl, .inl rfl⟩
theorem ItF.node {d : Nat} {a : Atom} {r : List Atom} {o : Bool} (h1 : right a = true) (h2 : leaf a = false) (h3 : Kids (ItF d) (a.kind == 5) (count a) 0 [] r o) : ItF (d + 1) (a :: r) o := .inr ⟨a, r, rfl, h1, h2, h3⟩
theorem ItF.one {d : Nat} {a : Atom} (h1 : right a = true) (h2 : leaf a = true) : ItF d [a] false := by
  cases d with
  | zero => exact ⟨a, rfl, h1, h2, rfl⟩
  | succ d => exact .inl ⟨a, rfl, h1, h2, rfl⟩
theorem stk_of_shape (D : Nat) : ∀ (l : List Atom) (left : List Nat) (most m : Nat), shape false l left most = some (m, []) → m ≤ D → left.length ≤ D → (left = [] ∨ ∃ n r, left = (n + 1) :: r) → l.length < 1099511627776 → Stk D left l
  | [], left, most, m, h, _, _, _, _ => by
    unfold shape at h
    simp only [Option.some.injEq, Prod.mk.injEq] at h
    rw [h.2]
    exact rfl
  | a :: r, left, most, m, h, hm, hl, hp, hz => by
    unfold shape at h
    by_cases hc : (!false && left.isEmpty || !right a) = true
    · rw [if_pos hc] at h; cases h
    · rw [if_neg hc] at h
      have hc2 : left.isEmpty = false ∧ right a = true := by
        simpa using hc
      obtain ⟨hne, hra⟩ := hc2
      rcases hp with rfl | ⟨n, rest, rfl⟩
      · cases hne
      · simp only [List.length_cons] at hl hz
        have hdec : dec ((n + 1) :: rest) = n :: rest := rfl
        rw [hdec] at h
        cases hlf : leaf a
        · obtain ⟨k, hk, hkc⟩ := holds_some hlf
          rw [hk] at h
          simp only at h
          have hmm := shape_most _ _ _ _ _ _ h
          have := pops_len (k :: n :: rest)
          simp only [List.length_cons] at this hmm
          have ih := (stk_of_shape D r _ _ m h hm (by omega) (pops_pos _) (by omega)).pops
          obtain ⟨l1, l2, rfl, h1, h2⟩ := ih
          obtain ⟨l3, l4, rfl, h3, h4⟩ := h2
          have hkl := RowsN.le (fun _ _ h => ItF.pos h) h1
          have hkc' : k = count a := by
            rcases hkc with e | e
            · exact e
            · simp only [List.length_append] at hz; omega
          subst hkc'
          obtain ⟨o, hko⟩ := h1.kids (a.kind == 5) 0 []
          refine ⟨a :: l1 ++ l3, l4, by simp, ⟨a :: l1, l3, o, rfl, ?_, h3⟩, h4⟩
          have e1 : D - (rest.length + 1) = D - ((n :: rest).length + 1) + 1 := by simp only [List.length_cons]; omega
          rw [e1]
          exact ItF.node hra hlf hko
        · rw [holds_leaf hlf] at h
          simp only at h
          have := pops_len (n :: rest)
          simp only [List.length_cons] at this
          have ih := (stk_of_shape D r _ _ m h hm (by omega) (pops_pos _) (by omega)).pops
          obtain ⟨l1, l2, rfl, h1, h2⟩ := ih
          exact ⟨a :: l1, l2, rfl, ⟨[a], l1, false, rfl, ItF.one hra hlf, h1⟩, h2⟩
theorem it_of_shape {D : Nat} {l : List Atom} {m : Nat} (hn : l ≠ []) (h : shape true l [] 0 = some (m, [])) (hm : m ≤ D) (hz : l.length < 1099511627776) : ∃ o, ItF D l o := by
  cases l with
  | nil => exact absurd rfl hn
  | cons a r =>
    unfold shape at h
    by_cases hc : (!true && ([] : List Nat).isEmpty || !right a) = true
    · rw [if_pos hc] at h; cases h
    · rw [if_neg hc] at h
      have hra : right a = true := by simpa using hc
      simp only [List.length_cons] at hz
      cases hlf : leaf a
      · obtain ⟨k, hk, hkc⟩ := holds_some hlf
        rw [hk] at h
        simp only [dec] at h
        have hmm := shape_most _ _ _ _ _ _ h
        have := pops_len [k]
        simp only [List.length_cons, List.length_nil] at this hmm
        have ih := (stk_of_shape D r _ _ m h hm (by omega) (pops_pos _) (by omega)).pops
        obtain ⟨l1, l2, rfl, h1, rfl⟩ := ih
        have hkl := RowsN.le (fun _ _ h => ItF.pos h) h1
        have hkc' : k = count a := by
          rcases hkc with e | e
          · exact e
          · simp only [List.length_append] at hz; omega
        subst hkc'
        obtain ⟨o, hko⟩ := h1.kids (a.kind == 5) 0 []
        rw [List.append_nil]
        refine ⟨o, ?_⟩
        have e1 : D = D - (([] : List Nat).length + 1) + 1 := by simp only [List.length_nil]; omega
        rw [e1]
        exact ItF.node hra hlf hko
      · rw [holds_leaf hlf] at h
        simp only [dec, pops] at h
        cases r with
        | nil => exact ⟨false, ItF.one hra hlf⟩
        | cons b t =>
          unfold shape at h
          rw [if_pos (by simp)] at h
          cases h

/-! From items to the stack -/
theorem shape_kids (d : Nat) (hR : ∀ x o, ItF d x o → x.length < 1099511627776 → ∀ r c rest most, ∃ m1, shape false (x ++ r) ((c + 1) :: rest) most = shape false r (pops (c :: rest)) m1 ∧ m1 ≤ max most (rest.length + 1 + d)) (mp : Bool) :
    ∀ (n i : Nat) (last : Bytes) (l : List Atom) (o : Bool), Kids (ItF d) mp n i last l o → l.length < 1099511627776 → ∀ r rest most, ∃ m1, shape false (l ++ r) (pops (n :: rest)) most = shape false r (pops rest) m1 ∧ m1 ≤ max most (rest.length + 1 + d) := by
  intro n
  induction n with
  | zero =>
    intro i last l o h _ r rest most
    obtain ⟨rfl, _⟩ := h
    exact ⟨most, rfl, by omega⟩
  | succ n ih =>
    intro i last l o ⟨x, t, o1, o2, e, h1, h2, _⟩ hz r rest most
    subst e
    simp only [List.length_append] at hz
    obtain ⟨m1, e1, l1⟩ := hR x o1 h1 (by omega) (t ++ r) n rest most
    obtain ⟨m2, e2, l2⟩ := ih _ _ _ _ h2 (by omega) r rest m1
    refine ⟨m2, ?_, by omega⟩
    rw [List.append_assoc]
    have hp : pops ((n + 1) :: rest) = (n + 1) :: rest := rfl
    rw [hp, e1, e2]
theorem holds_count {a : Atom} (h : leaf a = false) (hc : count a < 1099511627776) : holds a = some (count a) := by
  unfold leaf at h
  simp only [Bool.not_eq_false', Bool.or_eq_true] at h
  unfold holds
  unfold count at hc ⊢
  rcases h with (h | h) | h
  · simp only [h, if_true] at hc ⊢
    rw [Nat.min_eq_left (by omega)]
  · have h4 : (a.kind == 4) = false := by have := beq_iff_eq.1 h; rw [this]; rfl
    simp only [h, h4, if_true] at hc ⊢
    simp only [Bool.false_eq_true, if_false] at hc ⊢
    rw [Nat.min_eq_left (by omega)]
  · have h4 : (a.kind == 4) = false := by have := beq_iff_eq.1 h; rw [this]; rfl
    have h5 : (a.kind == 5) = false := by have := beq_iff_eq.1 h; rw [this]; rfl
    simp only [h, h4, h5]
    rfl
theorem shape_it : ∀ (d : Nat) (x : List Atom) (o : Bool), ItF d x o → x.length < 1099511627776 → ∀ r c rest most, ∃ m1, shape false (x ++ r) ((c + 1) :: rest) most = shape false r (pops (c :: rest)) m1 ∧ m1 ≤ max most (rest.length + 1 + d) := by
  have one : ∀ (d : Nat) (a : Atom), right a = true → leaf a = true → ∀ r c rest most, ∃ m1, shape false ([a] ++ r) ((c + 1) :: rest) most = shape false r (pops (c :: rest)) m1 ∧ m1 ≤ max most (rest.length + 1 + d) := by
    intro d a h1 h2 r c rest most
    refine ⟨most, ?_, by omega⟩
    show shape false (a :: r) ((c + 1) :: rest) most = _
    rw [shape, if_neg (by simp [h1]), holds_leaf h2]
    rfl
  intro d
  induction d with
  | zero =>
    intro x o h _
    obtain ⟨a, rfl, h1, h2, _⟩ := h
    exact one 0 a h1 h2
  | succ d ih =>
    intro x o h hz
    rcases h with ⟨a, rfl, h1, h2, _⟩ | ⟨a, t, rfl, h1, h2, h3⟩
    · exact one (d + 1) a h1 h2
    · intro r c rest most
      have hcl := Kids.le (fun _ _ h => ItF.pos h) h3
      simp only [List.length_cons] at hz
      obtain ⟨m1, e1, l1⟩ := shape_kids d ih (a.kind == 5) (count a) 0 [] t o h3 (by omega) r (c :: rest) (max most (((c + 1) :: rest).length + 1))
      refine ⟨m1, ?_, by simp only [List.length_cons] at l1; omega⟩
      show shape false (a :: (t ++ r)) ((c + 1) :: rest) most = _
      rw [shape, if_neg (by simp [h1]), holds_count h2 (by omega)]
      exact e1
theorem shape_of_it {d : Nat} {l : List Atom} {o : Bool} (h : ItF d l o) (hz : l.length < 1099511627776) : ∃ m, shape true l [] 0 = some (m, []) ∧ m ≤ d ∧ l ≠ [] := by
  have one : ∀ (a : Atom), right a = true → leaf a = true → shape true [a] [] 0 = some (0, []) := by
    intro a h1 h2
    unfold shape
    rw [if_neg (by simp [h1]), holds_leaf h2]
    rfl
  cases d with
  | zero =>
    obtain ⟨a, rfl, h1, h2, _⟩ := h
    exact ⟨0, one a h1 h2, Nat.le_refl _, by simp⟩
  | succ d =>
    rcases h with ⟨a, rfl, h1, h2, _⟩ | ⟨a, t, rfl, h1, h2, h3⟩
    · exact ⟨0, one a h1 h2, Nat.zero_le _, by simp⟩
    · have hcl := Kids.le (fun _ _ h => ItF.pos h) h3
      simp only [List.length_cons] at hz
      obtain ⟨m1, e1, l1⟩ := shape_kids d (shape_it d) (a.kind == 5) (count a) 0 [] t o h3 (by omega) [] [] (max 0 (([] : List Nat).length + 1))
      refine ⟨m1, ?_, by simp only [List.length_nil] at l1; omega, by simp⟩
      rw [shape, if_neg (by simp [h1]), holds_count h2 (by omega)]
      rw [List.append_nil] at e1
      exact e1

/-! The two counts agree -/
theorem dec_len (l : List Nat) : (dec l).length = l.length := by cases l <;> rfl
theorem dec_empty (l : List Nat) : (dec l).isEmpty = l.isEmpty := by cases l <;> rfl
theorem shape_empty {l : List Atom} {most : Nat} (r : Nat × List Nat) (h : shape false l [] most = some r) : l = [] := by
  cases l with
  | nil => rfl
  | cons a t => unfold shape at h; rw [if_pos (by simp)] at h; cases h
theorem shape_right : ∀ (l : List Atom) (f : Bool) (left : List Nat) (most : Nat) (r : Nat × List Nat), shape f l left most = some r → ∀ a ∈ l, right a = true
  | [], _, _, _, _, _ => fun _ h => by cases h
  | a :: t, f, left, most, r, h => by
    unfold shape at h
    split at h
    · cases h
    · rename_i hc
      have hra : right a = true := by
        simp only [Bool.or_eq_true, not_or, Bool.not_eq_true', Bool.not_eq_false] at hc
        exact hc.2
      intro b hb
      rcases List.mem_cons.1 hb with rfl | hb
      · exact hra
      · split at h
        · exact shape_right t _ _ _ _ h b hb
        · exact shape_right t _ _ _ _ h b hb
theorem count_small {a : Atom} {n : Nat} (hlf : leaf a = false) (hn : holds a = some n) (hnl : n ≤ 4096) : ((a.kind == 4 || a.kind == 5) && decide (5000 < a.num)) = false ∧ n = count a := by
  unfold leaf at hlf
  simp only [Bool.not_eq_false', Bool.or_eq_true] at hlf
  unfold holds at hn
  unfold count
  rcases hlf with (h | h) | h
  · simp only [h, if_true, Option.some.injEq] at hn ⊢
    simp only [Bool.true_or, Bool.true_and, decide_eq_false_iff_not]
    omega
  · have h4 : (a.kind == 4) = false := by have := beq_iff_eq.1 h; rw [this]; rfl
    simp only [h, h4, if_true, Option.some.injEq, Bool.false_eq_true, if_false] at hn ⊢
    simp only [Bool.or_true, Bool.true_and, decide_eq_false_iff_not]
    omega
  · have h4 : (a.kind == 4) = false := by have := beq_iff_eq.1 h; rw [this]; rfl
    have h5 : (a.kind == 5) = false := by have := beq_iff_eq.1 h; rw [this]; rfl
    simp only [h, h4, h5, if_true, Option.some.injEq, Bool.false_eq_true, if_false] at hn ⊢
    exact ⟨rfl, hn.symm⟩
theorem small_leaf {a : Atom} (hlf : leaf a = true) : ((a.kind == 4 || a.kind == 5) && decide (5000 < a.num)) = false := by
  unfold leaf at hlf
  simp only [Bool.not_eq_true', Bool.or_eq_false_iff] at hlf
  rw [hlf.1.1, hlf.1.2]
  rfl
/-- How much the count on top may be: no more than what stands behind. -/
theorem shape_top {l : List Atom} {c : Nat} {rest : List Nat} {most m : Nat} (h : shape false l (pops (c :: rest)) most = some (m, [])) (hz : l.length ≤ 4096) : c ≤ l.length := by
  have hl := pops_len (c :: rest)
  have k := (stk_of_shape (max m (rest.length + 1)) l _ _ m h (by omega) (by simp only [List.length_cons] at hl; omega) (pops_pos _) (by omega)).pops
  obtain ⟨l1, l2, rfl, h1, _⟩ := k
  have := RowsN.le (fun _ _ h => ItF.pos h) h1
  simp only [List.length_append]
  omega
theorem behind_of_shape : ∀ (l : List Atom) (f : Bool) (left : List Nat) (most m i : Nat), shape f l left most = some (m, []) → l ≠ [] → l.length ≤ 4096 → left.length ≤ most → behind l left most i = (some (i + l.length), m)
  | [], _, _, _, _, _, _, hn, _, _ => absurd rfl hn
  | a :: r, f, left, most, m, i, h, _, hz, hlm => by
    unfold shape at h
    unfold behind
    simp only [List.length_cons] at hz
    split at h
    · cases h
    · cases hlf : leaf a
      · obtain ⟨n, hn, _⟩ := holds_some hlf
        rw [hn] at h
        simp only at h
        have hnl := shape_top h (by omega)
        obtain ⟨hs, hc⟩ := count_small hlf hn (by omega)
        rw [if_neg (by rw [hs]; simp)]
        subst hc
        simp only [Bool.false_eq_true, if_false, List.length_cons, dec_len]
        cases hp : pops (count a :: dec left) with
        | nil =>
          rw [hp] at h
          have hr := shape_empty _ h
          subst hr
          rw [if_pos (by rfl)]
          unfold shape at h
          simp only [Option.some.injEq, Prod.mk.injEq] at h
          rw [← h.1]
          rfl
        | cons c t =>
          rw [hp] at h
          rw [if_neg (by simp)]
          have hr : r ≠ [] := by
            rintro rfl
            unfold shape at h
            simp at h
          have hlen := pops_len (count a :: dec left)
          rw [hp] at hlen
          simp only [List.length_cons, dec_len] at hlen
          rw [behind_of_shape r false _ _ m (i + 1) h hr (by omega) (by simp only [List.length_cons]; omega)]
          rw [show i + 1 + r.length = i + (r.length + 1) by omega]
      · rw [holds_leaf hlf] at h
        simp only at h
        rw [if_neg (by rw [small_leaf hlf]; simp)]
        simp only [if_true, dec_len]
        have hmx : max most left.length = most := by omega
        rw [hmx]
        cases hp : pops (dec left) with
        | nil =>
          rw [hp] at h
          have hr := shape_empty _ h
          subst hr
          rw [if_pos (by rfl)]
          unfold shape at h
          simp only [Option.some.injEq, Prod.mk.injEq] at h
          rw [← h.1]
          rfl
        | cons c t =>
          rw [hp] at h
          rw [if_neg (by simp)]
          have hr : r ≠ [] := by
            rintro rfl
            unfold shape at h
            simp at h
          have hlen := pops_len (dec left)
          rw [hp, dec_len] at hlen
          rw [behind_of_shape r false _ _ m (i + 1) h hr (by omega) (by omega)]
          rw [show i + 1 + r.length = i + (r.length + 1) by omega, List.length_cons]
theorem behind_le : ∀ (l : List Atom) (left : List Nat) (most i e m : Nat), behind l left most i = (some e, m) → i < e ∧ e ≤ i + l.length
  | [], _, _, _, _, _, h => by unfold behind at h; simp at h
  | a :: r, left, most, i, e, m, h => by
    rw [behind] at h
    split at h
    · simp at h
    · dsimp only at h
      generalize (if leaf a = true then dec left else count a :: dec left) = L at h
      split at h
      · simp only [Prod.mk.injEq, Option.some.injEq] at h
        simp only [List.length_cons]; omega
      · have := behind_le r _ _ _ _ _ h
        simp only [List.length_cons]; omega
theorem shape_of_behind : ∀ (l : List Atom) (f : Bool) (left : List Nat) (most m i : Nat), behind l left most i = (some (i + l.length), m) → (∀ a ∈ l, right a = true) → (f = true ∨ left ≠ []) → left.length ≤ most → shape f l left most = some (m, [])
  | [], _, _, _, _, _, h, _, _, _ => by unfold behind at h; simp at h
  | a :: r, f, left, most, m, i, h, hra, hf, hlm => by
    unfold behind at h
    unfold shape
    have ha := hra a (by simp)
    have hrr : ∀ b ∈ r, right b = true := fun b hb => hra b (by simp [hb])
    have hcond : ¬ ((!f && left.isEmpty || !right a) = true) := by
      rw [ha]
      rcases hf with rfl | hf
      · simp
      · simp [hf]
    rw [if_neg hcond]
    split at h
    · simp at h
    · rename_i hsm
      simp only at h
      cases hlf : leaf a
      · rw [hlf] at h
        simp only [Bool.false_eq_true, if_false, List.length_cons, dec_len] at h
        have hh : holds a = some (count a) := by
          refine holds_count hlf ?_
          unfold leaf at hlf
          simp only [Bool.not_eq_false', Bool.or_eq_true] at hlf
          unfold count
          rcases hlf with (k | k) | k
          · rw [k] at hsm ⊢
            simp only [Bool.true_or, Bool.true_and, decide_eq_true_eq] at hsm
            simp only [if_true]
            omega
          · have h4 : (a.kind == 4) = false := by have := beq_iff_eq.1 k; rw [this]; rfl
            rw [k] at hsm ⊢
            simp only [Bool.or_true, Bool.true_and, decide_eq_true_eq] at hsm
            rw [h4]
            simp only [if_true, Bool.false_eq_true, if_false]
            omega
          · have h4 : (a.kind == 4) = false := by have := beq_iff_eq.1 k; rw [this]; rfl
            have h5 : (a.kind == 5) = false := by have := beq_iff_eq.1 k; rw [this]; rfl
            rw [h4, h5]
            simp
        rw [hh]
        simp only
        cases hp : pops (count a :: dec left) with
        | nil =>
          rw [hp] at h
          rw [if_pos (by rfl)] at h
          simp only [Prod.mk.injEq, Option.some.injEq] at h
          have hr : r = [] := List.length_eq_zero_iff.1 (by omega)
          subst hr
          rw [← h.2]
          rfl
        | cons c t =>
          rw [hp] at h
          rw [if_neg (by simp)] at h
          have hlen := pops_len (count a :: dec left)
          rw [hp] at hlen
          simp only [List.length_cons, dec_len] at hlen
          exact shape_of_behind r false _ _ m (i + 1) (by rw [show i + 1 + r.length = i + (r.length + 1) by omega]; exact h) hrr (.inr (by simp)) (by simp only [List.length_cons]; omega)
      · rw [hlf] at h
        rw [holds_leaf hlf]
        simp only [if_true, dec_len, List.length_cons] at h ⊢
        have hmx : max most left.length = most := by omega
        rw [hmx] at h
        cases hp : pops (dec left) with
        | nil =>
          rw [hp] at h
          rw [if_pos (by rfl)] at h
          simp only [Prod.mk.injEq, Option.some.injEq] at h
          have hr : r = [] := List.length_eq_zero_iff.1 (by omega)
          subst hr
          rw [← h.2]
          rfl
        | cons c t =>
          rw [hp] at h
          rw [if_neg (by simp)] at h
          have hlen := pops_len (dec left)
          rw [hp, dec_len] at hlen
          exact shape_of_behind r false _ _ m (i + 1) (by rw [show i + 1 + r.length = i + (r.length + 1) by omega]; exact h) hrr (.inr (by simp)) (by omega)
end Go.Px.E7

/-! What is told is read, and what is read is told (plain laws of layer 17). No program is named here. -/
namespace Go.Px.E7
open R7 (St)

/-! Bytes at a place -/
theorem drop_cons {s t : Bytes} {p : Nat} {c : UInt8} (h : s.drop p = c :: t) : p < s.length ∧ s.getD p 0 = c ∧ s.drop (p + 1) = t := by
  have hp : p < s.length := by
    rcases Nat.lt_or_ge p s.length with h1 | h1
    · exact h1
    · rw [List.drop_eq_nil_of_le h1] at h; cases h
  rw [List.drop_eq_getElem_cons hp] at h
  simp only [List.cons.injEq] at h
  exact ⟨hp, by rw [List.getD_eq_getElem?_getD, List.getElem?_eq_getElem hp]; exact h.1, h.2⟩
theorem drop_app {s a t : Bytes} {p : Nat} (h : s.drop p = a ++ t) : s.drop (p + a.length) = t := by
  rw [← List.drop_drop, h, List.drop_left]
theorem drop_len {s a t : Bytes} {p : Nat} (h : s.drop p = a ++ t) (hp : p ≤ s.length) : p + a.length ≤ s.length := by
  have := congrArg List.length h
  simp only [List.length_drop, List.length_append] at this
  omega
theorem drop_part {s a t : Bytes} {p : Nat} (h : s.drop p = a ++ t) : (s.take (p + a.length)).drop p = a := by
  rw [List.drop_take, h, Nat.add_sub_cancel_left, List.take_left]
theorem take_split {s : Bytes} {p q r : Nat} (h1 : p ≤ q) (h2 : q ≤ r) : (s.take r).drop p = (s.take q).drop p ++ (s.take r).drop q := by
  have e : (s.take r).drop q = ((s.take r).drop p).drop (q - p) := by rw [List.drop_drop]; congr 1; omega
  have e2 : (s.take q).drop p = ((s.take r).drop p).take (q - p) := by
    rw [List.drop_take, List.drop_take, List.take_take]; congr 1; omega
  rw [e, e2, List.take_append_drop]
theorem drop_take_app {s : Bytes} {p q : Nat} (h : p ≤ q) (hq : q ≤ s.length) : s.drop p = (s.take q).drop p ++ s.drop q := by
  have := take_split (s := s) h hq
  rwa [List.take_length] at this

/-! Heads are read -/
theorem want_reads {s : Bytes} {lim : Lim} {x : St} {p : Nat} (h1 : p < s.length) (h2 : (p : Int) < lim.b) (ht : x.taken = p) : R7.want s lim x p = (true, { x with taken := p + 1 }) := by
  unfold R7.want
  rw [if_pos ⟨h1, h2⟩]
  unfold R7.take
  rw [ht, Nat.max_eq_right (Nat.le_succ p)]
theorem argN_reads (s : Bytes) (lim : Lim) (v : Nat) : ∀ (m : Nat) (x : St) (p n : Nat) (t : Bytes), s.drop p = R7.beBytes v m ++ t → ((p + m : Nat) : Int) ≤ lim.b → x.taken = p →
    R7.argN s lim m x p n = (some (n * 256 ^ m + v % 256 ^ m), { x with taken := p + m })
  | 0, x, p, n, t, _, _, ht => by
    unfold R7.argN
    rw [Nat.pow_zero, Nat.mod_one, Nat.mul_one, Nat.add_zero, Nat.add_zero, ← ht]
  | m + 1, x, p, n, t, h, hb, ht => by
    unfold R7.argN
    have h' : s.drop p = UInt8.ofNat (v / 256 ^ m) :: (R7.beBytes v m ++ t) := h
    obtain ⟨h1, h2, h3⟩ := drop_cons h'
    rw [want_reads h1 (by omega) ht]
    simp only
    rw [h2, argN_reads s lim v m _ (p + 1) _ t h3 (by omega) rfl]
    have e : (UInt8.ofNat (v / 256 ^ m)).toNat = v / 256 ^ m % 256 := by simp
    rw [e]
    have e2 : (n * 256 + v / 256 ^ m % 256) * 256 ^ m + v % 256 ^ m = n * 256 ^ (m + 1) + v % 256 ^ (m + 1) := by
      rw [Nat.pow_succ, Nat.mod_mul, Nat.add_mul, Nat.mul_assoc, Nat.mul_comm 256 (256 ^ m), Nat.mul_comm (v / 256 ^ m % 256)]
      omega
    rw [e2, show p + 1 + m = p + (m + 1) by omega]
theorem infoOf_lt (n : Nat) (h : n < 18446744073709551616) : n < 256 ^ (2 ^ R7.infoOf n) ∧ R7.infoOf n ≤ 3 := by
  unfold R7.infoOf
  by_cases h1 : n < 256
  · rw [if_pos h1]; exact ⟨h1, by omega⟩
  · rw [if_neg h1]
    by_cases h2 : n < 65536
    · rw [if_pos h2]; exact ⟨h2, by omega⟩
    · rw [if_neg h2]
      by_cases h3 : n < 4294967296
      · rw [if_pos h3]; exact ⟨h3, by omega⟩
      · rw [if_neg h3]; exact ⟨h, by omega⟩
theorem headB_size (k n : Nat) : (R7.headB k n).length = if n < 24 then 1 else 2 ^ R7.infoOf n + 1 := by
  unfold R7.headB
  split
  · rfl
  · rw [List.length_cons, R7.beBytes_len]
theorem head_reads {s t : Bytes} {lim : Lim} {x : St} {p k n : Nat} (hk : k < 8) (hn : n < 18446744073709551616) (h7 : k = 7 → 20 ≤ n ∧ n ≤ 23) (hs : s.drop p = R7.headB k n ++ t) (ht : x.taken = p) (ho : (x.out.length : Int) < lim.i) (hb : ((p + (R7.headB k n).length : Nat) : Int) ≤ lim.b) :
    R7.head s lim x p = (some (k, n, p + (R7.headB k n).length), { x with taken := p + (R7.headB k n).length }) := by
  have hl := headB_size k n
  by_cases h24 : n < 24
  · rw [if_pos h24] at hl
    rw [hl] at hb ⊢
    have e : R7.headB k n = [UInt8.ofNat (32 * k + n)] := by unfold R7.headB; rw [if_pos h24]
    rw [e] at hs
    obtain ⟨h1, h2, h3⟩ := drop_cons hs
    have hc : (s.getD p 0).toNat = 32 * k + n := by rw [h2, UInt8.toNat_ofNat']; omega
    unfold R7.head
    rw [want_reads h1 (by omega) ht]
    simp only
    rw [if_neg (show ¬ lim.i ≤ (x.out.length : Int) by omega), hc, show (32 * k + n) / 32 = k by omega, show (32 * k + n) % 32 = n by omega, if_neg (by omega), if_neg ?_, if_pos h24]
    intro h
    simp only [Bool.and_eq_true, beq_iff_eq, Bool.or_eq_true, decide_eq_true_eq] at h
    have := h7 h.1
    omega
  · rw [if_neg h24] at hl
    rw [hl] at hb ⊢
    have e : R7.headB k n = UInt8.ofNat (32 * k + 24 + R7.infoOf n) :: R7.beBytes n (2 ^ R7.infoOf n) := by unfold R7.headB; rw [if_neg h24]
    obtain ⟨i1, i2⟩ := infoOf_lt n hn
    rw [e, List.cons_append] at hs
    obtain ⟨h1, h2, h3⟩ := drop_cons hs
    have hc : (s.getD p 0).toNat = 32 * k + (24 + R7.infoOf n) := by rw [h2, UInt8.toNat_ofNat']; omega
    unfold R7.head
    rw [want_reads h1 (Int.lt_of_lt_of_le (Int.ofNat_lt.2 (Nat.lt_add_of_pos_right (Nat.succ_pos _))) hb) ht]
    simp only
    have hk7 : ¬ k = 7 := fun e7 => by have := h7 e7; omega
    rw [if_neg (show ¬ lim.i ≤ (x.out.length : Int) by omega), hc, show (32 * k + (24 + R7.infoOf n)) / 32 = k by omega, show (32 * k + (24 + R7.infoOf n)) % 32 = 24 + R7.infoOf n by omega, if_neg (by omega), if_neg (by simp [hk7]), if_neg (by omega),
      show 24 + R7.infoOf n - 24 = R7.infoOf n by omega, argN_reads s lim n (2 ^ R7.infoOf n) _ (p + 1) 0 t h3 (by rw [show p + 1 + 2 ^ R7.infoOf n = p + (2 ^ R7.infoOf n + 1) by omega]; exact hb) rfl]
    simp only
    rw [Nat.zero_mul, Nat.zero_add, Nat.mod_eq_of_lt i1, if_pos hl, show p + 1 + 2 ^ R7.infoOf n = p + (2 ^ R7.infoOf n + 1) by omega]
theorem wantN_reads (s : Bytes) (lim : Lim) : ∀ (m : Nat) (x : St) (p : Nat), p + m ≤ s.length → ((p + m : Nat) : Int) ≤ lim.b → x.taken = p → R7.wantN s lim m x p = (true, { x with taken := p + m })
  | 0, x, p, _, _, ht => by unfold R7.wantN; rw [Nat.add_zero, ← ht]
  | m + 1, x, p, h1, h2, ht => by
    unfold R7.wantN
    rw [want_reads (by omega) (by omega) ht]
    simp only
    rw [wantN_reads s lim m _ (p + 1) (by omega) (by omega) rfl, show p + 1 + m = p + (m + 1) by omega]

/-! Items are read -/
def Wf (l : List Atom) : Prop := ∀ a ∈ l, a.num < 18446744073709551616 ∧ a.text.length < 18446744073709551616
theorem Wf.left {a b : List Atom} (h : Wf (a ++ b)) : Wf a := fun x hx => h x (List.mem_append_left _ hx)
theorem Wf.right {a b : List Atom} (h : Wf (a ++ b)) : Wf b := fun x hx => h x (List.mem_append_right _ hx)
theorem encB_app (a b : List Atom) : encB (a ++ b) = encB a ++ encB b := List.flatMap_append
theorem encB_cons (a : Atom) (b : List Atom) : encB (a :: b) = atomB a ++ encB b := List.flatMap_cons
def Reads (x : St) (p : Nat) (l : List Atom) (o : Bool) (res : Option Nat × St) : Prop :=
  if o then ∃ y, res = (none, y) ∧ y.err = 9 else res = (some (p + (encB l).length), { x with out := x.out ++ l, taken := p + (encB l).length })
theorem Reads.bad {x y : St} {p : Nat} {l : List Atom} (h : y.err = 9) : Reads x p l true (none, y) := ⟨y, rfl, h⟩
theorem Reads.ok {x : St} {p : Nat} {l : List Atom} {res : Option Nat × St} (h : Reads x p l false res) : res = (some (p + (encB l).length), { x with out := x.out ++ l, taken := p + (encB l).length }) := h
theorem Reads.no {x : St} {p : Nat} {l : List Atom} {res : Option Nat × St} (h : Reads x p l true res) : ∃ y, res = (none, y) ∧ y.err = 9 := h

def ItemR (s : Bytes) (lim : Lim) (d : Nat) (rc : St → Nat → Option Nat × St) : Prop :=
  ∀ (x : St) (p : Nat) (l : List Atom) (o : Bool) (t : Bytes), ItF d l o → Wf l → x.taken = p → p ≤ s.length → s.drop p = encB l ++ t → ((x.out.length + l.length : Nat) : Int) ≤ lim.i → ((p + (encB l).length : Nat) : Int) ≤ lim.b → Reads x p l o (rc x p)
theorem items_reads {s : Bytes} {lim : Lim} {d : Nat} {rc : St → Nat → Option Nat × St} (hR : ItemR s lim d rc) :
    ∀ (m i : Nat) (last : Bytes) (x : St) (p : Nat) (l : List Atom) (o : Bool) (t : Bytes), Kids (ItF d) false m i last l o → Wf l → x.taken = p → p ≤ s.length → s.drop p = encB l ++ t → ((x.out.length + l.length : Nat) : Int) ≤ lim.i → ((p + (encB l).length : Nat) : Int) ≤ lim.b → Reads x p l o (R7.itemsN rc m x p) := by
  intro m
  induction m with
  | zero =>
    intro i last x p l o t h _ ht _ _ _ _
    obtain ⟨rfl, rfl⟩ := h
    unfold R7.itemsN
    show _ = _
    rw [List.append_nil]
    show (some p, x) = (some (p + 0), { x with taken := p + 0 })
    rw [Nat.add_zero, ← ht]
  | succ m ih =>
    intro i last x p l o t ⟨a, r, o1, o2, e, h1, h2, h3⟩ hw ht hp hs hi hb
    subst e
    simp only [Bool.false_and, Bool.or_false] at h3
    rw [encB_app, List.append_assoc] at hs
    have hlen : (encB (a ++ r)).length = (encB a).length + (encB r).length := by rw [encB_app, List.length_append]
    rw [hlen] at hb
    rw [List.length_append] at hi
    have hr := hR x p a o1 (encB r ++ t) h1 hw.left ht hp hs (by omega) (by omega)
    unfold R7.itemsN
    cases o1 with
    | true =>
      obtain ⟨y, e1, e2⟩ := hr.no
      rw [e1, h3]
      exact Reads.bad e2
    | false =>
      rw [hr.ok]
      simp only [Bool.false_or] at h3
      subst h3
      simp only
      have hk := ih (i + 1) _ { x with out := x.out ++ a, taken := p + (encB a).length } (p + (encB a).length) r o t h2 hw.right rfl (drop_len hs hp) (drop_app hs) (by simp only [List.length_append]; omega) (by omega)
      cases o with
      | true => exact hk
      | false =>
        have := hk.ok
        show R7.itemsN rc m _ _ = _
        rw [this, hlen]
        simp only [List.append_assoc, Nat.add_assoc]
theorem pairs_reads {s : Bytes} {lim : Lim} {d : Nat} {rc : St → Nat → Option Nat × St} (hR : ItemR s lim d rc) :
    ∀ (m i : Nat) (last : Bytes) (x : St) (p : Nat) (l : List Atom) (o : Bool) (t : Bytes), Kids (ItF d) true (2 * m) i last l o → i % 2 = 0 → Wf l → x.taken = p → p ≤ s.length → s.drop p = encB l ++ t → ((x.out.length + l.length : Nat) : Int) ≤ lim.i → ((p + (encB l).length : Nat) : Int) ≤ lim.b → Reads x p l o (R7.pairsN s rc m (if i = 0 then none else some last) x p) := by
  intro m
  induction m with
  | zero =>
    intro i last x p l o t h _ _ ht _ _ _ _
    obtain ⟨rfl, rfl⟩ := h
    unfold R7.pairsN
    show _ = _
    rw [List.append_nil]
    show (some p, x) = (some (p + 0), { x with taken := p + 0 })
    rw [Nat.add_zero, ← ht]
  | succ m ih =>
    intro i last x p l o t h hi0 hw ht hp hs hi hb
    rw [show 2 * (m + 1) = 2 * m + 1 + 1 by omega] at h
    obtain ⟨a, r', o1, o2, e, h1, ⟨c, r, o3, o4, e', h4, h5, h6⟩, h3⟩ := h
    subst e'
    subst e
    have hk0 : (true && i % 2 == 0) = true := by simp [hi0]
    have hk1 : (true && (i + 1) % 2 == 0) = false := by simp; omega
    rw [hk0] at h3
    simp only [hk0, hk1, if_true, Bool.false_eq_true, if_false, Bool.false_and, Bool.or_false, Bool.true_and] at h3 h4 h5 h6
    rw [encB_app, encB_app, List.append_assoc, List.append_assoc] at hs
    have hlen : (encB (a ++ (c ++ r))).length = (encB a).length + ((encB c).length + (encB r).length) := by rw [encB_app, encB_app, List.length_append, List.length_append]
    rw [hlen] at hb
    simp only [List.length_append] at hi
    have hr := hR x p a o1 (encB c ++ (encB r ++ t)) h1 hw.left ht hp hs (by omega) (by omega)
    unfold R7.pairsN
    cases o1 with
    | true =>
      obtain ⟨y, e1, e2⟩ := hr.no
      rw [e1, h3]
      exact Reads.bad e2
    | false =>
      rw [hr.ok]
      simp only [Bool.false_or] at h3
      simp only
      rw [drop_part hs]
      have hany : ((if i = 0 then none else some last : Option Bytes).any fun l => leB (encB a) l) = (decide (0 < i) && leB (encB a) last) := by
        by_cases h0 : i = 0
        · rw [if_pos h0, h0]; rfl
        · rw [if_neg h0, decide_eq_true (by omega : 0 < i)]; rfl
      rw [hany]
      cases hb2 : (decide (0 < i) && leB (encB a) last) with
      | true =>
        rw [hb2] at h3
        rw [if_pos rfl, h3]
        exact Reads.bad rfl
      | false =>
        rw [hb2, Bool.false_or] at h3
        rw [if_neg (by simp)]
        have hs2 := drop_app hs
        have hp2 := drop_len hs hp
        have hr2 := hR { x with out := x.out ++ a, taken := p + (encB a).length } (p + (encB a).length) c o3 (encB r ++ t) h4 hw.right.left rfl hp2 hs2 (by simp only [List.length_append]; omega) (by omega)
        cases o3 with
        | true =>
          obtain ⟨y, e1, e2⟩ := hr2.no
          rw [e1, h3, h6]
          exact Reads.bad e2
        | false =>
          rw [hr2.ok]
          simp only [Bool.false_or] at h6
          rw [h6] at h3
          subst h3
          simp only
          have hk := ih (i + 2) (encB a) { x with out := x.out ++ a ++ c, taken := p + (encB a).length + (encB c).length } (p + (encB a).length + (encB c).length) r o t h5 (by omega) hw.right.right rfl (drop_len hs2 hp2) (drop_app hs2) (by simp only [List.length_append]; omega) (by omega)
          rw [if_neg (by omega)] at hk
          cases o with
          | true => exact hk
          | false =>
            have := hk.ok
            show R7.pairsN s rc m _ _ _ = _
            rw [this, hlen]
            simp only [List.append_assoc, Nat.add_assoc]
theorem right_kind {a : Atom} (h : right a = true) : ∃ k : Nat, a.kind = k ∧ k < 8 := by
  unfold right at h
  by_cases h2 : (a.kind == 2) = true
  · exact ⟨2, by have := beq_iff_eq.1 h2; omega, by omega⟩
  · rw [if_neg h2] at h
    by_cases h3 : (a.kind == 3) = true
    · exact ⟨3, by have := beq_iff_eq.1 h3; omega, by omega⟩
    · rw [if_neg h3] at h
      by_cases h7 : (a.kind == 7) = true
      · exact ⟨7, by have := beq_iff_eq.1 h7; omega, by omega⟩
      · rw [if_neg h7] at h
        by_cases h0 : (a.kind == 0 || a.kind == 1 || a.kind == 4 || a.kind == 5 || a.kind == 6) = true
        · simp only [Bool.or_eq_true, beq_iff_eq] at h0
          exact ⟨a.kind.toNat, by omega, by omega⟩
        · rw [if_neg h0] at h; cases h
/-- What a right item looks like. -/
theorem right_cases {a : Atom} (h : right a = true) : ∃ k : Nat, a.kind = k ∧ k < 8 ∧ ((k = 2 ∧ a.num = 0) ∨ (k = 3 ∧ a.num = 0 ∧ Lib.validD a.text = true) ∨ (k ≠ 2 ∧ k ≠ 3 ∧ a.text = [] ∧ (k = 7 → 20 ≤ a.num ∧ a.num ≤ 23))) := by
  obtain ⟨k, hk, h8⟩ := right_kind h
  refine ⟨k, hk, h8, ?_⟩
  unfold right at h
  rw [hk] at h
  by_cases h2 : k = 2
  · subst h2; exact .inl ⟨rfl, by simpa using h⟩
  · by_cases h3 : k = 3
    · subst h3; exact .inr (.inl ⟨rfl, by simpa using h⟩)
    · refine .inr (.inr ⟨h2, h3, ?_⟩)
      have e2 : ((k : Int) == 2) = false := by simp; omega
      have e3 : ((k : Int) == 3) = false := by simp; omega
      rw [e2, e3] at h
      simp only [Bool.false_eq_true, if_false] at h
      by_cases h7 : k = 7
      · subst h7
        simp at h
        exact ⟨h.1, fun _ => h.2⟩
      · have e7 : ((k : Int) == 7) = false := by simp; omega
        rw [e7] at h
        simp only [Bool.false_eq_true, if_false] at h
        split at h
        · exact ⟨by simpa using h, fun e => absurd e h7⟩
        · cases h
theorem leaf_kind {a : Atom} {k : Nat} (hk : a.kind = k) : leaf a = !(k == 4 || k == 5 || k == 6) := by
  unfold leaf
  rw [hk]
  have e : ∀ m : Nat, ((k : Int) == (m : Int)) = (k == m) := fun m => by
    rw [Bool.eq_iff_iff]; simp only [beq_iff_eq]; omega
  have e4 : ((k : Int) == 4) = (k == 4) := e 4
  have e5 : ((k : Int) == 5) = (k == 5) := e 5
  have e6 : ((k : Int) == 6) = (k == 6) := e 6
  rw [e4, e5, e6]
theorem text_reads {s t : Bytes} {lim : Lim} {x : St} {p : Nat} {a : Atom} {k : Nat} (hk : a.kind = k) (hk2 : k = 2 ∨ k = 3) (hn : a.num = 0) (hv : k = 3 → Lib.validD a.text = true) (hs : s.drop p = encB [a] ++ t) (hp : p ≤ s.length) (hb : ((p + (encB [a]).length : Nat) : Int) ≤ lim.b) :
    R7.textN s lim k a.text.length { x with taken := p + (R7.headB k a.text.length).length } p (p + (R7.headB k a.text.length).length) = (some (p + (encB [a]).length), { x with out := x.out ++ [a], taken := p + (encB [a]).length }) := by
  have hk' : (a.kind == 2 || a.kind == 3) = true := by rw [hk]; rcases hk2 with rfl | rfl <;> rfl
  have e : encB [a] = R7.headB k a.text.length ++ a.text := by
    show (atomB a ++ []) = _
    rw [List.append_nil]
    unfold atomB
    rw [if_pos hk', hk]
    rfl
  rw [e] at hs hb ⊢
  rw [List.append_assoc] at hs
  have h1 := drop_app hs
  have h2 := drop_len hs hp
  have h3 := drop_len h1 h2
  simp only [List.length_append] at hb ⊢
  unfold R7.textN
  rw [wantN_reads s lim a.text.length _ _ h3 (by omega) rfl]
  simp only
  rw [drop_part h1]
  have hva : ¬ ((k == 3 && !Lib.validD a.text) = true) := by
    intro hc
    simp only [Bool.and_eq_true, beq_iff_eq] at hc
    rw [hv hc.1] at hc
    simp at hc
  rw [if_neg hva]
  have ea : (⟨k, 0, a.text⟩ : Atom) = a := by rw [← hk, ← hn]
  rw [ea, Nat.add_assoc]
theorem plain_enc {a : Atom} {k : Nat} (hk : a.kind = k) (h2 : k ≠ 2) (h3 : k ≠ 3) (ht : a.text = []) : atomB a = R7.headB k a.num := by
  unfold atomB
  have e2 : (a.kind == 2) = false := by rw [hk]; simp; omega
  have e3 : (a.kind == 3) = false := by rw [hk]; simp; omega
  rw [e2, e3, ht, hk, List.append_nil]
  rfl
theorem atom_eta {a : Atom} {k : Nat} (hk : a.kind = k) (ht : a.text = []) : (⟨k, a.num, []⟩ : Atom) = a := by rw [← hk, ← ht]
theorem leaf_reads {s t : Bytes} {lim : Lim} {x : St} {p : Nat} {a : Atom} (d : Nat) (h1 : right a = true) (h2 : leaf a = true) (hw : Wf [a]) (ht : x.taken = p) (hp : p ≤ s.length) (hs : s.drop p = encB [a] ++ t) (hi : ((x.out.length + 1 : Nat) : Int) ≤ lim.i) (hb : ((p + (encB [a]).length : Nat) : Int) ≤ lim.b) :
    R7.item s lim d x p = (some (p + (encB [a]).length), { x with out := x.out ++ [a], taken := p + (encB [a]).length }) := by
  obtain ⟨k, hk, h8, hc⟩ := right_cases h1
  rw [leaf_kind hk] at h2
  obtain ⟨w1, w2⟩ := hw a (by simp)
  have hun : ∀ r, R7.head s lim x p = r → R7.item s lim d x p = (match r with
    | (none, y) => (none, y)
    | (some (k, n, at_), y) => if k == 2 || k == 3 then R7.textN s lim k n y p at_ else if k == 4 || k == 5 || k == 6 then (match d with | 0 => (none, R7.fault y p 10) | d + 1 => R7.holdN s (R7.item s lim d) k n y at_) else (some at_, { y with out := y.out ++ [⟨k, n, []⟩] })) := by
    intro r e
    cases d <;> (unfold R7.item; rw [e]; try rfl)
  have fin : k ≠ 2 → k ≠ 3 → a.text = [] → (k = 7 → 20 ≤ a.num ∧ a.num ≤ 23) → R7.item s lim d x p = (some (p + (encB [a]).length), { x with out := x.out ++ [a], taken := p + (encB [a]).length }) := by
    intro n2 n3 ht0 h7
    have e : encB [a] = R7.headB k a.num := by show (atomB a ++ []) = _; rw [List.append_nil]; exact plain_enc hk n2 n3 ht0
    rw [e] at hs hb ⊢
    rw [hun _ (head_reads h8 w1 h7 hs ht (by omega) hb)]
    simp only
    rw [if_neg (by simp; omega), if_neg (by simpa using h2), atom_eta hk ht0]
  have txt : (k = 2 ∨ k = 3) → a.num = 0 → (k = 3 → Lib.validD a.text = true) → R7.item s lim d x p = (some (p + (encB [a]).length), { x with out := x.out ++ [a], taken := p + (encB [a]).length }) := by
    intro hk2 hn hv
    have e : encB [a] = R7.headB k a.text.length ++ a.text := by
      show (atomB a ++ []) = _
      rw [List.append_nil]
      unfold atomB
      rw [if_pos (by rw [hk]; rcases hk2 with rfl | rfl <;> rfl), hk]
      rfl
    have hs' := hs
    have hb' := hb
    rw [e, List.append_assoc] at hs'
    rw [e, List.length_append] at hb'
    rw [hun _ (head_reads h8 w2 (by omega) hs' ht (by omega) (by omega))]
    simp only
    rw [if_pos (by rcases hk2 with rfl | rfl <;> rfl)]
    exact text_reads hk hk2 hn hv hs hp hb
  rcases hc with ⟨rfl, hn⟩ | ⟨rfl, hn, hv⟩ | ⟨n2, n3, ht0, h7⟩
  · exact txt (.inl rfl) hn (by omega)
  · exact txt (.inr rfl) hn (fun _ => hv)
  · exact fin n2 n3 ht0 h7
theorem item_reads (s : Bytes) (lim : Lim) : ∀ d, ItemR s lim d (R7.item s lim d) := by
  intro d
  induction d with
  | zero =>
    intro x p l o t h hw ht hp hs hi hb
    obtain ⟨a, rfl, h1, h2, rfl⟩ := h
    exact leaf_reads 0 h1 h2 hw ht hp hs hi hb
  | succ d ih =>
    intro x p l o t h hw ht hp hs hi hb
    rcases h with ⟨a, rfl, h1, h2, rfl⟩ | ⟨a, r, rfl, h1, h2, h3⟩
    · exact leaf_reads (d + 1) h1 h2 hw ht hp hs hi hb
    · obtain ⟨k, hk, h8, hc⟩ := right_cases h1
      rw [leaf_kind hk] at h2
      have h456 : k = 4 ∨ k = 5 ∨ k = 6 := by
        simp only [Bool.not_eq_false', Bool.or_eq_true, beq_iff_eq] at h2
        omega
      have h2' : (k == 4 || k == 5 || k == 6) = true := by rcases h456 with rfl | rfl | rfl <;> rfl
      have ht0 : a.text = [] := by
        rcases hc with ⟨e, _⟩ | ⟨e, _⟩ | ⟨_, _, e, _⟩
        · omega
        · omega
        · exact e
      obtain ⟨w1, w2⟩ := hw a (by simp)
      have hwr : Wf r := fun b hb => hw b (by simp [hb])
      have ea := plain_enc hk (by omega) (by omega) ht0
      rw [encB_cons, ea, List.append_assoc] at hs
      have hlen : (encB (a :: r)).length = (R7.headB k a.num).length + (encB r).length := by rw [encB_cons, ea, List.length_append]
      rw [hlen] at hb
      simp only [List.length_cons] at hi
      have hh := head_reads (lim := lim) h8 w1 (by omega) hs ht (by omega) (by omega)
      unfold R7.item
      rw [hh]
      simp only
      rw [if_neg (by simp; omega), if_pos h2']
      unfold R7.holdN
      simp only
      rw [atom_eta hk ht0]
      have hs2 := drop_app hs
      have hp2 := drop_len hs hp
      have fin : ∀ res : Option Nat × St, Reads { x with out := x.out ++ [a], taken := p + (R7.headB k a.num).length, frames := x.frames + 1 } (p + (R7.headB k a.num).length) r o res →
          Reads x p (a :: r) o (match res with | (some q, z) => (some q, { z with frames := z.frames - 1 }) | (none, z) => (none, z)) := by
        intro res hr
        cases o with
        | true =>
          obtain ⟨y, rfl, hy⟩ := hr.no
          exact Reads.bad hy
        | false =>
          rw [hr.ok]
          show _ = _
          rw [hlen]
          simp only [List.append_assoc, List.singleton_append, Nat.add_assoc, Nat.add_sub_cancel]
      have hi' : ((({ x with out := x.out ++ [a], taken := p + (R7.headB k a.num).length, frames := x.frames + 1 } : St).out.length + r.length : Nat) : Int) ≤ lim.i := by
        simp only [List.length_append, List.length_singleton]
        omega
      rcases h456 with rfl | rfl | rfl
      · have hm : (a.kind == 5) = false := by rw [hk]; rfl
        have hcn : count a = a.num := by unfold count; rw [hk]; rfl
        rw [hm, hcn] at h3
        rw [if_pos (by rfl)]
        exact fin _ (items_reads ih a.num 0 [] _ _ r o t h3 hwr rfl hp2 hs2 hi' (by omega))
      · have hm : (a.kind == 5) = true := by rw [hk]; rfl
        have hcn : count a = 2 * a.num := by unfold count; rw [hk]; rfl
        rw [hm, hcn] at h3
        rw [if_neg (by simp), if_pos (by rfl)]
        exact fin _ (pairs_reads ih a.num 0 [] _ _ r o t h3 rfl hwr rfl hp2 hs2 hi' (by omega))
      · have hm : (a.kind == 5) = false := by rw [hk]; rfl
        have hcn : count a = 1 := by unfold count; rw [hk]; rfl
        rw [hm, hcn] at h3
        rw [if_neg (by simp), if_neg (by simp)]
        have := items_reads ih 1 0 [] { x with out := x.out ++ [a], taken := p + (R7.headB 6 a.num).length, frames := x.frames + 1 } (p + (R7.headB 6 a.num).length) r o t h3 hwr rfl hp2 hs2 hi' (by omega)
        rw [R7.itemsN_one] at this
        exact fin _ this
end Go.Px.E7

/-! What is read is one right item whose keys are in order (plain laws of layer 17). No program is named here. -/
namespace Go.Px.E7
open R7 (St)
open D7 (Ok)

theorem drop_take_self (s : Bytes) (p : Nat) : (s.take p).drop p = [] := List.drop_eq_nil_of_le (by rw [List.length_take]; omega)
theorem drop_take_cons {s : Bytes} {p q : Nat} (h : p < s.length) (hq : p < q) : (s.take q).drop p = s.getD p 0 :: (s.take q).drop (p + 1) := by
  have hl : p < (s.take q).length := by rw [List.length_take]; omega
  rw [List.drop_eq_getElem_cons hl, List.getElem_take, List.getD_eq_getElem?_getD, List.getElem?_eq_getElem h]
  rfl
theorem beBytes_mod (v m c : Nat) (V n : Nat) (hv : v = (n * 256 + c) * 256 ^ m + V) (hV : V < 256 ^ m) : UInt8.ofNat (v / 256 ^ m) = UInt8.ofNat c := by
  have hp : 0 < 256 ^ m := Nat.pow_pos (by omega)
  have e : v / 256 ^ m = n * 256 + c := by
    rw [hv, Nat.mul_comm, Nat.mul_add_div hp, Nat.div_eq_of_lt hV, Nat.add_zero]
  rw [e]
  apply UInt8.toNat_inj.1
  rw [UInt8.toNat_ofNat', UInt8.toNat_ofNat']
  omega
theorem argN_sound (s : Bytes) (lim : Lim) : ∀ (m : Nat) (x : St) (p n v : Nat) (y : St), R7.argN s lim m x p n = (some v, y) → x.taken = p → p ≤ s.length → ∃ V, v = n * 256 ^ m + V ∧ V < 256 ^ m ∧ (s.take (p + m)).drop p = R7.beBytes v m
  | 0, x, p, n, v, y, h, _, _ => by
    unfold R7.argN at h
    simp only [Prod.mk.injEq, Option.some.injEq] at h
    exact ⟨0, by rw [Nat.pow_zero]; omega, by simp, by rw [Nat.add_zero, drop_take_self]; rfl⟩
  | m + 1, x, p, n, v, y, h, ht, hp => by
    unfold R7.argN at h
    cases hw : R7.want s lim x p with
    | mk b z =>
      rw [hw] at h
      cases b
      · simp at h
      · obtain ⟨h1, h2, h3, h4⟩ := D7.want_ok hw ht
        simp only at h
        obtain ⟨V, e1, e2, e3⟩ := argN_sound s lim m z (p + 1) _ v y h (by rw [h4]) h2
        have hc := (s.getD p 0).toNat_lt
        refine ⟨(s.getD p 0).toNat * 256 ^ m + V, ?_, ?_, ?_⟩
        · rw [e1, Nat.pow_succ, Nat.add_mul, Nat.mul_assoc, Nat.mul_comm 256 (256 ^ m)]; omega
        · rw [Nat.pow_succ]
          have : (s.getD p 0).toNat * 256 ^ m + 256 ^ m ≤ 256 * 256 ^ m := by
            rw [← Nat.succ_mul]; exact Nat.mul_le_mul_right _ hc
          omega
        · rw [drop_take_cons h2 (by omega)]
          show _ = UInt8.ofNat (v / 256 ^ m) :: R7.beBytes v m
          rw [show p + (m + 1) = p + 1 + m by omega, e3, beBytes_mod v m _ V n e1 e2]
          congr 1
          apply UInt8.toNat_inj.1
          rw [UInt8.toNat_ofNat']
          omega
theorem headB_long {k n a : Nat} (h1 : 24 ≤ a) (h2 : a ≤ 27) (hl : (R7.headB k n).length = 2 ^ (a - 24) + 1) : R7.headB k n = UInt8.ofNat (32 * k + a) :: R7.beBytes n (2 ^ (a - 24)) := by
  have hs := headB_size k n
  rw [hl] at hs
  by_cases h24 : n < 24
  · rw [if_pos h24] at hs
    have : 0 < 2 ^ (a - 24) := Nat.two_pow_pos _
    omega
  · rw [if_neg h24] at hs
    have hp : 2 ^ (a - 24) = 2 ^ R7.infoOf n := by omega
    have e : a - 24 = R7.infoOf n := (Nat.pow_right_inj (by omega)).1 hp
    unfold R7.headB
    rw [if_neg h24, ← e, show 32 * k + 24 + (a - 24) = 32 * k + a by omega]
theorem head_sound {s : Bytes} {lim : Lim} {x y : St} {p k n q : Nat} (hok : Ok s lim x p) (h : R7.head s lim x p = (some (k, n, q), y)) :
    (s.take q).drop p = R7.headB k n ∧ (k = 7 → 20 ≤ n ∧ n ≤ 23) := by
  unfold R7.head at h
  cases hw : R7.want s lim x p with
  | mk b z =>
    rw [hw] at h
    cases b
    · simp at h
    · obtain ⟨h1, h2, h3, h4⟩ := D7.want_ok hw hok.taken
      have hc := (s.getD p 0).toNat_lt
      simp only at h
      by_cases hi : lim.i ≤ z.out.length
      · rw [if_pos hi] at h; simp at h
      · rw [if_neg hi] at h
        obtain ⟨c, hcc⟩ : ∃ c, c = (s.getD p 0).toNat := ⟨_, rfl⟩
        have hcb : s.getD p 0 = UInt8.ofNat c := by rw [hcc]; simp
        rw [← hcc] at h hc
        by_cases h27 : 27 < c % 32
        · rw [if_pos h27] at h; simp at h
        · rw [if_neg h27] at h
          by_cases h7 : (c / 32 == 7 && (decide (c % 32 < 20) || decide (23 < c % 32))) = true
          · rw [if_pos h7] at h; simp at h
          · rw [if_neg h7] at h
            have h7' : c / 32 = 7 → 20 ≤ c % 32 ∧ c % 32 ≤ 23 := by
              intro e
              simp only [Bool.and_eq_true, beq_iff_eq, Bool.or_eq_true, decide_eq_true_eq] at h7
              omega
            by_cases h24 : c % 32 < 24
            · rw [if_pos h24] at h
              simp only [Prod.mk.injEq, Option.some.injEq] at h
              obtain ⟨⟨rfl, rfl, rfl⟩, _⟩ := h
              refine ⟨?_, h7'⟩
              rw [drop_take_cons h2 (Nat.lt_succ_self p), drop_take_self, hcb]
              unfold R7.headB
              rw [if_pos h24, show 32 * (c / 32) + c % 32 = c by omega]
            · rw [if_neg h24] at h
              cases ha : R7.argN s lim (2 ^ (c % 32 - 24)) z (p + 1) 0 with
              | mk o u =>
                rw [ha] at h
                cases o with
                | none => simp at h
                | some v =>
                  simp only at h
                  by_cases hl : (R7.headB (c / 32) v).length = 2 ^ (c % 32 - 24) + 1
                  · rw [if_pos hl] at h
                    simp only [Prod.mk.injEq, Option.some.injEq] at h
                    obtain ⟨⟨rfl, rfl, rfl⟩, _⟩ := h
                    obtain ⟨V, e1, e2, e3⟩ := argN_sound s lim _ z (p + 1) 0 v u ha (by rw [h4]) h2
                    rw [Nat.zero_mul, Nat.zero_add] at e1
                    refine ⟨?_, fun e => by have := h7' e; omega⟩
                    rw [headB_long (by omega) (by omega) hl, drop_take_cons h2 (by have := Nat.two_pow_pos (c % 32 - 24); omega), e3, hcb, show 32 * (c / 32) + c % 32 = c by omega]
                  · rw [if_neg hl] at h; simp at h

structure Snd (s : Bytes) (lim : Lim) (x y : St) (p q : Nat) (l : List Atom) : Prop where
  wf : Wf l
  out : y.out = x.out ++ l
  bytes : (s.take q).drop p = encB l
  le : p ≤ q
  ok : Ok s lim y q
def ItemS (s : Bytes) (lim : Lim) (d : Nat) (rc : St → Nat → Option Nat × St) : Prop :=
  ∀ (x : St) (p q : Nat) (y : St), Ok s lim x p → rc x p = (some q, y) → ∃ l, ItF d l false ∧ Snd s lim x y p q l
theorem Wf.app {a b : List Atom} (h : Wf a) (k : Wf b) : Wf (a ++ b) := fun x hx => (List.mem_append.1 hx).elim (h x) (k x)
theorem Snd.app {s : Bytes} {lim : Lim} {x y z : St} {p q r : Nat} {a b : List Atom} (h : Snd s lim x y p q a) (k : Snd s lim y z q r b) : Snd s lim x z p r (a ++ b) :=
  ⟨h.wf.app k.wf, by rw [k.out, h.out, List.append_assoc], by rw [take_split h.le k.le, h.bytes, k.bytes, encB_app], Nat.le_trans h.le k.le, k.ok⟩
theorem items_sound {s : Bytes} {lim : Lim} {d : Nat} {rc : St → Nat → Option Nat × St} (hR : ItemS s lim d rc) :
    ∀ (m i : Nat) (last : Bytes) (x : St) (p q : Nat) (y : St), Ok s lim x p → R7.itemsN rc m x p = (some q, y) → ∃ l, Kids (ItF d) false m i last l false ∧ Snd s lim x y p q l
  | 0, i, last, x, p, q, y, hok, h => by
    unfold R7.itemsN at h
    simp only [Prod.mk.injEq, Option.some.injEq] at h
    obtain ⟨rfl, rfl⟩ := h
    exact ⟨[], ⟨rfl, rfl⟩, nofun, (List.append_nil _).symm, drop_take_self s p, Nat.le_refl _, hok⟩
  | m + 1, i, last, x, p, q, y, hok, h => by
    unfold R7.itemsN at h
    cases hr : rc x p with
    | mk o z =>
      rw [hr] at h
      cases o with
      | none => simp at h
      | some t =>
        simp only at h
        obtain ⟨a, ha, sa⟩ := hR x p t z hok hr
        obtain ⟨b, hb, sb⟩ := items_sound hR m (i + 1) last z t q y sa.ok h
        exact ⟨a ++ b, ⟨a, b, false, false, rfl, ha, hb, rfl⟩, sa.app sb⟩
theorem pairs_sound {s : Bytes} {lim : Lim} {d : Nat} {rc : St → Nat → Option Nat × St} (hR : ItemS s lim d rc) :
    ∀ (m i : Nat) (last : Bytes) (x : St) (p q : Nat) (y : St), i % 2 = 0 → Ok s lim x p → R7.pairsN s rc m (if i = 0 then none else some last) x p = (some q, y) → ∃ l, Kids (ItF d) true (2 * m) i last l false ∧ Snd s lim x y p q l
  | 0, i, last, x, p, q, y, _, hok, h => by
    unfold R7.pairsN at h
    simp only [Prod.mk.injEq, Option.some.injEq] at h
    obtain ⟨rfl, rfl⟩ := h
    exact ⟨[], ⟨rfl, rfl⟩, nofun, (List.append_nil _).symm, drop_take_self s p, Nat.le_refl _, hok⟩
  | m + 1, i, last, x, p, q, y, hi, hok, h => by
    unfold R7.pairsN at h
    cases hr : rc x p with
    | mk o z =>
      rw [hr] at h
      cases o with
      | none => simp at h
      | some t =>
        simp only at h
        obtain ⟨a, ha, sa⟩ := hR x p t z hok hr
        rw [sa.bytes] at h
        have hany : ((if i = 0 then none else some last : Option Bytes).any fun l => leB (encB a) l) = (decide (0 < i) && leB (encB a) last) := by
          by_cases h0 : i = 0
          · rw [if_pos h0, h0]; rfl
          · rw [if_neg h0, decide_eq_true (by omega : 0 < i)]; rfl
        rw [hany] at h
        cases hb2 : (decide (0 < i) && leB (encB a) last) with
        | true => rw [hb2, if_pos rfl] at h; simp at h
        | false =>
          rw [hb2, if_neg (by simp)] at h
          cases hr2 : rc z t with
          | mk o2 u =>
            rw [hr2] at h
            cases o2 with
            | none => simp at h
            | some t2 =>
              simp only at h
              obtain ⟨c, hc, sc⟩ := hR z t t2 u sa.ok hr2
              have h' : R7.pairsN s rc m (if i + 2 = 0 then none else some (encB a)) u t2 = (some q, y) := by rw [if_neg (by omega)]; exact h
              obtain ⟨b, hb, sb⟩ := pairs_sound hR m (i + 2) (encB a) u t2 q y (by omega) sc.ok h'
              have hk0 : (true && i % 2 == 0) = true := by simp [hi]
              have hk1 : (true && (i + 1) % 2 == 0) = false := by simp; omega
              refine ⟨a ++ (c ++ b), ?_, sa.app (sc.app sb)⟩
              rw [show 2 * (m + 1) = 2 * m + 1 + 1 by omega]
              refine ⟨a, c ++ b, false, false, rfl, ha, ⟨c, b, false, false, rfl, hc, ?_, ?_⟩, ?_⟩
              · rw [hk1, hk0, if_neg (by simp), if_pos rfl]; exact hb
              · rw [hk1]; rfl
              · rw [hk0, Bool.true_and, hb2]; rfl
theorem head_ok {s : Bytes} {lim : Lim} {x y : St} {p k n q : Nat} (hok : Ok s lim x p) (h : R7.head s lim x p = (some (k, n, q), y)) : y = { x with taken := q } ∧ q ≤ s.length ∧ (q : Int) ≤ lim.b ∧ p < q ∧ k < 8 ∧ n < 18446744073709551616 ∧ (x.out.length : Int) < lim.i := by
  have hh := D7.head_eq hok
  rw [h] at hh
  obtain ⟨h1, h2, h3, h4, h5, h6, h7⟩ := hh
  refine ⟨h2, h3, h4, h5, h6, h7, ?_⟩
  have := hok.out
  unfold D7.head at h1
  cases hw : D7.want s lim p with
  | error e => rw [hw] at h1; simp at h1
  | ok c =>
    rw [hw] at h1
    simp only at h1
    by_cases e : (x.out.length : Int) = lim.i
    · rw [if_pos e] at h1; simp at h1
    · omega
theorem text_sound {s : Bytes} {lim : Lim} {x y : St} {p q k n at_ : Nat} (hok : Ok s lim x p) (hh : R7.head s lim x p = (some (k, n, at_), { x with taken := at_ })) (h23 : k = 2 ∨ k = 3) (h : R7.textN s lim k n { x with taken := at_ } p at_ = (some q, y)) (d : Nat) :
    ∃ l, ItF d l false ∧ Snd s lim x y p q l := by
  obtain ⟨_, g2, g3, g4, g5, g6, g7⟩ := head_ok hok hh
  obtain ⟨g8, _⟩ := head_sound hok hh
  have hw := D7.wantN_eq s lim n { x with taken := at_ } at_ rfl g2 g3
  unfold R7.textN at h
  cases hr : R7.wantN s lim n { x with taken := at_ } at_ with
  | mk o z =>
    rw [hr] at hw h
    cases o with
    | false => simp at h
    | true =>
      obtain ⟨a, b, c⟩ := hw
      simp only at h
      by_cases hv : (k == 3 && !Lib.validD ((s.take (at_ + n)).drop at_)) = true
      · rw [if_pos hv] at h; simp at h
      · rw [if_neg hv] at h
        simp only [Prod.mk.injEq, Option.some.injEq] at h
        obtain ⟨rfl, rfl⟩ := h
        have hlen : ((s.take (at_ + n)).drop at_).length = n := by rw [List.length_drop, List.length_take]; omega
        refine ⟨[⟨k, 0, (s.take (at_ + n)).drop at_⟩], ItF.one ?_ ?_, fun x hx => ?_, ?_, ?_, by omega, b, c, ?_, ?_⟩
        · unfold right
          rcases h23 with rfl | rfl
          · rfl
          · show (0 == 0 && Lib.validD _) = true
            simpa using hv
        · rcases h23 with rfl | rfl <;> rfl
        · rw [List.mem_singleton.1 hx]
          exact ⟨by show (0 : Nat) < _; omega, by show ((s.take (at_ + n)).drop at_).length < _; rw [hlen]; exact g6⟩
        · rw [a]
        · rw [take_split (Nat.le_of_lt g4) (Nat.le_add_right at_ n), g8]
          show _ = atomB _ ++ []
          rw [List.append_nil]
          unfold atomB
          rw [if_pos (by rcases h23 with rfl | rfl <;> rfl)]
          show _ = R7.headB ((k : Int)).toNat ((s.take (at_ + n)).drop at_).length ++ _
          rw [hlen]
          rfl
        · rw [a]
        · rw [a]
          show (((x.out ++ [_]).length : Nat) : Int) ≤ lim.i
          rw [List.length_append, List.length_singleton]
          omega
theorem encB_one (a : Atom) : encB [a] = atomB a := List.append_nil _
theorem plain_right {k n : Nat} (h2 : ¬ (k = 2 ∨ k = 3)) (h8 : k < 8) (h7 : k = 7 → 20 ≤ n ∧ n ≤ 23) : right ⟨k, n, []⟩ = true := by
  unfold right
  have hc : k = 0 ∨ k = 1 ∨ k = 4 ∨ k = 5 ∨ k = 6 ∨ k = 7 := by omega
  rcases hc with rfl | rfl | rfl | rfl | rfl | rfl
  · rfl
  · rfl
  · rfl
  · rfl
  · rfl
  · have := h7 rfl
    show (true && (decide (20 ≤ n) && decide (n ≤ 23))) = true
    simp [this]
theorem one_snd {s : Bytes} {lim : Lim} {x : St} {p k n q : Nat} (hok : Ok s lim x p) (hh : R7.head s lim x p = (some (k, n, q), { x with taken := q })) (h23 : ¬ (k = 2 ∨ k = 3)) (fr : Nat) :
    Snd s lim x { x with out := x.out ++ [⟨k, n, []⟩], taken := q, frames := fr } p q [⟨k, n, []⟩] ∧ right ⟨k, n, []⟩ = true := by
  obtain ⟨_, g2, g3, g4, g5, g6, g7⟩ := head_ok hok hh
  obtain ⟨g8, g9⟩ := head_sound hok hh
  refine ⟨⟨fun x hx => ?_, rfl, ?_, by omega, g2, g3, rfl, ?_⟩, plain_right h23 g5 g9⟩
  · rw [List.mem_singleton.1 hx]
    exact ⟨g6, by show (0 : Nat) < _; omega⟩
  · rw [g8, encB_one]
    exact (plain_enc (a := ⟨k, n, []⟩) rfl (by omega) (by omega) rfl).symm
  · show (((x.out ++ [_]).length : Nat) : Int) ≤ lim.i
    rw [List.length_append, List.length_singleton]
    omega
theorem Snd.frames {s : Bytes} {lim : Lim} {x y : St} {p q : Nat} {l : List Atom} (h : Snd s lim x y p q l) (f : Nat) : Snd s lim x { y with frames := f } p q l := ⟨h.wf, h.out, h.bytes, h.le, h.ok.ps, h.ok.pb, h.ok.taken, h.ok.out⟩
theorem item_sound (s : Bytes) (lim : Lim) : ∀ d, ItemS s lim d (R7.item s lim d) := by
  have common : ∀ (d : Nat) (x y : St) (p q k n at_ : Nat), Ok s lim x p → R7.head s lim x p = (some (k, n, at_), { x with taken := at_ }) → ¬ (k = 2 ∨ k = 3) → ¬ (k == 4 || k == 5 || k == 6) = true →
      ((some at_, { ({ x with taken := at_ } : St) with out := x.out ++ [⟨k, n, []⟩] }) : Option Nat × St) = (some q, y) → ∃ l, ItF d l false ∧ Snd s lim x y p q l := by
    intro d x y p q k n at_ hok hh h23 h456 e
    simp only [Prod.mk.injEq, Option.some.injEq] at e
    obtain ⟨rfl, rfl⟩ := e
    obtain ⟨h1, h2⟩ := one_snd hok hh h23 x.frames
    refine ⟨[⟨k, n, []⟩], ItF.one h2 ?_, h1⟩
    rw [leaf_kind (k := k) rfl]
    simpa using h456
  intro d
  induction d with
  | zero =>
    intro x p q y hok h
    unfold R7.item at h
    cases hr : R7.head s lim x p with
    | mk o z =>
      rw [hr] at h
      cases o with
      | none => simp at h
      | some t =>
        obtain ⟨k, n, at_⟩ := t
        obtain ⟨rfl, _⟩ := head_ok hok hr
        simp only at h
        by_cases h23 : (k == 2 || k == 3) = true
        · rw [if_pos h23] at h
          simp only [Bool.or_eq_true, beq_iff_eq] at h23
          exact text_sound hok hr h23 h 0
        · rw [if_neg h23] at h
          by_cases h456 : (k == 4 || k == 5 || k == 6) = true
          · rw [if_pos h456] at h; simp at h
          · rw [if_neg h456] at h
            exact common 0 x y p q k n at_ hok hr (by simpa using h23) h456 h
  | succ d ih =>
    intro x p q y hok h
    unfold R7.item at h
    cases hr : R7.head s lim x p with
    | mk o z =>
      rw [hr] at h
      cases o with
      | none => simp at h
      | some t =>
        obtain ⟨k, n, at_⟩ := t
        obtain ⟨rfl, _⟩ := head_ok hok hr
        simp only at h
        by_cases h23 : (k == 2 || k == 3) = true
        · rw [if_pos h23] at h
          simp only [Bool.or_eq_true, beq_iff_eq] at h23
          exact text_sound hok hr h23 h (d + 1)
        · rw [if_neg h23] at h
          by_cases h456 : (k == 4 || k == 5 || k == 6) = true
          · rw [if_pos h456] at h
            obtain ⟨h1, h2⟩ := one_snd hok hr (by simpa using h23) (x.frames + 1)
            have hlf : leaf ⟨k, n, []⟩ = false := by rw [leaf_kind (k := k) rfl, h456]; rfl
            unfold R7.holdN at h
            simp only at h
            have fin : ∀ res : Option Nat × St, (match res with | (some q, z) => (some q, { z with frames := z.frames - 1 }) | (none, z) => (none, z)) = (some q, y) →
                (∀ z, res = (some q, z) → ∃ l, Kids (ItF d) ((k : Int) == 5) (count ⟨k, n, []⟩) 0 [] l false ∧ Snd s lim { x with out := x.out ++ [⟨k, n, []⟩], taken := at_, frames := x.frames + 1 } z at_ q l) → ∃ l, ItF (d + 1) l false ∧ Snd s lim x y p q l := by
              intro res e hk
              obtain ⟨o, z⟩ := res
              cases o with
              | none => simp at e
              | some q' =>
                simp only [Prod.mk.injEq, Option.some.injEq] at e
                obtain ⟨rfl, rfl⟩ := e
                obtain ⟨l, k1, k2⟩ := hk z rfl
                exact ⟨⟨k, n, []⟩ :: l, ItF.node h2 hlf k1, (h1.app k2).frames _⟩
            refine fin _ h ?_
            intro z hz
            simp only [Bool.or_eq_true, beq_iff_eq] at h456
            rcases h456 with (rfl | rfl) | rfl
            · rw [if_pos (by rfl)] at hz
              exact items_sound ih n 0 [] _ _ _ _ h1.ok hz
            · rw [if_neg (by simp), if_pos (by rfl)] at hz
              exact pairs_sound ih n 0 [] _ _ _ _ rfl h1.ok hz
            · rw [if_neg (by simp), if_neg (by simp), ← R7.itemsN_one (R7.item s lim d)] at hz
              exact items_sound ih 1 0 [] _ _ _ _ h1.ok hz
          · rw [if_neg h456] at h
            exact common (d + 1) x y p q k n at_ hok hr (by simpa using h23) h456 h

/-! Decode, by items -/
theorem start_ok {s : Bytes} {lim : Lim} (hm : lim.may = true) : Ok s lim R7.start 0 := by
  have hmay := Cf.may_of hm
  exact ⟨Nat.zero_le _, by omega, rfl, by show ((0 : Nat) : Int) ≤ lim.i; omega⟩
theorem decode_of_it {l : List Atom} {o : Bool} {lim : Lim} (hm : lim.may = true) (h : ItF lim.d.toNat l o) (hw : Wf l) (hi : (l.length : Int) ≤ lim.i) (hb : ((encB l).length : Int) ≤ lim.b) :
    if o then (R7.decode (encB l) lim).2.2 = 9 else R7.decode (encB l) lim = (l, 0, 0) := by
  have hr := item_reads (encB l) lim lim.d.toNat R7.start 0 l o [] h hw rfl (Nat.zero_le _) (List.append_nil _).symm (by show ((0 + l.length : Nat) : Int) ≤ lim.i; omega) (by omega)
  rw [R7.decode_yes hm]
  unfold R7.read
  cases o with
  | true =>
    obtain ⟨y, e1, e2⟩ := hr.no
    rw [e1]
    exact e2
  | false =>
    rw [hr.ok]
    simp only [Nat.zero_add, Nat.lt_irrefl, if_false]
    show (R7.list _, (0 : Int), (0 : Int)) = _
    unfold R7.list
    simp [R7.start]
theorem decode_sound {s : Bytes} {lim : Lim} (h : (R7.decode s lim).2.2 = 0) :
    lim.may = true ∧ (R7.decode s lim).2.1 = 0 ∧ ItF lim.d.toNat (R7.decode s lim).1 false ∧ Wf (R7.decode s lim).1 ∧ s = encB (R7.decode s lim).1 ∧ ((R7.decode s lim).1.length : Int) ≤ lim.i ∧ (s.length : Int) ≤ lim.b ∧
      ∃ y, R7.item s lim lim.d.toNat R7.start 0 = (some s.length, y) ∧ y.out = (R7.decode s lim).1 ∧ y.err = 0 ∧ y.place = 0 := by
  cases hm : lim.may with
  | false => rw [R7.decode_no hm] at h; simp at h
  | true =>
    rw [R7.decode_yes hm] at h ⊢
    simp only at h
    have hok := start_ok (s := s) hm
    have hmay := Cf.may_of hm
    have hsim := R7.item_sim (s := s) hm lim.d.toNat R7.start 0 { Cf.init lim with text := s.take 0, out := [], stack := [] } ⟨⟨rfl, rfl, Nat.zero_le _, by omega, rfl, rfl, rfl, rfl, rfl⟩, rfl, rfl, by show ((0 + lim.d.toNat : Nat) : Int) = lim.d; omega⟩ (by show ((0 : Nat) : Int) ≤ lim.i; omega)
    unfold R7.read at h ⊢
    cases hr : R7.item s lim lim.d.toNat R7.start 0 with
    | mk o y =>
      rw [hr] at h hsim
      cases o with
      | none => exact absurd h hsim.xerr
      | some q =>
        obtain ⟨i1, _⟩ := hsim
        simp only at h ⊢
        by_cases hlt : q < s.length
        · rw [if_pos hlt] at h
          exfalso
          cases hw : R7.want s lim y q with
          | mk b z =>
            rw [hw] at h
            cases b
            · unfold R7.want at hw
              split at hw
              · simp at hw
              · split at hw <;> (simp only [Prod.mk.injEq, true_and] at hw; subst hw; simp [R7.fault] at h)
            · simp [R7.fault] at h
        · rw [if_neg hlt]
          obtain ⟨l, h1, h2⟩ := item_sound s lim lim.d.toNat R7.start 0 q y hok hr
          have hq : q = s.length := by have := h2.ok.ps; omega
          subst hq
          have hout : y.out = l := h2.out
          have hl : R7.list y = l := by unfold R7.list; rw [i1.err]; simpa using hout
          have hp : y.place = 0 := i1.place
          simp only [hl]
          refine ⟨trivial, hp, h1, h2.wf, ?_, ?_, h2.ok.pb, y, rfl, hout, i1.err, hp⟩
          · have := h2.bytes
            rwa [List.take_length, List.drop_zero] at this
          · have := h2.ok.out
            rwa [hout] at this
theorem decode_nil {s : Bytes} {lim : Lim} (h : (R7.decode s lim).2.2 ≠ 0) : (R7.decode s lim).1 = [] := by
  cases hm : lim.may with
  | false => rw [R7.decode_no hm]
  | true =>
    rw [R7.decode_yes hm] at h ⊢
    show R7.list _ = []
    unfold R7.list
    rw [if_neg (by simpa using h)]
end Go.Px.E7

/-! Lesser limits, and texts that are cut: the reading is the same, or is refused (plain laws of layer 17). No program is named here. -/
namespace Go.Px.E7
open R7 (St)

/-- How one reading follows another: the text is the other's beginning, or the limits are lesser. -/
structure Foll (s s' : Bytes) (lim lim' : Lim) (e : Nat) (Bad : St → Prop) : Prop where
  byte : ∀ p, p < s'.length → s'.getD p 0 = s.getD p 0
  part : ∀ p q, q ≤ s'.length → (s'.take q).drop p = (s.take q).drop p
  want : ∀ x p, R7.want s' lim' x p = R7.want s lim x p ∨ ∃ y, R7.want s' lim' x p = (false, y) ∧ Bad y
  items : ∀ (x : St) (p : Nat), lim'.i ≤ x.out.length → lim.i ≤ x.out.length ∨ Bad (R7.fault x p 10)
  less : ∀ x : St, lim.i ≤ x.out.length → lim'.i ≤ x.out.length
  deep : e ≠ 0 → ∀ (x : St) (p : Nat), Bad (R7.fault x p 10)
def Agree (s' : Bytes) (Bad : St → Prop) (r' r : Option Nat × St) : Prop :=
  (r' = r ∧ ∀ q y, r = (some q, y) → q ≤ s'.length) ∨ ∃ y, r' = (none, y) ∧ Bad y
section
variable {s s' : Bytes} {lim lim' : Lim} {e : Nat} {Bad : St → Prop}
theorem want_lt {x y : St} {p : Nat} (h : R7.want s' lim' x p = (true, y)) : p < s'.length := by
  unfold R7.want at h
  split at h
  · rename_i hc; exact hc.1
  · split at h <;> simp at h
theorem argN_foll (F : Foll s s' lim lim' e Bad) : ∀ (m : Nat) (x : St) (p n : Nat), p ≤ s'.length →
    (R7.argN s' lim' m x p n = R7.argN s lim m x p n ∧ ∀ v y, R7.argN s lim m x p n = (some v, y) → p + m ≤ s'.length) ∨ ∃ y, R7.argN s' lim' m x p n = (none, y) ∧ Bad y
  | 0, x, p, n, hp => .inl ⟨rfl, fun _ _ _ => hp⟩
  | m + 1, x, p, n, hp => by
    unfold R7.argN
    rcases F.want x p with h | ⟨y, h, hb⟩
    · rw [← h]
      cases hw : R7.want s' lim' x p with
      | mk b z =>
        cases b
        · exact .inl ⟨rfl, fun v y e => by simp at e⟩
        · have hl := want_lt hw
          simp only
          rw [F.byte p hl]
          rcases argN_foll F m z (p + 1) (n * 256 + (s.getD p 0).toNat) hl with ⟨k1, k2⟩ | k
          · exact .inl ⟨k1, fun v y e => by have := k2 v y e; omega⟩
          · exact .inr k
    · rw [h]
      exact .inr ⟨y, rfl, hb⟩
theorem head_foll (F : Foll s s' lim lim' e Bad) (x : St) (p : Nat) :
    (R7.head s' lim' x p = R7.head s lim x p ∧ ∀ k n q y, R7.head s lim x p = (some (k, n, q), y) → q ≤ s'.length) ∨ ∃ y, R7.head s' lim' x p = (none, y) ∧ Bad y := by
  unfold R7.head
  rcases F.want x p with h | ⟨y, h, hb⟩
  · rw [← h]
    cases hw : R7.want s' lim' x p with
    | mk b z =>
      cases b
      · exact .inl ⟨rfl, fun k n q y e => by simp at e⟩
      · have hl := want_lt hw
        simp only
        rw [F.byte p hl]
        by_cases hi : lim'.i ≤ z.out.length
        · rw [if_pos hi]
          rcases F.items z p hi with hi2 | hb
          · rw [if_pos hi2]
            exact .inl ⟨rfl, fun k n q y e => by simp at e⟩
          · exact .inr ⟨_, rfl, hb⟩
        · rw [if_neg hi, if_neg (fun h => hi (F.less z h))]
          by_cases h27 : 27 < (s.getD p 0).toNat % 32
          · rw [if_pos h27, if_pos h27]
            exact .inl ⟨rfl, fun k n q y e => by simp at e⟩
          · rw [if_neg h27, if_neg h27]
            by_cases h7 : ((s.getD p 0).toNat / 32 == 7 && (decide ((s.getD p 0).toNat % 32 < 20) || decide (23 < (s.getD p 0).toNat % 32))) = true
            · rw [if_pos h7, if_pos h7]
              exact .inl ⟨rfl, fun k n q y e => by simp at e⟩
            · rw [if_neg h7, if_neg h7]
              by_cases h24 : (s.getD p 0).toNat % 32 < 24
              · rw [if_pos h24, if_pos h24]
                refine .inl ⟨rfl, fun k n q y e => ?_⟩
                simp only [Prod.mk.injEq, Option.some.injEq] at e
                omega
              · rw [if_neg h24, if_neg h24]
                rcases argN_foll F (2 ^ ((s.getD p 0).toNat % 32 - 24)) z (p + 1) 0 hl with ⟨k1, k2⟩ | ⟨y, k1, k2⟩
                · rw [k1]
                  refine .inl ⟨rfl, fun k n q y e => ?_⟩
                  cases ha : R7.argN s lim (2 ^ ((s.getD p 0).toNat % 32 - 24)) z (p + 1) 0 with
                  | mk o u =>
                    rw [ha] at e
                    cases o with
                    | none => simp at e
                    | some v =>
                      have := k2 v u ha
                      simp only at e
                      split at e
                      · simp only [Prod.mk.injEq, Option.some.injEq] at e
                        omega
                      · simp at e
                · rw [k1]
                  exact .inr ⟨y, rfl, k2⟩
  · rw [h]
    exact .inr ⟨y, rfl, hb⟩
theorem wantN_foll (F : Foll s s' lim lim' e Bad) : ∀ (m : Nat) (x : St) (p : Nat), p ≤ s'.length →
    (R7.wantN s' lim' m x p = R7.wantN s lim m x p ∧ ∀ y, R7.wantN s lim m x p = (true, y) → p + m ≤ s'.length) ∨ ∃ y, R7.wantN s' lim' m x p = (false, y) ∧ Bad y
  | 0, x, p, hp => .inl ⟨rfl, fun _ _ => hp⟩
  | m + 1, x, p, hp => by
    unfold R7.wantN
    rcases F.want x p with h | ⟨y, h, hb⟩
    · rw [← h]
      cases hw : R7.want s' lim' x p with
      | mk b z =>
        cases b
        · exact .inl ⟨rfl, fun y e => by simp at e⟩
        · have hl := want_lt hw
          simp only
          rcases wantN_foll F m z (p + 1) hl with ⟨k1, k2⟩ | k
          · exact .inl ⟨k1, fun y e => by have := k2 y e; omega⟩
          · exact .inr k
    · rw [h]
      exact .inr ⟨y, rfl, hb⟩
theorem text_foll (F : Foll s s' lim lim' e Bad) (k n : Nat) (x : St) (p at_ : Nat) (ha : at_ ≤ s'.length) : Agree s' Bad (R7.textN s' lim' k n x p at_) (R7.textN s lim k n x p at_) := by
  unfold R7.textN
  rcases wantN_foll F n x at_ ha with ⟨h, h2⟩ | ⟨y, h, hb⟩
  · rw [h]
    cases hw : R7.wantN s lim n x at_ with
    | mk b z =>
      cases b
      · exact .inl ⟨rfl, fun q y e => by simp at e⟩
      · have hl := h2 z hw
        simp only
        rw [F.part at_ (at_ + n) hl]
        refine .inl ⟨rfl, fun q y e => ?_⟩
        split at e
        · simp at e
        · simp only [Prod.mk.injEq, Option.some.injEq] at e
          omega
  · rw [h]
    exact .inr ⟨y, rfl, hb⟩
theorem items_foll {rc rc' : St → Nat → Option Nat × St} (hR : ∀ x p, p ≤ s'.length → Agree s' Bad (rc' x p) (rc x p)) : ∀ (m : Nat) (x : St) (p : Nat), p ≤ s'.length → Agree s' Bad (R7.itemsN rc' m x p) (R7.itemsN rc m x p)
  | 0, x, p, hp => .inl ⟨rfl, fun q y e => by unfold R7.itemsN at e; simp only [Prod.mk.injEq, Option.some.injEq] at e; omega⟩
  | m + 1, x, p, hp => by
    unfold R7.itemsN
    rcases hR x p hp with ⟨h, h2⟩ | ⟨y, h, hb⟩
    · rw [h]
      cases hr : rc x p with
      | mk o z =>
        cases o with
        | none => exact .inl ⟨rfl, fun q y e => by simp at e⟩
        | some t => exact items_foll hR m z t (h2 t z hr)
    · rw [h]
      exact .inr ⟨y, rfl, hb⟩
theorem pairs_foll (F : Foll s s' lim lim' e Bad) {rc rc' : St → Nat → Option Nat × St} (hR : ∀ x p, p ≤ s'.length → Agree s' Bad (rc' x p) (rc x p)) : ∀ (m : Nat) (last : Option Bytes) (x : St) (p : Nat), p ≤ s'.length → Agree s' Bad (R7.pairsN s' rc' m last x p) (R7.pairsN s rc m last x p)
  | 0, _, x, p, hp => .inl ⟨rfl, fun q y e => by unfold R7.pairsN at e; simp only [Prod.mk.injEq, Option.some.injEq] at e; omega⟩
  | m + 1, last, x, p, hp => by
    unfold R7.pairsN
    rcases hR x p hp with ⟨h, h2⟩ | ⟨y, h, hb⟩
    · rw [h]
      cases hr : rc x p with
      | mk o z =>
        cases o with
        | none => exact .inl ⟨rfl, fun q y e => by simp at e⟩
        | some t =>
          have ht := h2 t z hr
          simp only
          rw [F.part p t ht]
          by_cases hc : (last.any fun l => leB ((s.take t).drop p) l) = true
          · rw [if_pos hc, if_pos hc]
            exact .inl ⟨rfl, fun q y e => by simp at e⟩
          · rw [if_neg hc, if_neg hc]
            rcases hR z t ht with ⟨k, k2⟩ | ⟨y, k, hb⟩
            · rw [k]
              cases hr2 : rc z t with
              | mk o2 u =>
                cases o2 with
                | none => exact .inl ⟨rfl, fun q y e => by simp at e⟩
                | some t2 => exact pairs_foll F hR m _ u t2 (k2 t2 u hr2)
            · rw [k]
              exact .inr ⟨y, rfl, hb⟩
    · rw [h]
      exact .inr ⟨y, rfl, hb⟩
theorem item_foll (F : Foll s s' lim lim' e Bad) : ∀ (d : Nat) (x : St) (p : Nat), Agree s' Bad (R7.item s' lim' d x p) (R7.item s lim (d + e) x p) := by
  have unf : ∀ (s : Bytes) (lim : Lim) (d : Nat) (x : St) (p : Nat), R7.item s lim d x p = (match R7.head s lim x p with
    | (none, y) => (none, y)
    | (some (k, n, at_), y) => if k == 2 || k == 3 then R7.textN s lim k n y p at_ else if k == 4 || k == 5 || k == 6 then (match d with | 0 => (none, R7.fault y p 10) | d + 1 => R7.holdN s (R7.item s lim d) k n y at_) else (some at_, { y with out := y.out ++ [⟨k, n, []⟩] })) := by
    intro s lim d x p
    cases d <;> (unfold R7.item; cases R7.head s lim x p with | mk o y => cases o <;> rfl)
  intro d
  induction d with
  | zero =>
    intro x p
    rw [unf s' lim' 0 x p, unf s lim (0 + e) x p]
    rcases head_foll F x p with ⟨h, h2⟩ | ⟨y, h, hb⟩
    · rw [h]
      cases hr : R7.head s lim x p with
      | mk o z =>
        cases o with
        | none => exact .inl ⟨rfl, fun q y e => by simp at e⟩
        | some t =>
          obtain ⟨k, n, at_⟩ := t
          have ha := h2 k n at_ z hr
          simp only
          by_cases h23 : (k == 2 || k == 3) = true
          · rw [if_pos h23, if_pos h23]
            exact text_foll F k n z p at_ ha
          · rw [if_neg h23, if_neg h23]
            by_cases h456 : (k == 4 || k == 5 || k == 6) = true
            · rw [if_pos h456, if_pos h456]
              rw [Nat.zero_add]
              cases e with
              | zero => exact .inl ⟨rfl, fun q y e => by simp at e⟩
              | succ e => exact .inr ⟨_, rfl, F.deep (by omega) z p⟩
            · rw [if_neg h456, if_neg h456]
              refine .inl ⟨rfl, fun q y e => ?_⟩
              simp only [Prod.mk.injEq, Option.some.injEq] at e
              omega
    · rw [h]
      exact .inr ⟨y, rfl, hb⟩
  | succ d ih =>
    intro x p
    rw [show d + 1 + e = d + e + 1 by omega, unf s' lim' (d + 1) x p, unf s lim (d + e + 1) x p]
    rcases head_foll F x p with ⟨h, h2⟩ | ⟨y, h, hb⟩
    · rw [h]
      cases hr : R7.head s lim x p with
      | mk o z =>
        cases o with
        | none => exact .inl ⟨rfl, fun q y e => by simp at e⟩
        | some t =>
          obtain ⟨k, n, at_⟩ := t
          have ha := h2 k n at_ z hr
          simp only
          by_cases h23 : (k == 2 || k == 3) = true
          · rw [if_pos h23, if_pos h23]
            exact text_foll F k n z p at_ ha
          · rw [if_neg h23, if_neg h23]
            by_cases h456 : (k == 4 || k == 5 || k == 6) = true
            · rw [if_pos h456, if_pos h456]
              unfold R7.holdN
              simp only
              have fin : ∀ r' r : Option Nat × St, Agree s' Bad r' r → Agree s' (Bad) (match r' with | (some q, z) => (some q, { z with frames := z.frames - 1 }) | (none, z) => (none, z)) (match r with | (some q, z) => (some q, { z with frames := z.frames - 1 }) | (none, z) => (none, z)) := by
                intro r' r hA
                rcases hA with ⟨rfl, h2⟩ | ⟨y, rfl, hb⟩
                · refine .inl ⟨rfl, fun q y e => ?_⟩
                  obtain ⟨o, z⟩ := r'
                  cases o with
                  | none => simp at e
                  | some t =>
                    simp only [Prod.mk.injEq, Option.some.injEq] at e
                    rw [← e.1]
                    exact h2 t z rfl
                · exact .inr ⟨y, rfl, hb⟩
              refine fin _ _ ?_
              simp only [Bool.or_eq_true, beq_iff_eq] at h456
              rcases h456 with (rfl | rfl) | rfl
              · rw [if_pos (by rfl), if_pos (by rfl)]
                exact items_foll (fun x p _ => ih x p) n _ at_ ha
              · rw [if_neg (by simp), if_pos (by rfl), if_neg (by simp), if_pos (by rfl)]
                exact pairs_foll F (fun x p _ => ih x p) n none _ at_ ha
              · rw [if_neg (by simp), if_neg (by simp), if_neg (by simp), if_neg (by simp)]
                exact ih _ at_
            · rw [if_neg h456, if_neg h456]
              refine .inl ⟨rfl, fun q y e => ?_⟩
              simp only [Prod.mk.injEq, Option.some.injEq] at e
              omega
    · rw [h]
      exact .inr ⟨y, rfl, hb⟩
end

/-! Lesser limits -/
theorem foll_lim (s : Bytes) {lim lim' : Lim} (e : Nat) (hb : lim'.b ≤ lim.b) (hi : lim'.i ≤ lim.i) : Foll s s lim lim' e (fun y => y.err = 10 ∧ (lim'.i = lim.i → e = 0 → y.place = lim'.b)) where
  byte _ _ := rfl
  part _ _ _ := rfl
  want x p := by
    unfold R7.want
    by_cases h1 : p < s.length ∧ (p : Int) < lim'.b
    · rw [if_pos h1, if_pos ⟨h1.1, by omega⟩]
      exact .inl rfl
    · rw [if_neg h1]
      by_cases h2 : lim'.b < s.length
      · rw [if_pos h2]
        exact .inr ⟨_, rfl, rfl, fun _ _ => rfl⟩
      · rw [if_neg h2, if_neg (by omega), if_neg (by omega)]
        exact .inl rfl
  items x p h := by
    by_cases h2 : lim.i ≤ x.out.length
    · exact .inl h2
    · exact .inr ⟨rfl, fun h3 => absurd h3 (by omega)⟩
  less x h := by omega
  deep h x p := ⟨rfl, fun _ h2 => absurd h2 h⟩
/-! A text's beginning -/
theorem foll_cut {s s' t : Bytes} {lim : Lim} (hs : s = s' ++ t) (hl : (s'.length : Int) ≤ lim.b) : Foll s s' lim lim 0 (fun y => y.err = 9 ∧ y.place = s'.length) where
  byte p hp := by
    rw [hs, List.getD_eq_getElem?_getD, List.getD_eq_getElem?_getD, List.getElem?_append_left hp]
  part p q hq := by rw [hs, List.take_append_of_le_length hq]
  want x p := by
    unfold R7.want
    by_cases h1 : p < s'.length
    · rw [if_pos ⟨h1, by omega⟩, if_pos ⟨by rw [hs, List.length_append]; omega, by omega⟩]
      exact .inl rfl
    · rw [if_neg (by omega), if_neg (by omega)]
      exact .inr ⟨_, rfl, rfl, rfl⟩
  items x p h := .inl h
  less x h := h
  deep h := absurd rfl h

/-! What follows for Decode -/
/-- A reading that went well, by the reader. -/
def Well (s : Bytes) (lim : Lim) (l : List Atom) : Prop := ∃ y, R7.item s lim lim.d.toNat R7.start 0 = (some s.length, y) ∧ y.out = l ∧ y.err = 0 ∧ y.place = 0
theorem Well.decode {s : Bytes} {lim : Lim} {l : List Atom} (hm : lim.may = true) (h : Well s lim l) : R7.decode s lim = (l, 0, 0) := by
  obtain ⟨y, h1, h2, h3, h4⟩ := h
  rw [R7.decode_yes hm]
  unfold R7.read
  rw [h1]
  simp only [Nat.lt_irrefl, if_false]
  rw [h3, h4]
  unfold R7.list
  rw [h3, h2]
  rfl
theorem fail_decode {s : Bytes} {lim : Lim} {y : St} (hm : lim.may = true) (h : R7.item s lim lim.d.toNat R7.start 0 = (none, y)) (he : y.err ≠ 0) : R7.decode s lim = ([], y.place, y.err) := by
  rw [R7.decode_yes hm]
  unfold R7.read
  rw [h]
  simp only
  unfold R7.list
  rw [if_neg (by simpa using he)]
theorem decode_more {s : Bytes} {lim more : Lim} (h : (R7.decode s lim).2.2 = 0) (hm : more.may = true) (hd : lim.d ≤ more.d) (hi : lim.i ≤ more.i) (hb : lim.b ≤ more.b) : R7.decode s more = ((R7.decode s lim).1, 0, 0) := by
  obtain ⟨hm0, _, _, _, _, _, _, y, h1, h2, h3, h4⟩ := decode_sound h
  have m0 := Cf.may_of hm0
  have m1 := Cf.may_of hm
  rcases item_foll (foll_lim s (lim := more) (lim' := lim) (more.d.toNat - lim.d.toNat) hb hi) lim.d.toNat R7.start 0 with ⟨k, _⟩ | ⟨z, k, _⟩
  · rw [h1, show lim.d.toNat + (more.d.toNat - lim.d.toNat) = more.d.toNat by omega] at k
    exact Well.decode hm ⟨y, k.symm, h2, h3, h4⟩
  · rw [h1] at k; simp at k
theorem one_le_size (n : Nat) : 1 ≤ (if n < 24 then 1 else 2 ^ R7.infoOf n + 1) := by
  split
  · exact Nat.le_refl _
  · exact Nat.le_add_left _ _
theorem decode_just {s : Bytes} {lim : Lim} (h : (R7.decode s lim).2.2 = 0) (r : Int) (hr : 1 ≤ r) (hr2 : r ≤ 4096) :
    R7.decode s ⟨lim.d, ((R7.decode s lim).1.length : Nat), (s.length : Nat), r⟩ = ((R7.decode s lim).1, 0, 0) := by
  obtain ⟨hm0, _, h1, h2, h3, h4, h5, _⟩ := decode_sound h
  have m0 := Cf.may_of hm0
  have hpos := h1.pos
  have hsp : 1 ≤ s.length := by
    rw [h3]
    cases hl : (R7.decode s lim).1 with
    | nil => rw [hl] at hpos; simp at hpos
    | cons a r =>
      rw [encB_cons, List.length_append]
      unfold atomB
      rw [List.length_append, headB_size]
      have := one_le_size (if (a.kind == 2 || a.kind == 3) = true then a.text.length else a.num)
      omega
  have hmj : (⟨lim.d, ((R7.decode s lim).1.length : Nat), (s.length : Nat), r⟩ : Lim).may = true := by
    unfold Lim.may
    simp only [Bool.and_eq_true, decide_eq_true_eq]
    omega
  have := decode_of_it (lim := ⟨lim.d, ((R7.decode s lim).1.length : Nat), (s.length : Nat), r⟩) hmj h1 h2 (Int.le_refl _) (by rw [← h3]; exact Int.le_refl _)
  rw [← h3] at this
  exact this
theorem decode_few {s : Bytes} {lim few : Lim} (h : (R7.decode s lim).2.2 = 0) (hm : few.may = true) (hd : few.d = lim.d) (hi : few.i < ((R7.decode s lim).1.length : Nat)) (hb : few.b ≤ lim.b) : (R7.decode s few).2.2 = 10 := by
  obtain ⟨hm0, _, _, _, _, h4, _, y, h1, h2, h3, _⟩ := decode_sound h
  rcases item_foll (foll_lim s (lim := lim) (lim' := few) 0 hb (by omega)) few.d.toNat R7.start 0 with ⟨k, _⟩ | ⟨z, k, k2, _⟩
  · rw [hd, Nat.add_zero, h1] at k
    exfalso
    have hok := start_ok (s := s) hm
    obtain ⟨l, _, k2⟩ := item_sound s few lim.d.toNat R7.start 0 _ y hok k
    have := k2.ok.out
    rw [h2] at this
    omega
  · rw [fail_decode hm k (by rw [k2]; omega), k2]
theorem decode_less {s : Bytes} {lim less : Lim} (h : (R7.decode s lim).2.2 = 0) (hm : less.may = true) (hd : less.d = lim.d) (hi : less.i = lim.i) (hb : less.b < (s.length : Nat)) : (R7.decode s less).2.2 = 10 ∧ (R7.decode s less).2.1 = less.b := by
  obtain ⟨hm0, _, _, _, _, _, h5, y, h1, h2, h3, _⟩ := decode_sound h
  rcases item_foll (foll_lim s (lim := lim) (lim' := less) 0 (by omega) (by omega)) less.d.toNat R7.start 0 with ⟨k, _⟩ | ⟨z, k, k2, k3⟩
  · rw [hd, Nat.add_zero, h1] at k
    exfalso
    have hok := start_ok (s := s) hm
    obtain ⟨l, _, k2⟩ := item_sound s less lim.d.toNat R7.start 0 _ y hok k
    have := k2.ok.pb
    omega
  · rw [fail_decode hm k (by rw [k2]; omega)]
    exact ⟨k2, k3 hi rfl⟩
theorem decode_cut {s : Bytes} {lim : Lim} (h : (R7.decode s lim).2.2 = 0) (n : Nat) (hn : n < s.length) : (R7.decode (s.take n) lim).2.2 = 9 ∧ (R7.decode (s.take n) lim).2.1 = n := by
  obtain ⟨hm, _, _, _, _, _, h5, y, h1, h2, h3, _⟩ := decode_sound h
  have hl : (s.take n).length = n := by rw [List.length_take]; omega
  rcases item_foll (foll_cut (s := s) (s' := s.take n) (t := s.drop n) (lim := lim) (List.take_append_drop n s).symm (by rw [hl]; omega)) lim.d.toNat R7.start 0 with ⟨k, k2⟩ | ⟨z, k, k2, k3⟩
  · exfalso
    rw [Nat.add_zero] at k k2
    have := k2 _ _ h1
    omega
  · rw [fail_decode hm k (by rw [k2]; omega)]
    rw [hl] at k3
    exact ⟨k2, k3⟩
theorem decode_more_byte {s : Bytes} {lim : Lim} (h : (R7.decode s lim).2.2 = 0) (c : UInt8) (hl : (s.length : Int) < lim.b) : (R7.decode (s ++ [c]) lim).2.2 = 9 ∧ (R7.decode (s ++ [c]) lim).2.1 = s.length := by
  obtain ⟨hm, _, _, _, _, _, h5, y, h1, h2, h3, _⟩ := decode_sound h
  rcases item_foll (foll_cut (s := s ++ [c]) (s' := s) (t := [c]) (lim := lim) rfl h5) lim.d.toNat R7.start 0 with ⟨k, k2⟩ | ⟨z, k, k2, k3⟩
  · rw [h1, Nat.add_zero] at k
    rw [R7.decode_yes hm]
    unfold R7.read
    rw [← k]
    simp only [List.length_append, List.length_singleton, Nat.lt_succ_self, if_true]
    have hw : R7.want (s ++ [c]) lim y s.length = (true, R7.take y (s.length + 1)) := by
      unfold R7.want
      rw [if_pos ⟨by simp, hl⟩]
    rw [hw]
    exact ⟨rfl, rfl⟩
  · rw [h1] at k; simp at k
end Go.Px.E7

/-! Encode as a plain function, and how the two ways to it agree (plain laws of layer 17). No program is named here. -/
namespace Go.Px.E7

def encLim : Lim := ⟨32, 4096, 262144, 1⟩
def encode (l : List Atom) : Bytes × Int :=
  if 4096 < l.length then ([], 10)
  else match shape true l [] 0 with
    | none => ([], 9)
    | some (m, left) =>
      if l.isEmpty || !left.isEmpty then ([], 9)
      else if 32 < m then ([], 10)
      else if 262144 < (encB l).length then ([], 10)
      else if (R7.decode (encB l) encLim).2.2 = 0 then (encB l, 0) else ([], 9)
theorem encLim_may : encLim.may = true := by decide

/-- The ways that Encode goes. -/
inductive Enc (l : List Atom) : Bytes × Int → Prop
  | many : 4096 < l.length → Enc l ([], 10)
  | form : l.length ≤ 4096 → (∀ o, ¬ ItF 4096 l o) → Enc l ([], 9)
  | deep (m : Nat) : l.length ≤ 4096 → shape true l [] 0 = some (m, []) → l ≠ [] → 32 < m → Enc l ([], 10)
  | long (o : Bool) (m : Nat) : l.length ≤ 4096 → shape true l [] 0 = some (m, []) → l ≠ [] → m ≤ 32 → ItF 32 l o → 262144 < (encB l).length → Enc l ([], 10)
  | out (m : Nat) : l.length ≤ 4096 → shape true l [] 0 = some (m, []) → l ≠ [] → m ≤ 32 → ItF 32 l true → (encB l).length ≤ 262144 → Enc l ([], 9)
  | ok (m : Nat) : l.length ≤ 4096 → shape true l [] 0 = some (m, []) → l ≠ [] → m ≤ 32 → ItF 32 l false → (encB l).length ≤ 262144 → Enc l (encB l, 0)
theorem shape_le : ∀ (l : List Atom) (f : Bool) (left : List Nat) (most m : Nat) (e : List Nat), shape f l left most = some (m, e) → m ≤ max most (left.length + l.length)
  | [], f, left, most, m, e, h => by unfold shape at h; simp only [Option.some.injEq, Prod.mk.injEq] at h; omega
  | a :: r, f, left, most, m, e, h => by
    unfold shape at h
    split at h
    · cases h
    · split at h
      · rename_i n _
        have := shape_le r _ _ _ _ _ h
        have h2 := pops_len (n :: dec left)
        simp only [List.length_cons, dec_len] at h2 this ⊢
        omega
      · have := shape_le r _ _ _ _ _ h
        have h2 := pops_len (dec left)
        simp only [List.length_cons, dec_len] at h2 this ⊢
        omega
theorem encode_enc (l : List Atom) (hw : Wf l) : Enc l (encode l) := by
  unfold encode
  by_cases h0 : 4096 < l.length
  · rw [if_pos h0]; exact .many h0
  · rw [if_neg h0]
    have hform : (∀ m, ¬ (shape true l [] 0 = some (m, []) ∧ l ≠ [])) → Enc l ([], 9) := by
      intro h
      refine .form (by omega) fun o ho => ?_
      obtain ⟨m, h1, h2, h3⟩ := shape_of_it ho (by omega)
      exact h m ⟨h1, h3⟩
    cases hs : shape true l [] 0 with
    | none => exact hform fun m h => by rw [hs] at h; cases h.1
    | some r =>
      obtain ⟨m, left⟩ := r
      simp only
      by_cases hc : (l.isEmpty || !left.isEmpty) = true
      · rw [if_pos hc]
        refine hform fun m2 h => ?_
        rw [hs] at h
        simp only [Option.some.injEq, Prod.mk.injEq] at h
        obtain ⟨⟨_, rfl⟩, h2⟩ := h
        simp at hc
        exact h2 hc
      · rw [if_neg hc]
        simp only [Bool.or_eq_true, List.isEmpty_iff, Bool.not_eq_true', not_or, Bool.not_eq_false] at hc
        obtain ⟨hn, hl⟩ := hc
        have hl' : left = [] := by simpa using hl
        subst hl'
        by_cases h32 : 32 < m
        · rw [if_pos h32]; exact .deep m (by omega) hs hn h32
        · rw [if_neg h32]
          obtain ⟨o, ho⟩ := it_of_shape (D := 32) hn hs (by omega) (by omega)
          by_cases hb : 262144 < (encB l).length
          · rw [if_pos hb]; exact .long o m (by omega) hs hn (by omega) ho hb
          · rw [if_neg hb]
            have hd := decode_of_it (lim := encLim) encLim_may ho hw (by show (l.length : Int) ≤ 4096; omega) (by show ((encB l).length : Int) ≤ 262144; omega)
            cases o with
            | true =>
              rw [if_pos rfl] at hd
              rw [hd, if_neg (by omega)]
              exact .out m (by omega) hs hn (by omega) ho (by omega)
            | false =>
              have hd' : R7.decode (encB l) encLim = (l, 0, 0) := hd
              rw [hd', if_pos rfl]
              exact .ok m (by omega) hs hn (by omega) ho (by omega)
theorem encode_of_it {l : List Atom} (h : ItF 32 l false) (hw : Wf l) (hi : l.length ≤ 4096) (hb : (encB l).length ≤ 262144) : encode l = (encB l, 0) := by
  obtain ⟨m, h1, h2, h3⟩ := shape_of_it h (by omega)
  unfold encode
  rw [if_neg (by omega), h1]
  simp only
  have hd : R7.decode (encB l) encLim = (l, 0, 0) := decode_of_it (lim := encLim) encLim_may h hw (by show (l.length : Int) ≤ 4096; omega) (by show ((encB l).length : Int) ≤ 262144; omega)
  rw [if_neg (by simpa using h3), if_neg (by omega), if_neg (by omega), hd, if_pos rfl]
theorem encode_nil {l : List Atom} (hw : Wf l) (h : (encode l).2 ≠ 0) : (encode l).1 = [] := by
  have := encode_enc l hw
  generalize encode l = r at this h
  cases this with
  | ok => exact absurd rfl h
  | _ => rfl
theorem encode_back {l : List Atom} (hw : Wf l) (h : (encode l).2 = 0) {lim : Lim} (hm : lim.may = true) (hd : lim.d = 32) (hi : lim.i = 4096) (hb : lim.b = 262144) : R7.decode (encode l).1 lim = (l, 0, 0) := by
  have := encode_enc l hw
  generalize encode l = r at this h
  cases this with
  | ok m h1 _ _ _ h2 h3 =>
    exact decode_of_it (lim := lim) hm (by rw [hd]; exact h2) hw (by omega) (by omega)
  | _ => simp at h
theorem encode_decode {s : Bytes} {lim : Lim} (h : (R7.decode s lim).2.2 = 0) : encode (R7.decode s lim).1 = (s, 0) := by
  obtain ⟨hm, _, h1, h2, h3, h4, h5, _⟩ := decode_sound h
  have hmay := Cf.may_of hm
  have := encode_of_it (h1.mono (by omega : lim.d.toNat ≤ 32)) h2 (by omega) (by rw [← h3]; omega)
  rw [← h3] at this
  exact this
/-- The reference's way. -/
theorem enc_right {l : List Atom} (h0 : l.length ≤ 4096) {a : Atom} (ha : a ∈ l) (hr : right a = false) (hw : Wf l) : encode l = ([], 9) := by
  have := encode_enc l hw
  generalize encode l = r at this
  have nor : ∀ {d o}, ¬ ItF d l o := fun h => by rw [h.all a ha] at hr; cases hr
  have nos : ∀ {r}, shape true l [] 0 ≠ some r := fun h => by rw [shape_right l _ _ _ _ h a ha] at hr; cases hr
  cases this with
  | many h => omega
  | form => rfl
  | deep _ _ h => exact absurd h nos
  | long _ _ _ h => exact absurd h nos
  | out => rfl
  | ok _ _ h => exact absurd h nos
theorem enc_behind {l : List Atom} (h0 : l.length ≤ 4096) (hw : Wf l) (h : ∀ m, behind l [] 0 0 ≠ (some l.length, m)) : encode l = ([], 9) := by
  have := encode_enc l hw
  generalize encode l = r at this
  have nos : ∀ {m}, l ≠ [] → shape true l [] 0 ≠ some (m, []) := fun {m} hn hs => h m (by have := behind_of_shape l true [] 0 m 0 hs hn h0 (Nat.le_refl _); rwa [Nat.zero_add] at this)
  cases this with
  | many h => omega
  | form => rfl
  | deep _ _ h hn => exact absurd h (nos hn)
  | long _ _ _ h hn => exact absurd h (nos hn)
  | out => rfl
  | ok _ _ h hn => exact absurd h (nos hn)
theorem enc_on {l : List Atom} (h0 : l.length ≤ 4096) (hw : Wf l) (hr : ∀ a ∈ l, right a = true) {m : Nat} (h : behind l [] 0 0 = (some l.length, m)) :
    (32 < m → encode l = ([], 10)) ∧ (m ≤ 32 → ∃ o, ItF 32 l o ∧ (262144 < (encB l).length → encode l = ([], 10)) ∧ ((encB l).length ≤ 262144 → encode l = if o then ([], 9) else (encB l, 0))) := by
  have hn : l ≠ [] := by rintro rfl; unfold behind at h; simp at h
  have hs := shape_of_behind l true [] 0 m 0 (by rw [Nat.zero_add]; exact h) hr (.inl rfl) (Nat.le_refl _)
  unfold encode
  rw [if_neg (by omega), hs]
  simp only
  rw [if_neg (by simpa using hn)]
  refine ⟨fun h32 => by rw [if_pos h32], fun h32 => ?_⟩
  rw [if_neg (by omega)]
  obtain ⟨o, ho⟩ := it_of_shape (D := 32) hn hs h32 (by omega)
  refine ⟨o, ho, fun hb => by rw [if_pos hb], fun hb => ?_⟩
  rw [if_neg (by omega)]
  have hd := decode_of_it (lim := encLim) encLim_may ho hw (by show (l.length : Int) ≤ 4096; omega) (by show ((encB l).length : Int) ≤ 262144; omega)
  cases o with
  | true =>
    rw [if_pos rfl] at hd
    rw [hd, if_neg (by omega)]
    rfl
  | false =>
    have hd' : R7.decode (encB l) encLim = (l, 0, 0) := hd
    rw [hd', if_pos rfl]
    rfl
end Go.Px.E7
