/-
  The functions of package cborfeed as plain functions on plain data (what each Go function computes). No program is named here.
-/
import GoSem.Op.String
import Derived.Lib.ValidU
namespace Go.Px
abbrev Bytes := List UInt8
structure Lim where
  d : Int
  i : Int
  b : Int
  r : Int
def Lim.may (l : Lim) : Bool := decide (1 ≤ l.d) && decide (l.d ≤ 32) && decide (1 ≤ l.i) && decide (l.i ≤ 4096) && decide (1 ≤ l.b) && decide (l.b ≤ 262144) && decide (1 ≤ l.r) && decide (l.r ≤ 4096)
structure Atom where
  kind : Int
  num : Nat
  text : Bytes
deriving DecidableEq
def leB (a b : Bytes) : Bool := Op.bytesLess a b || a == b

namespace Cf
/-- An item that holds others. -/
structure Fm where
  kind : Int
  at_ : Nat
  info : Nat
  num : Nat
  more : Nat
  left : Nat
  key : Bytes
  any : Bool
structure Feed where
  lim : Lim
  text : Bytes
  out : List Atom
  stack : List Fm
  next : Int
  kind : Int
  hat : Nat
  info : Nat
  num : Nat
  more : Nat
  err : Int
  at_ : Int

def wrong (f : Feed) (p e : Int) : Feed := { f with err := e, at_ := p }

def countedTop (x : Fm) : Fm := { x with left := x.left - 1 }
def countedKey (x : Fm) (s : Bytes) : Fm := { x with left := x.left - 1, key := s, any := true }
def isKey (x : Fm) : Bool := x.kind == 5 && x.left % 2 == 0
def counted (f : Feed) (p : Nat) : Bool × Feed :=
  match f.stack with
  | [] => (true, f)
  | x :: rest =>
    if isKey x then
      if x.any && leB (f.text.drop p) x.key then (false, wrong f p 9)
      else (true, { f with stack := countedKey x (f.text.drop p) :: rest })
    else (true, { f with stack := countedTop x :: rest })

def settleN : Nat → Feed → Feed
  | 0, f => { f with next := 3 }
  | n + 1, f =>
    match f.stack with
    | [] => { f with next := 3 }
    | x :: rest => if 0 < x.left then f else
      match counted { f with stack := rest } x.at_ with
      | (true, g) => settleN n g
      | (false, g) => g
def settle (f : Feed) : Feed := settleN f.stack.length { f with next := 0 }
def ended (f : Feed) (p : Nat) : Feed :=
  match counted f p with
  | (true, g) => settle g
  | (false, g) => g
def whole (f : Feed) : Feed :=
  let s := f.text.drop (f.text.length - f.num)
  if f.kind == 3 && !Lib.validD s then wrong f f.hat 9
  else ended { f with out := f.out ++ [⟨f.kind, 0, s⟩] } f.hat
/-- Something that holds n items begins. -/
def opens (f : Feed) (n : Nat) : Feed :=
  if (f.stack.length : Int) == f.lim.d then wrong f f.hat 10
  else settle { f with out := f.out ++ [⟨f.kind, f.num, []⟩], stack := ⟨f.kind, f.hat, f.info, f.num, f.more, n, [], false⟩ :: f.stack }
def known (f : Feed) : Feed :=
  if f.kind == 2 || f.kind == 3 then
    let g := { f with more := f.num, next := 2 }
    if f.num == 0 then whole g else g
  else if f.kind == 4 then opens f f.num
  else if f.kind == 5 then opens f (2 * min f.num 1099511627776)
  else if f.kind == 6 then opens f 1
  else ended { f with out := f.out ++ [⟨f.kind, f.num, []⟩] } f.hat
def least (info : Nat) : Nat := if info > 24 then 2 ^ (4 * 2 ^ (info - 24)) else 24
def argument (f : Feed) (c : Nat) : Feed :=
  let g := { f with num := f.num * 256 + c, more := f.more - 1 }
  if 0 < g.more then g
  else if g.num < least g.info then wrong g g.hat 9
  else known g
/-- Behind a head's first byte: its kind is k, its lowest five bits are a, it stands at p. -/
def headOn (g : Feed) (p k a : Nat) : Feed :=
  if (g.out.length : Int) == g.lim.i then wrong g p 10
  else if 27 < a then wrong g p 9
  else if k == 7 && (decide (a < 20) || decide (23 < a)) then wrong g p 11
  else if a < 24 then known { g with num := a }
  else { g with more := 2 ^ (a - 24), next := 1 }
def head (f : Feed) (c : Nat) : Feed :=
  headOn { f with kind := (c / 32 : Nat), hat := f.text.length - 1, info := c % 32, num := 0, more := 0 } (f.text.length - 1) (c / 32) (c % 32)
/-- One byte. -/
def byte (f : Feed) (c : UInt8) : Feed :=
  if (f.text.length : Int) == f.lim.b then wrong f f.lim.b 10
  else
    let f := { f with text := f.text ++ [c] }
    if f.next == 0 then head f c.toNat
    else if f.next == 1 then argument f c.toNat
    else if f.next == 2 then
      let g := { f with more := f.more - 1 }
      if g.more == 0 then whole g else g
    else wrong f (f.text.length - 1 : Nat) 9
def write (f : Feed) : Bytes → Feed
  | [] => f
  | c :: s => if f.err == 0 then write (byte f c) s else f
def init (l : Lim) : Feed := ⟨l, [], [], [], 0, 0, 0, 0, 0, 0, 0, 0⟩
def End (f : Feed) : List Atom × Int × Int :=
  if f.err != 0 then ([], f.at_, f.err)
  else if f.next != 3 then ([], f.text.length, 9)
  else (f.out, 0, 0)

/-- What holds of the items that are begun. -/
structure FOk (f : Feed) : Prop where
  each : ∀ x ∈ f.stack, x.left < 18446744073709551616 ∧ x.at_ < f.text.length
  tail : ∀ x ∈ f.stack.tail, 0 < x.left
  text : f.text.length ≤ 1000000
  stack : f.stack.length ≤ 1000

theorem counted_text (f : Feed) (p : Nat) : (counted f p).2.text = f.text := by
  unfold counted; split
  · rfl
  · split
    · split <;> rfl
    · rfl
theorem counted_len (f : Feed) (p : Nat) : (counted f p).2.stack.length = f.stack.length := by
  unfold counted; split
  · rfl
  · rename_i x rest h; split
    · split
      · rfl
      · simp [h]
    · simp [h]
theorem FOk.counted {f : Feed} (h : FOk f) (p : Nat) : FOk (counted f p).2 := by
  refine ⟨?_, ?_, by rw [counted_text]; exact h.text, by rw [counted_len]; exact h.stack⟩
  · rw [counted_text]
    have he := h.each
    unfold Cf.counted
    split
    · exact he
    · rename_i x rest hs
      rw [hs] at he
      have hx := he x (by simp)
      have hr : ∀ y ∈ rest, y.left < 18446744073709551616 ∧ y.at_ < f.text.length := fun y hy => he y (by simp [hy])
      split
      · split
        · simpa [wrong, hs] using he
        · intro y hy
          rcases List.mem_cons.1 hy with rfl | hy
          · exact ⟨by simp [countedKey]; omega, hx.2⟩
          · exact hr y hy
      · intro y hy
        rcases List.mem_cons.1 hy with rfl | hy
        · exact ⟨by simp [countedTop]; omega, hx.2⟩
        · exact hr y hy
  · have ht := h.tail
    unfold Cf.counted
    split
    · exact ht
    · rename_i x rest hs
      rw [hs] at ht
      split
      · split
        · simpa [wrong, hs] using ht
        · exact ht
      · exact ht
theorem FOk.pop {f : Feed} (h : FOk f) {x : Fm} {rest : List Fm} (hs : f.stack = x :: rest) : FOk { f with stack := rest } := by
  refine ⟨fun y hy => h.each y (by rw [hs]; simp [hy]), fun y hy => h.tail y (by rw [hs]; exact List.mem_of_mem_tail hy), h.text, ?_⟩
  have := h.stack
  rw [hs] at this
  simp at this
  show rest.length ≤ 1000
  omega
theorem FOk.push {f : Feed} (h : FOk f) (hl : ∀ x ∈ f.stack, 0 < x.left) (N : Nat) (hN : N < 18446744073709551616) (hp : f.hat < f.text.length) (hs : f.stack.length ≤ 900) :
    FOk { f with stack := ⟨f.kind, f.hat, f.info, f.num, f.more, N, [], false⟩ :: f.stack } := by
  refine ⟨fun x hx => ?_, hl, h.text, by show f.stack.length + 1 ≤ 1000; omega⟩
  rcases List.mem_cons.1 hx with rfl | hx
  · exact ⟨hN, hp⟩
  · exact h.each x hx
theorem FOk.out {f : Feed} (h : FOk f) (l : List Atom) : FOk { f with out := l } := ⟨h.each, h.tail, h.text, h.stack⟩
end Cf
end Go.Px
