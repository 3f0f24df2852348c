/-
  The reference's reader of layer 15 as plain functions on plain data. No program is named here.
-/
import Derived.Test.YtahojodgmjmpnaaDoorCborM
namespace Go.Px
structure Node where
  tag : UInt8
  kids : Int
  body : Bytes
deriving DecidableEq
namespace R5
structure St where
  out : List Node
  err : Int
  place : Int
  taken : Nat
  frames : Nat
  ended : Bool
def start : St := ⟨[], 0, 0, 0, 0, false⟩
def fault (x : St) (p e : Int) : St := { x with err := e, place := p }
def take (x : St) (n : Nat) : St := { x with taken := max x.taken n }
def want (s : Bytes) (lim : Lim) (x : St) (p : Nat) : Bool × St :=
  if p < s.length ∧ (p : Int) < lim.b then (true, take x (p + 1))
  else if lim.b < s.length then (false, fault (take x lim.b.toNat) lim.b 10)
  else (false, { fault (take x s.length) s.length 9 with ended := true })
def inner (t : Nat) : Bool := t / 32 % 2 == 1
def plainT (n : Nat) : Bool := (decide (1 ≤ n) && decide (n ≤ 6)) || n == 12
def manyT (n : Nat) : Bool := n == 16 || n == 17
/-- What is wrong with a tag. -/
def tagE (t : Nat) : Int :=
  if (t / 64 != 0 && t / 64 != 2) || t % 32 == 31 || (t / 64 == 0 && !plainT (t % 32) && !manyT (t % 32)) then 11
  else if t / 64 == 0 && inner t != manyT (t % 32) then 9
  else 0
def oidN : Bytes → Bool → Bool
  | [], first => first
  | c :: r, first => if first && c == 128 then false else oidN r (decide (c.toNat < 128))
def bitsN (c : Nat) : Nat → Nat → Bool
  | 0, _ => true
  | m + 1, i => if c / 2 ^ i % 2 == 1 then false else bitsN c m (i + 1)
/-- Is the body of a right tag, without elements, right? -/
def body (t : Nat) (s : Bytes) : Bool :=
  let n := s.length
  let a := (s.getD 0 0).toNat
  let b := (s.getD 1 0).toNat
  if t == 1 then n == 1 && (a == 0 || a == 255)
  else if t == 2 then (if n < 2 then n == 1 else a * 2 + b / 128 != 0 && a * 2 + b / 128 != 511)
  else if t == 3 then (if n < 2 then n == 1 && a == 0 else if 7 < a then false else bitsN (s.getD (n - 1) 0).toNat a 0)
  else if t == 5 then n == 0
  else if t == 6 then decide (0 < n) && oidN s true
  else if t == 12 then Lib.validD s
  else true
def lenN (s : Bytes) (lim : Lim) : Nat → St → Nat → Bool → Nat → Option Nat × St
  | 0, x, _, _, n => (some n, x)
  | m + 1, x, p, first, n => match want s lim x p with
    | (false, y) => (none, y)
    | (true, y) => if first && (s.getD p 0).toNat == 0 then (none, fault y p 9) else lenN s lim m y (p + 1) false (256 * n + (s.getD p 0).toNat)
/-- A length at a place; the place behind. -/
def length (s : Bytes) (lim : Lim) (x : St) (p : Nat) : Option (Nat × Nat) × St :=
  match want s lim x p with
  | (false, y) => (none, y)
  | (true, y) =>
    let b := (s.getD p 0).toNat
    if b < 128 then (some (b, p + 1), y)
    else if b = 128 ∨ 132 < b then (none, fault y p 9)
    else match lenN s lim (b % 128) y (p + 1) true 0 with
      | (none, z) => (none, z)
      | (some n, z) => if n < 128 then (none, fault z (p + b % 128 : Nat) 9) else (some (n, p + 1 + b % 128), z)
/-- An element's tag and length; the place behind; it may go to an end. -/
def head (s : Bytes) (lim : Lim) (room : Bool) (x : St) (p : Nat) (e : Option Nat) : Option (Nat × Nat) × St :=
  match want s lim x p with
  | (false, y) => (none, y)
  | (true, y) =>
    let t := (s.getD p 0).toNat
    if lim.i ≤ y.out.length then (none, fault y p 10)
    else if tagE t ≠ 0 then (none, fault y p (tagE t))
    else if inner t && !room then (none, fault y p 10)
    else match length s lim y (p + 1) with
      | (none, z) => (none, z)
      | (some (n, q), z) => if e.any (fun v => decide (v < q + n)) then (none, fault z p 9) else (some (n, q), z)
def bump (l : List Node) (i : Nat) : List Node := l.modify i (fun a => { a with kids := a.kids + 1 })
def insideN (s : Bytes) (rc : St → Nat → Option Nat × St) (t me e : Nat) : Nat → St → Nat → Bytes → Option Nat × St
  | 0, x, at_, _ => (some at_, x)
  | m + 1, x, at_, last =>
    if at_ < e then
      match rc x at_ with
      | (none, y) => (none, y)
      | (some q, y) =>
        let key := (s.take q).drop at_
        if t == 49 && Op.bytesLess key last then (none, fault { y with out := bump y.out me } at_ 9)
        else insideN s rc t me e m { y with out := bump y.out me } q key
    else (some e, x)
def inside (s : Bytes) (rc : St → Nat → Option Nat × St) (x : St) (t : UInt8) (at_ e : Nat) : Option Nat × St :=
  match insideN s rc t.toNat x.out.length e (e - at_) { x with out := x.out ++ [⟨t, 0, []⟩], frames := x.frames + 1 } at_ [] with
  | (none, y) => (none, y)
  | (some q, y) => (some q, { y with frames := y.frames - 1 })
def leaf (s : Bytes) (lim : Lim) (x : St) (t : UInt8) (p at_ n : Nat) : Option Nat × St :=
  match (if n = 0 then (true, x) else want s lim x (at_ + n - 1)) with
  | (false, y) => (none, y)
  | (true, y) =>
    let b := (s.take (at_ + n)).drop at_
    if body t.toNat b then (some (at_ + n), { y with out := y.out ++ [⟨t, -1, b⟩] }) else (none, fault y p 9)
/-- An element at a place; so many more may be begun within one another. -/
def elem (s : Bytes) (lim : Lim) : Nat → St → Nat → Option Nat → Option Nat × St
  | 0, x, p, e => match head s lim false x p e with
    | (none, y) => (none, y)
    | (some (n, q), y) => leaf s lim y (s.getD p 0) p q n
  | d + 1, x, p, e => match head s lim true x p e with
    | (none, y) => (none, y)
    | (some (n, q), y) =>
      if inner (s.getD p 0).toNat then inside s (fun x p => elem s lim d x p (some (q + n))) y (s.getD p 0) q (q + n)
      else leaf s lim y (s.getD p 0) p q n
def read (s : Bytes) (lim : Lim) : St :=
  match elem s lim lim.d.toNat start 0 none with
  | (none, x) => x
  | (some q, x) => if q < s.length then (match want s lim x q with | (true, y) => fault y q 9 | (false, y) => y) else x
def list (x : St) : List Node := if x.err == 0 then x.out else []
def decode (s : Bytes) (lim : Lim) : List Node × Int × Int :=
  if lim.may then (list (read s lim), (read s lim).place, (read s lim).err) else ([], 0, 2)
end R5
end Go.Px
