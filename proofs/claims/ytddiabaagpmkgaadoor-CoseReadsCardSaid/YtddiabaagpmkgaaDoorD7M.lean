/-
  The program's reader of package cbor as plain functions on plain data. No program is named here.
-/
import Derived.Test.YtddiabaagpmkgaaDoorR7F
namespace Go.Px.D7
structure Fm where
  kind : Int
  at_ : Nat
  left : Nat
  key : Bytes
  any : Bool
structure Dx where
  at_ : Nat
  stack : List Fm
  out : List Atom
abbrev Flt := Int × Int
def want (s : Bytes) (lim : Lim) (p : Nat) : Except Flt Nat :=
  if s.length ≤ p then .error (s.length, 9) else if lim.b ≤ p then .error (lim.b, 10) else .ok (s.getD p 0).toNat
def argN (s : Bytes) (lim : Lim) : Nat → Nat → Nat → Except Flt Nat
  | 0, _, n => .ok n
  | m + 1, p, n => match want s lim p with
    | .error e => .error e
    | .ok c => argN s lim m (p + 1) (n * 256 + c)
/-- A head: its kind, its argument, the place behind. -/
def head (s : Bytes) (lim : Lim) (o p : Nat) : Except Flt (Nat × Nat × Nat) :=
  match want s lim p with
  | .error e => .error e
  | .ok c =>
    if (o : Int) = lim.i then .error (p, 10)
    else if 27 < c % 32 then .error (p, 9)
    else if c / 32 == 7 && (decide (c % 32 < 20) || decide (23 < c % 32)) then .error (p, 11)
    else if c % 32 < 24 then .ok (c / 32, c % 32, p + 1)
    else match argN s lim (2 ^ (c % 32 - 24)) (p + 1) 0 with
      | .error e => .error e
      | .ok n => if n < Cf.least (c % 32) then .error (p, 9) else .ok (c / 32, n, p + 1 + 2 ^ (c % 32 - 24))
def room (s : Bytes) (lim : Lim) (p : Nat) : Nat := min s.length lim.b.toNat - p
def take (s : Bytes) (lim : Lim) (p n : Nat) : Except Flt Bytes :=
  if room s lim p < n then (match want s lim (p + room s lim p) with | .error e => .error e | .ok _ => .ok []) else .ok ((s.take (p + n)).drop p)
def ended (s : Bytes) (x : Dx) (p : Nat) : Except Flt Dx :=
  match x.stack with
  | [] => .ok x
  | f :: rest =>
    if f.kind == 5 && f.left % 2 == 0 then
      if f.any && leB ((s.take x.at_).drop p) f.key then .error (p, 9)
      else .ok { x with stack := { f with key := (s.take x.at_).drop p, any := true, left := f.left - 1 } :: rest }
    else .ok { x with stack := { f with left := f.left - 1 } :: rest }
def push (lim : Lim) (x : Dx) (p k n q left : Nat) : Except Flt Dx :=
  if (x.stack.length : Int) = lim.d then .error (p, 10)
  else .ok { at_ := q, stack := ⟨k, p, left, [], false⟩ :: x.stack, out := x.out ++ [⟨k, n, []⟩] }
def beginD (s : Bytes) (lim : Lim) (x : Dx) : Except Flt Dx :=
  match head s lim x.out.length x.at_ with
  | .error e => .error e
  | .ok (k, n, q) =>
    if k == 2 || k == 3 then
      match take s lim q n with
      | .error e => .error e
      | .ok t => if k == 3 && !Lib.validD t then .error (x.at_, 9) else ended s { at_ := q + n, stack := x.stack, out := x.out ++ [⟨k, 0, t⟩] } x.at_
    else if k == 4 then push lim x x.at_ k n q n
    else if k == 5 then push lim x x.at_ k n q (2 * min n 1099511627776)
    else if k == 6 then push lim x x.at_ k n q 1
    else ended s { at_ := q, stack := x.stack, out := x.out ++ [⟨k, n, []⟩] } x.at_
def loopN (s : Bytes) (lim : Lim) : Nat → Dx → Option (Except Flt Dx)
  | 0, _ => none
  | m + 1, x => match x.stack with
    | [] => some (.ok x)
    | f :: rest =>
      if 0 < f.left then (match beginD s lim x with | .error e => some (.error e) | .ok y => loopN s lim m y)
      else match ended s { x with stack := rest } f.at_ with | .error e => some (.error e) | .ok y => loopN s lim m y
def after (s : Bytes) (lim : Lim) (r : Except Flt Dx) (m : Nat) : Option (Except Flt Dx) :=
  match r with
  | .error e => some (.error e)
  | .ok y => loopN s lim m y
end Go.Px.D7
