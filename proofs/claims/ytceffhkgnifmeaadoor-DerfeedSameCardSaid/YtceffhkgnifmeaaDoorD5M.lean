/-
  The program's reader of package der as plain functions on plain data. No program is named here.
-/
import Derived.Test.YtceffhkgnifmeaaDoorR5M
namespace Go.Px.D5
open R5 (inner tagE bump)
structure Fm where
  tag : UInt8
  at_ : Nat
  end_ : Nat
  no : Nat
  last : Bytes
structure Dx where
  at_ : Nat
  stack : List Fm
  out : List Node
abbrev Flt := Int × Int
def want (s : Bytes) (lim : Lim) (p : Nat) : Except Flt Nat :=
  if (p : Int) < s.length ∧ (p : Int) < lim.b then .ok (s.getD p 0).toNat else if lim.b < s.length then .error (lim.b, 10) else .error (s.length, 9)
def lenN (s : Bytes) (lim : Lim) : Nat → Nat → Bool → Nat → Except Flt Nat
  | 0, _, _, n => .ok n
  | m + 1, p, first, n => match want s lim p with
    | .error e => .error e
    | .ok c => if first && c == 0 then .error (p, 9) else lenN s lim m (p + 1) false (256 * n + c)
/-- A length and the place behind. -/
def length (s : Bytes) (lim : Lim) (p : Nat) : Except Flt (Nat × Nat) :=
  match want s lim p with
  | .error e => .error e
  | .ok b =>
    if b < 128 then .ok (b, p + 1)
    else if b = 128 ∨ 132 < b then .error (p, 9)
    else match lenN s lim (b % 128) (p + 1) true 0 with
      | .error e => .error e
      | .ok n => if n < 128 then .error ((p + b % 128 : Nat), 9) else .ok (n, p + 1 + b % 128)
/-- An element's tag and length; the place behind. -/
def head (s : Bytes) (lim : Lim) (o k p : Nat) (e : Option Nat) : Except Flt (Nat × Nat) :=
  match want s lim p with
  | .error e => .error e
  | .ok t =>
    if (o : Int) = lim.i then .error (p, 10)
    else if tagE t ≠ 0 then .error (p, tagE t)
    else if inner t && decide ((k : Int) = lim.d) then .error (p, 10)
    else match length s lim (p + 1) with
      | .error e => .error e
      | .ok (n, q) => if e.any (fun v => decide (v < q + n)) then .error (p, 9) else .ok (n, q)
def ended (s : Bytes) (x : Dx) (p : Nat) : Except Flt Dx :=
  match x.stack with
  | [] => .ok x
  | f :: rest =>
    if f.tag.toNat == 49 then
      if Op.bytesLess ((s.take x.at_).drop p) f.last then .error (p, 9)
      else .ok { x with stack := { f with last := (s.take x.at_).drop p } :: rest }
    else .ok x
def bumpTop (l : List Node) : List Fm → List Node
  | [] => l
  | f :: _ => bump l f.no
def beginD (s : Bytes) (lim : Lim) (x : Dx) : Except Flt Dx :=
  match head s lim x.out.length x.stack.length x.at_ (x.stack.head?.map (·.end_)) with
  | .error e => .error e
  | .ok (n, q) =>
    let t := s.getD x.at_ 0
    if inner t.toNat then .ok { at_ := q, stack := ⟨t, x.at_, q + n, x.out.length, []⟩ :: x.stack, out := bumpTop x.out x.stack ++ [⟨t, 0, []⟩] }
    else match (if n = 0 then .ok 0 else want s lim (q + n - 1)) with
      | .error e => .error e
      | .ok _ =>
        let b := (s.take (q + n)).drop q
        if R5.body t.toNat b then ended s { at_ := q + n, stack := x.stack, out := bumpTop x.out x.stack ++ [⟨t, -1, b⟩] } x.at_ else .error (x.at_, 9)
def loopN (s : Bytes) (lim : Lim) : Nat → Dx → Option (Except Flt Dx)
  | 0, _ => none
  | m + 1, x => match x.stack with
    | [] => some (.ok x)
    | f :: rest =>
      if x.at_ < f.end_ then (match beginD s lim x with | .error e => some (.error e) | .ok y => loopN s lim m y)
      else match ended s { x with stack := rest } f.at_ with | .error e => some (.error e) | .ok y => loopN s lim m y
def after (s : Bytes) (lim : Lim) (r : Except Flt Dx) (m : Nat) : Option (Except Flt Dx) :=
  match r with
  | .error e => some (.error e)
  | .ok y => loopN s lim m y
def run (s : Bytes) (lim : Lim) (m : Nat) : Option (Except Flt Dx) := after s lim (beginD s lim ⟨0, [], []⟩) m
end Go.Px.D5
