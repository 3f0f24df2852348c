/-
  The reference's reader of layer 17 as plain functions on plain data. No program is named here.
-/
import Derived.Test.YtddiabaagpmkgaaDoorCborM
namespace Go.Px.R7
structure St where
  out : List Atom
  err : Int
  place : Int
  taken : Nat
  frames : Nat
  ended : Bool
def start : St := ⟨[], 0, 0, 0, 0, false⟩
def fault (x : St) (p e : Int) : St := { x with err := e, place := p }
def take (x : St) (n : Nat) : St := { x with taken := max x.taken n }
def want (s : Bytes) (lim : Lim) (x : St) (p : Nat) : Bool × St :=
  if p < s.length ∧ (p : Int) < lim.b then (true, take x (p + 1))
  else if lim.b < s.length then (false, fault (take x lim.b.toNat) lim.b 10)
  else (false, { fault (take x s.length) s.length 9 with ended := true })

def beBytes (n : Nat) : Nat → Bytes
  | 0 => []
  | w + 1 => UInt8.ofNat (n / 256 ^ w) :: beBytes n w
def infoOf (n : Nat) : Nat := if n < 256 then 0 else if n < 65536 then 1 else if n < 4294967296 then 2 else 3
/-- A head's bytes. -/
def headB (kind n : Nat) : Bytes :=
  if n < 24 then [UInt8.ofNat (32 * kind + n)] else UInt8.ofNat (32 * kind + 24 + infoOf n) :: beBytes n (2 ^ infoOf n)

def argN (s : Bytes) (lim : Lim) : Nat → St → Nat → Nat → Option Nat × St
  | 0, x, _, n => (some n, x)
  | m + 1, x, p, n => match want s lim x p with
    | (false, y) => (none, y)
    | (true, y) => argN s lim m y (p + 1) (n * 256 + (s.getD p 0).toNat)
def head (s : Bytes) (lim : Lim) (x : St) (p : Nat) : Option (Nat × Nat × Nat) × St :=
  match want s lim x p with
  | (false, y) => (none, y)
  | (true, y) =>
    if lim.i ≤ y.out.length then (none, fault y p 10)
    else
      let k := (s.getD p 0).toNat / 32
      let a := (s.getD p 0).toNat % 32
      if 27 < a then (none, fault y p 9)
      else if k == 7 && (decide (a < 20) || decide (23 < a)) then (none, fault y p 11)
      else if a < 24 then (some (k, a, p + 1), y)
      else match argN s lim (2 ^ (a - 24)) y (p + 1) 0 with
        | (none, z) => (none, z)
        | (some n, z) => if (headB k n).length = 2 ^ (a - 24) + 1 then (some (k, n, p + 1 + 2 ^ (a - 24)), z) else (none, fault z p 9)
def wantN (s : Bytes) (lim : Lim) : Nat → St → Nat → Bool × St
  | 0, x, _ => (true, x)
  | m + 1, x, at_ => match want s lim x at_ with
    | (false, y) => (false, y)
    | (true, y) => wantN s lim m y (at_ + 1)
def itemsN (rc : St → Nat → Option Nat × St) : Nat → St → Nat → Option Nat × St
  | 0, x, at_ => (some at_, x)
  | m + 1, x, at_ => match rc x at_ with
    | (none, y) => (none, y)
    | (some q, y) => itemsN rc m y q
def pairsN (s : Bytes) (rc : St → Nat → Option Nat × St) : Nat → Option Bytes → St → Nat → Option Nat × St
  | 0, _, x, at_ => (some at_, x)
  | m + 1, last, x, at_ => match rc x at_ with
    | (none, y) => (none, y)
    | (some q, y) =>
      let key := (s.take q).drop at_
      if last.any (fun l => leB key l) then (none, fault y at_ 9)
      else match rc y q with
        | (none, z) => (none, z)
        | (some r, z) => pairsN s rc m (some key) z r
/-- Behind a head of something that holds others. -/
def holdN (s : Bytes) (rc : St → Nat → Option Nat × St) (k n : Nat) (y : St) (at_ : Nat) : Option Nat × St :=
  let y' := { y with out := y.out ++ [⟨k, n, []⟩], frames := y.frames + 1 }
  match (if k == 4 then itemsN rc n y' at_ else if k == 5 then pairsN s rc n none y' at_ else rc y' at_) with
  | (some q, z) => (some q, { z with frames := z.frames - 1 })
  | (none, z) => (none, z)
def textN (s : Bytes) (lim : Lim) (k n : Nat) (y : St) (p at_ : Nat) : Option Nat × St :=
  match wantN s lim n y at_ with
  | (false, z) => (none, z)
  | (true, z) =>
    let t := (s.take (at_ + n)).drop at_
    if k == 3 && !Lib.validD t then (none, fault z p 9) else (some (at_ + n), { z with out := z.out ++ [⟨k, 0, t⟩] })
/-- An item at a place; so many more may be begun within one another. -/
def item (s : Bytes) (lim : Lim) : Nat → St → Nat → Option Nat × St
  | 0, x, p => match head s lim x p with
    | (none, y) => (none, y)
    | (some (k, n, at_), y) =>
      if k == 2 || k == 3 then textN s lim k n y p at_
      else if k == 4 || k == 5 || k == 6 then (none, fault y p 10)
      else (some at_, { y with out := y.out ++ [⟨k, n, []⟩] })
  | d + 1, x, p => match head s lim x p with
    | (none, y) => (none, y)
    | (some (k, n, at_), y) =>
      if k == 2 || k == 3 then textN s lim k n y p at_
      else if k == 4 || k == 5 || k == 6 then holdN s (item s lim d) k n y at_
      else (some at_, { y with out := y.out ++ [⟨k, n, []⟩] })
def read (s : Bytes) (lim : Lim) : St :=
  match item s lim lim.d.toNat start 0 with
  | (none, x) => x
  | (some q, x) => if q < s.length then (match want s lim x q with | (true, y) => fault y q 9 | (false, y) => y) else x
def list (x : St) : List Atom := if x.err == 0 then x.out else []
end Go.Px.R7
