/-
  The feed of layer 19 as plain functions on plain data. No program is named here.
-/
import Derived.Test.YtahojodgmjmpnaaDoorR6M
namespace Go.Px.J6
open R6 (digit blank numNext numEnd bump setText)

/-- A string that comes byte by byte. mode: 0 plain, 1 behind a backslash, 2 digits, 3 the backslash of the second half, 4 its u, 5 inside a sign. -/
structure Txt where
  mode : Nat
  out : Bytes
  code : Nat
  count : Nat
  high : Nat
  least : UInt8
  most : UInt8
/-- What is read at hand. -/
inductive Tok
  | none
  | word (rest : Bytes)
  | num (q : Nat) (text : Bytes)
  | str (t : Txt)
/-- What a token makes of a byte. -/
inductive Res
  | takes | ends | refuses | ahead
deriving DecidableEq
def txt0 : Txt := ⟨0, [], 0, 0, 0, 0, 0⟩
def wordTake : Bytes → UInt8 → Res × Bytes
  | [], _ => (.refuses, [])
  | b :: r, c => if c != b then (.refuses, b :: r) else if r.isEmpty then (.ends, r) else (.takes, r)
def numTake (q : Nat) (t : Bytes) (c : UInt8) : Res × Nat × Bytes :=
  match numNext q c.toNat with
  | some k => (.takes, k, t ++ [c])
  | Option.none => if numEnd q then (.ahead, q, t) else (.refuses, q, t)
/-- The first byte of a sign of several. -/
def signBegin (t : Txt) (c : Nat) : Res × Txt :=
  let n := if decide (194 ≤ c) && decide (c < 224) then 1 else if decide (224 ≤ c) && decide (c < 240) then 2 else if decide (240 ≤ c) && decide (c < 245) then 3 else 0
  if n == 0 then (.refuses, { t with mode := 5, least := 128, most := 191 })
  else (.takes, { t with mode := 5, count := n, least := (if c == 224 then 160 else if c == 240 then 144 else 128), most := (if c == 237 then 159 else if c == 244 then 143 else 191), out := t.out ++ [UInt8.ofNat c] })
def escaped (t : Txt) (c : Nat) : Res × Txt :=
  match R6.letter c with
  | some b => (.takes, { t with mode := 0, out := t.out ++ [b] })
  | Option.none => if c == 117 then (.takes, { t with mode := 2, code := 0, count := 4 }) else (.refuses, { t with mode := 0 })
def fourth (t : Txt) (n : Nat) : Res × Txt :=
  let low := decide (56320 ≤ n) && decide (n < 57344)
  if low != (t.high != 0) then (.refuses, { t with code := n, count := 0 })
  else if low then (.takes, { t with code := 65536 + (t.high - 55296) * 1024 + n - 56320, count := 0, high := 0, out := t.out ++ R6.sign8 (65536 + (t.high - 55296) * 1024 + n - 56320), mode := 0 })
  else if decide (55296 ≤ n) && decide (n < 56320) then (.takes, { t with code := n, count := 0, high := n, mode := 3 })
  else (.takes, { t with code := n, count := 0, out := t.out ++ R6.sign8 n, mode := 0 })
def digitTake (t : Txt) (c : Nat) : Res × Txt :=
  match R6.hex c with
  | Option.none => (.refuses, t)
  | some h => if 1 < t.count then (.takes, { t with code := t.code * 16 + h, count := t.count - 1 }) else fourth t (t.code * 16 + h)
def txtTake (t : Txt) (c : UInt8) : Res × Txt :=
  if t.mode == 1 then escaped t c.toNat
  else if t.mode == 2 then digitTake t c.toNat
  else if t.mode == 3 then (if c != 92 then .refuses else .takes, { t with mode := 4 })
  else if t.mode == 4 then (if c != 117 then .refuses else .takes, { t with mode := 2, code := 0, count := 4 })
  else if t.mode == 5 then
    if decide (c < t.least) || decide (t.most < c) then (.refuses, t)
    else (.takes, { t with out := t.out ++ [c], least := 128, most := 191, count := t.count - 1, mode := if t.count - 1 == 0 then 0 else 5 })
  else if c == 34 then (.ends, t)
  else if c < 32 then (.refuses, t)
  else if c == 92 then (.takes, { t with mode := 1 })
  else if 128 ≤ c then signBegin t c.toNat
  else (.takes, { t with out := t.out ++ [c] })

/-- An object or array that is begun: its number in the list, where its last name begins, its names. -/
structure Fm where
  no : Nat
  at_ : Nat
  names : List Bytes
/-- next: 0 a value, 1 a value or the end, 2 a name, 3 a name or the end, 4 a colon, 5 behind a value, 6 nothing. -/
structure Feed where
  lim : Lim
  n : Nat
  out : List Val
  stack : List Fm
  next : Nat
  now : Tok
  err : Int
  at_ : Int
def init (l : Lim) : Feed := ⟨l, 0, [], [], 0, .none, 0, 0⟩
def wrong (f : Feed) (p e : Int) : Feed := { f with err := e, at_ := p }
def object (f : Feed) : Bool := match f.stack with
  | [] => false
  | x :: _ => (f.out.getD x.no ⟨0, 0, []⟩).kind == 6
/-- A value is counted, or a limit told. -/
def one (f : Feed) (v : Val) : Bool × Feed :=
  if (f.out.length : Int) == f.lim.i then (false, wrong f (f.n - 1 : Nat) 10)
  else match f.stack with
    | [] => (true, { f with out := f.out ++ [v] })
    | x :: _ => (true, { f with out := bump f.out x.no 1 ++ [v] })
def over (f : Feed) : Feed := { f with next := if f.stack.isEmpty then 6 else 5 }
def valueOn (f : Feed) (c : Nat) (v : Val) (t : Tok) : Feed :=
  let deep := match t with | .none => true | _ => false
  if deep && (f.stack.length : Int) == f.lim.d then wrong f (f.n - 1 : Nat) 10
  else match one f v with
    | (false, g) => g
    | (true, g) => if deep then { g with now := .none, stack := ⟨f.out.length, 0, []⟩ :: g.stack, next := if c == 123 then 3 else 1 } else { g with now := t }
def value (f : Feed) (c : UInt8) : Feed :=
  if c == 123 then valueOn f 123 ⟨6, 0, []⟩ .none
  else if c == 91 then valueOn f 91 ⟨5, 0, []⟩ .none
  else if c == 34 then valueOn f 34 ⟨4, 0, []⟩ (.str txt0)
  else if c == 116 then valueOn f 116 ⟨2, 0, []⟩ (.word [114, 117, 101])
  else if c == 102 then valueOn f 102 ⟨1, 0, []⟩ (.word [97, 108, 115, 101])
  else if c == 110 then valueOn f 110 ⟨0, 0, []⟩ (.word [117, 108, 108])
  else if c == 45 || digit c.toNat then valueOn f c.toNat ⟨3, 0, []⟩ (.num (numTake 0 [] c).2.1 (numTake 0 [] c).2.2)
  else wrong f (f.n - 1 : Nat) 9
def structure_ (f : Feed) (c : UInt8) : Feed :=
  if blank c.toNat then f
  else
    let e : UInt8 := if object f then 125 else 93
    if c == e && (f.next == 1 || f.next == 3 || f.next == 5) then over { f with stack := f.stack.tail }
    else if f.next == 0 || f.next == 1 then value f c
    else if (f.next == 2 || f.next == 3) && c == 34 then
      (match one f ⟨4, 0, []⟩ with
       | (false, g) => g
       | (true, g) => match g.stack with
         | [] => g
         | x :: rest => { g with stack := { x with at_ := f.n - 1 } :: rest, now := .str txt0, next := 2 })
    else if f.next == 4 && c == 58 then { f with next := 0 }
    else if f.next == 5 && c == 44 then { f with next := if object f then 2 else 0 }
    else wrong f (f.n - 1 : Nat) 9
/-- The token at hand ended. -/
def finish (f : Feed) : Feed :=
  match f.now with
  | .num _ t => over { f with now := .none, out := setText f.out (f.out.length - 1) t }
  | .str t =>
    let g := { f with now := .none, out := setText f.out (f.out.length - 1) t.out }
    if f.next == 2 then
      match f.stack with
      | [] => g
      | x :: rest => if x.names.contains t.out then wrong g x.at_ 9 else { g with stack := { x with names := x.names ++ [t.out] } :: rest, next := 4 }
    else over g
  | _ => over { f with now := .none }
def tokTake (t : Tok) (c : UInt8) : Res × Tok := match t with
  | .none => (.refuses, .none)
  | .word r => ((wordTake r c).1, .word (wordTake r c).2)
  | .num q t => ((numTake q t c).1, .num (numTake q t c).2.1 (numTake q t c).2.2)
  | .str t => ((txtTake t c).1, .str (txtTake t c).2)
def takeC (f : Feed) (c : UInt8) : Feed :=
  let f := { f with n := f.n + 1 }
  match f.now with
  | .none => structure_ f c
  | t =>
    let g := { f with now := (tokTake t c).2 }
    match (tokTake t c).1 with
    | .takes => g
    | .ends => finish g
    | .refuses => wrong g (f.n - 1 : Nat) 9
    | .ahead => structure_ (finish g) c
def byte (f : Feed) (c : UInt8) : Feed := if (f.n : Int) == f.lim.b then wrong f f.lim.b 10 else takeC f c
def write (f : Feed) : Bytes → Feed
  | [] => f
  | c :: s => if f.err == 0 then write (byte f c) s else f
def End (f : Feed) : List Val × Int × Int :=
  if f.err != 0 then ([], f.at_, f.err)
  else match f.now with
    | .num q t => if numEnd q && f.stack.isEmpty then (setText f.out (f.out.length - 1) t, 0, 0) else ([], f.n, 9)
    | .none => if f.next == 6 then (f.out, 0, 0) else ([], f.n, 9)
    | _ => ([], f.n, 9)
theorem write_cons (f : Feed) (c : UInt8) (s : Bytes) : write f (c :: s) = if f.err == 0 then write (byte f c) s else f := rfl
theorem write_stop {f : Feed} (h : ¬ (f.err == 0) = true) : ∀ b : Bytes, write f b = f
  | [] => rfl
  | c :: s => by rw [write_cons, if_neg h]
theorem write_app : ∀ (a b : Bytes) (f : Feed), write f (a ++ b) = write (write f a) b
  | [], _, _ => rfl
  | c :: a, b, f => by
    rw [List.cons_append, write_cons, write_cons]
    by_cases h : (f.err == 0) = true
    · rw [if_pos h, if_pos h]
      exact write_app a b (byte f c)
    · rw [if_neg h, if_neg h, write_stop h]
/-- The anchor: the shortest right text. -/
theorem wakes : End (write (init ⟨32, 4096, 262144, 4096⟩) [91, 116, 114, 117, 101, 93]) = ([⟨5, 1, []⟩, ⟨2, 0, []⟩], 0, 0) := by decide +kernel
end Go.Px.J6
