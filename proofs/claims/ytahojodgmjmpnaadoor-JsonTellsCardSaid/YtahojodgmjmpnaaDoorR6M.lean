/-
  The reference's reader of layer 16 as plain functions on plain data. No program is named here.
-/
import Derived.Test.YtahojodgmjmpnaaDoorR5M
namespace Go.Px
structure Val where
  kind : Int
  kids : Int
  text : Bytes
deriving DecidableEq
namespace R6
/-- The reader of layer 15 (its list unused), and what was read. -/
structure St where
  r : R5.St
  out : List Val
def start : St := ⟨R5.start, []⟩
def fault (x : St) (p e : Int) : St := { x with r := R5.fault x.r p e }
def want (s : Bytes) (lim : Lim) (x : St) (p : Nat) : Bool × St := ((R5.want s lim x.r p).1, { x with r := (R5.want s lim x.r p).2 })
def take (x : St) (n : Nat) : St := { x with r := R5.take x.r n }
def blank (c : Nat) : Bool := c == 32 || c == 9 || c == 10 || c == 13
def at_ (s : Bytes) (p : Nat) : Nat := (s.getD p 0).toNat
/-- Over blanks: where they end. -/
def passN (s : Bytes) (lim : Lim) : Nat → St → Nat → Option Nat × St
  | 0, x, _ => (none, x)
  | m + 1, x, p => match want s lim x p with
    | (false, y) => (none, y)
    | (true, y) => if blank (at_ s p) then passN s lim m y (p + 1) else (some p, y)
def pass (s : Bytes) (lim : Lim) (x : St) (p : Nat) : Option Nat × St := passN s lim (s.length + 1 - p) x p
/-- A byte that is wanted stands there. -/
def is (s : Bytes) (lim : Lim) (x : St) (p c : Nat) : Bool × St := match want s lim x p with
  | (false, y) => (false, y)
  | (true, y) => if at_ s p == c then (true, y) else (false, fault y p 9)
def digit (c : Nat) : Bool := decide (48 ≤ c) && decide (c ≤ 57)
/-- Where a number's text is behind a byte: 0 nothing, 1 -, 2 a 0, 3 digits, 4 a point, 5 digits behind it, 6 an e, 7 its sign, 8 its digits. -/
def numNext (q c : Nat) : Option Nat :=
  if q == 0 && c == 45 then some 1
  else if decide (q ≤ 1) && c == 48 then some 2
  else if (decide (q ≤ 1) && digit c) || (q == 3 && digit c) then some 3
  else if (q == 2 || q == 3) && c == 46 then some 4
  else if (q == 4 || q == 5) && digit c then some 5
  else if (q == 2 || q == 3 || q == 5) && (c == 101 || c == 69) then some 6
  else if q == 6 && (c == 43 || c == 45) then some 7
  else if decide (6 ≤ q) && digit c then some 8
  else none
def numEnd (q : Nat) : Bool := q == 2 || q == 3 || q == 5 || q == 8
/-- How many bytes go on with a number's text, and whether they are a whole one. -/
def numN : Nat → Bytes → Nat × Bool
  | q, [] => (0, numEnd q)
  | q, c :: r => match numNext q c.toNat with
    | none => (0, numEnd q)
    | some k => ((numN k r).1 + 1, (numN k r).2)
def number (s : Bytes) : Nat × Bool := numN 0 s
def hex (c : Nat) : Option Nat :=
  if digit c then some (c - 48)
  else if decide (97 ≤ c) && decide (c ≤ 102) then some (c - 87)
  else if decide (65 ≤ c) && decide (c ≤ 70) then some (c - 55)
  else none
def fourN (s : Bytes) (lim : Lim) : Nat → St → Nat → Nat → Option Nat × St
  | 0, x, _, n => (some n, x)
  | m + 1, x, p, n => match want s lim x p with
    | (false, y) => (none, y)
    | (true, y) => match hex (at_ s p) with
      | none => (none, fault y p 9)
      | some h => fourN s lim m y (p + 1) (16 * n + h)
def four (s : Bytes) (lim : Lim) (x : St) (p : Nat) : Option Nat × St := fourN s lim 4 x p 0
/-- The UTF-8 of a number. -/
def sign8 (n : Nat) : Bytes :=
  if n < 128 then [UInt8.ofNat n]
  else if n < 2048 then [UInt8.ofNat (192 + n / 64), UInt8.ofNat (128 + n % 64)]
  else if n < 65536 then [UInt8.ofNat (224 + n / 4096), UInt8.ofNat (128 + n / 64 % 64), UInt8.ofNat (128 + n % 64)]
  else [UInt8.ofNat (240 + n / 262144), UInt8.ofNat (128 + n / 4096 % 64), UInt8.ofNat (128 + n / 64 % 64), UInt8.ofNat (128 + n % 64)]
/-- What a letter behind a backslash means. -/
def letter (c : Nat) : Option UInt8 :=
  if c == 34 then some 34 else if c == 92 then some 92 else if c == 47 then some 47 else if c == 98 then some 8 else if c == 102 then some 12
  else if c == 110 then some 10 else if c == 114 then some 13 else if c == 116 then some 9 else none
/-- The second half of a sign, behind the first. -/
def second (s : Bytes) (lim : Lim) (x : St) (p n : Nat) : Option (Bytes × Nat) × St := match is s lim x p 92 with
  | (false, u) => (none, u)
  | (true, u) => match is s lim u (p + 1) 117 with
    | (false, u) => (none, u)
    | (true, u) => match four s lim u (p + 2) with
      | (none, v) => (none, v)
      | (some m, v) => if decide (m < 56320) || decide (57343 < m) then (none, fault v (p + 5 : Nat) 9) else (some (sign8 (65536 + (n - 55296) * 1024 + m - 56320), p + 6), v)
/-- Behind a backslash: what it means, the place behind. -/
def escape (s : Bytes) (lim : Lim) (x : St) (p : Nat) : Option (Bytes × Nat) × St := match want s lim x p with
  | (false, y) => (none, y)
  | (true, y) => match letter (at_ s p) with
    | some b => (some ([b], p + 1), y)
    | none => if at_ s p != 117 then (none, fault y p 9) else match four s lim y (p + 1) with
      | (none, z) => (none, z)
      | (some n, z) =>
        if decide (56320 ≤ n) && decide (n ≤ 57343) then (none, fault z (p + 4 : Nat) 9)
        else if decide (n < 55296) || decide (56319 < n) then (some (sign8 n, p + 5), z)
        else second s lim z (p + 5) n
/-- Of how many bytes is the sign of UTF-8 that stands first; 0: none. -/
def utf (s : Bytes) : Nat :=
  let a := at_ s 0
  let b := at_ s 1
  let c := at_ s 2
  let d := at_ s 3
  let go := fun v => decide (128 ≤ v) && decide (v ≤ 191)
  if s.length = 0 then 0
  else if a < 128 then 1
  else if decide (194 ≤ a) && decide (a ≤ 223) then (if decide (2 ≤ s.length) && go b then 2 else 0)
  else if decide (224 ≤ a) && decide (a ≤ 239) then (if decide (3 ≤ s.length) && decide ((if a == 224 then 160 else 128) ≤ b) && decide (b ≤ (if a == 237 then 159 else 191)) && go c then 3 else 0)
  else if decide (240 ≤ a) && decide (a ≤ 244) then (if decide (4 ≤ s.length) && decide ((if a == 240 then 144 else 128) ≤ b) && decide (b ≤ (if a == 244 then 143 else 191)) && go c && go d then 4 else 0)
  else 0
/-- Does some sign begin with these bytes? -/
def begins (s : Bytes) : Bool :=
  let n := s.length
  let fills : List UInt8 := [128, 191, 144, 160]
  (List.range (5 - n)).any fun k => fills.any fun f => utf (s ++ List.replicate k f) == n + k
def signN (s : Bytes) (lim : Lim) (p : Nat) : Nat → St → Nat → Option Nat × St
  | 0, x, _ => (none, x)
  | m + 1, x, q => match want s lim x q with
    | (false, y) => (none, y)
    | (true, y) =>
      let b := (s.take (q + 1)).drop p
      if utf b == b.length then (some (q + 1), y)
      else if !begins b then (none, fault y q 9)
      else signN s lim p m y (q + 1)
def sign (s : Bytes) (lim : Lim) (x : St) (p : Nat) : Option Nat × St := signN s lim p (s.length + 1 - p) x p
def textN (s : Bytes) (lim : Lim) : Nat → St → Nat → Bytes → Option (Bytes × Nat) × St
  | 0, x, _, _ => (none, x)
  | m + 1, x, p, out => match want s lim x p with
    | (false, y) => (none, y)
    | (true, y) =>
      let c := at_ s p
      if c == 34 then (some (out, p + 1), y)
      else if c < 32 then (none, fault y p 9)
      else if c == 92 then (match escape s lim y (p + 1) with | (none, z) => (none, z) | (some (b, q), z) => textN s lim m z q (out ++ b))
      else if 128 ≤ c then (match sign s lim y p with | (none, z) => (none, z) | (some q, z) => textN s lim m z q (out ++ (s.take q).drop p))
      else textN s lim m y (p + 1) (out ++ [s.getD p 0])
/-- A string at a place; the place behind. -/
def text (s : Bytes) (lim : Lim) (x : St) (p : Nat) : Option (Bytes × Nat) × St := textN s lim (s.length + 1 - p) x (p + 1) []
def wordN (s : Bytes) (lim : Lim) : Bytes → St → Nat → Option Nat × St
  | [], x, p => (some p, x)
  | c :: r, x, p => match is s lim x p c.toNat with
    | (false, y) => (none, y)
    | (true, y) => wordN s lim r y (p + 1)
def setKind (l : List Val) (i : Nat) (k : Int) : List Val := l.modify i (fun a => { a with kind := k })
def setText (l : List Val) (i : Nat) (t : Bytes) : List Val := l.modify i (fun a => { a with text := t })
def bump (l : List Val) (i : Nat) (k : Int) : List Val := l.modify i (fun a => { a with kids := a.kids + k })
def firsts (c : Nat) : Bool := c == 123 || c == 91 || c == 34 || c == 45 || c == 116 || c == 102 || c == 110 || digit c
def numVal (s : Bytes) (lim : Lim) (x : St) (p me : Nat) : Option Nat × St :=
  let e := min s.length lim.b.toNat
  let d := number ((s.take e).drop p)
  let y := take x (p + d.1)
  if d.2 then (some (p + d.1), { y with out := setText y.out me ((s.take (p + d.1)).drop p) })
  else match want s lim y (p + d.1) with
    | (true, z) => (none, fault z (p + d.1 : Nat) 9)
    | (false, z) => (none, z)
def frame (x : St) (k : Int) : St := { x with r := { x.r with frames := (x.r.frames + k).toNat } }
/-- Behind a value in an array: what closes it, or what follows. -/
def arrayN (s : Bytes) (lim : Lim) (rc : St → Nat → Option Nat × St) (me : Nat) : Nat → St → Nat → Option Nat × St
  | 0, x, _ => (none, x)
  | m + 1, x, p => match rc x p with
    | (none, y) => (none, y)
    | (some q, y) => match pass s lim { y with out := bump y.out me 1 } q with
      | (none, z) => (none, z)
      | (some q, z) =>
        if at_ s q == 93 then (some (q + 1), frame z (-1))
        else if at_ s q != 44 then (none, fault z q 9)
        else match pass s lim z (q + 1) with
          | (none, u) => (none, u)
          | (some q, u) => arrayN s lim rc me m u q
def array (s : Bytes) (lim : Lim) (rc : St → Nat → Option Nat × St) (me : Nat) (x : St) (p : Nat) : Option Nat × St :=
  match pass s lim (frame x 1) p with
  | (none, y) => (none, y)
  | (some q, y) => if at_ s q == 93 then (some (q + 1), frame y (-1)) else arrayN s lim rc me (s.length + 1 - q) y q
def member (s : Bytes) (lim : Lim) (rc : St → Nat → Option Nat × St) (x : St) (p : Nat) (names : List Bytes) : Option (Bytes × Nat) × St :=
  match is s lim x p 34 with
  | (false, y) => (none, y)
  | (true, y) =>
    if lim.i ≤ y.out.length then (none, fault y p 10)
    else match text s lim y p with
      | (none, z) => (none, z)
      | (some (b, q), z) =>
        if names.contains b then (none, fault z p 9)
        else match pass s lim { z with out := z.out ++ [⟨4, 0, b⟩] } q with
          | (none, u) => (none, u)
          | (some q, u) => match is s lim u q 58 with
            | (false, v) => (none, v)
            | (true, v) => match pass s lim v (q + 1) with
              | (none, v) => (none, v)
              | (some q, v) => match rc v q with
                | (none, v) => (none, v)
                | (some q, v) => (some (b, q), v)
def objectN (s : Bytes) (lim : Lim) (rc : St → Nat → Option Nat × St) (me : Nat) : Nat → St → Nat → List Bytes → Option Nat × St
  | 0, x, _, _ => (none, x)
  | m + 1, x, p, names => match member s lim rc x p names with
    | (none, y) => (none, y)
    | (some (b, q), y) => match pass s lim { y with out := bump y.out me 2 } q with
      | (none, z) => (none, z)
      | (some q, z) =>
        if at_ s q == 125 then (some (q + 1), frame z (-1))
        else if at_ s q != 44 then (none, fault z q 9)
        else match pass s lim z (q + 1) with
          | (none, u) => (none, u)
          | (some q, u) => objectN s lim rc me m u q (names ++ [b])
def object (s : Bytes) (lim : Lim) (rc : St → Nat → Option Nat × St) (me : Nat) (x : St) (p : Nat) : Option Nat × St :=
  match pass s lim (frame x 1) p with
  | (none, y) => (none, y)
  | (some q, y) => if at_ s q == 125 then (some (q + 1), frame y (-1)) else objectN s lim rc me (s.length + 1 - q) y q []
/-- A value without what may stand in it. -/
def plainV (s : Bytes) (lim : Lim) (x : St) (c p me : Nat) : Option Nat × St :=
  if c == 34 then
    match text s lim { x with out := setKind x.out me 4 } p with
    | (none, y) => (none, y)
    | (some (b, q), y) => (some q, { y with out := setText y.out me b })
  else if c == 116 then wordN s lim [116, 114, 117, 101] { x with out := setKind x.out me 2 } p
  else if c == 102 then wordN s lim [102, 97, 108, 115, 101] { x with out := setKind x.out me 1 } p
  else if c == 110 then wordN s lim [110, 117, 108, 108] x p
  else numVal s lim { x with out := setKind x.out me 3 } p me
/-- A value at a place; so many more may be begun within one another. -/
def value (s : Bytes) (lim : Lim) : Nat → St → Nat → Option Nat × St
  | 0, x, p => match want s lim x p with
    | (false, y) => (none, y)
    | (true, y) =>
      let c := at_ s p
      if !firsts c then (none, fault y p 9)
      else if decide (lim.i ≤ y.out.length) || (c == 123 || c == 91) then (none, fault y p 10)
      else plainV s lim { y with out := y.out ++ [⟨0, 0, []⟩] } c p y.out.length
  | d + 1, x, p => match want s lim x p with
    | (false, y) => (none, y)
    | (true, y) =>
      let c := at_ s p
      if !firsts c then (none, fault y p 9)
      else if lim.i ≤ y.out.length then (none, fault y p 10)
      else
        let z := { y with out := y.out ++ [⟨0, 0, []⟩] }
        let me := y.out.length
        if c == 123 then object s lim (value s lim d) me { z with out := setKind z.out me 6 } (p + 1)
        else if c == 91 then array s lim (value s lim d) me { z with out := setKind z.out me 5 } (p + 1)
        else plainV s lim z c p me
/-- Behind the value: blanks alone. -/
def restN (s : Bytes) (lim : Lim) : Nat → St → Nat → Bool × St
  | 0, x, _ => (true, x)
  | m + 1, x, p =>
    if p < s.length then
      match want s lim x p with
      | (false, y) => (false, y)
      | (true, y) => if blank (at_ s p) then restN s lim m y (p + 1) else (false, fault y p 9)
    else (true, x)
def read (s : Bytes) (lim : Lim) : List Val × R5.St :=
  match pass s lim start 0 with
  | (none, x) => ([], x.r)
  | (some p, x) => match value s lim lim.d.toNat x p with
    | (none, y) => ([], y.r)
    | (some q, y) => match restN s lim (s.length + 1 - q) y q with
      | (false, z) => ([], z.r)
      | (true, z) => (z.out, z.r)
def decode (s : Bytes) (lim : Lim) : List Val × Int × Int :=
  if lim.may then ((read s lim).1, (read s lim).2.place, (read s lim).2.err) else ([], 0, 2)
end R6
end Go.Px
