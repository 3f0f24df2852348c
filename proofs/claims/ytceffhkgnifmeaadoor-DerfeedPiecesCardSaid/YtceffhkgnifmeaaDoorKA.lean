/-
  Several texts in one: The feed of layer 18 as plain functions on plain data. No program is named here. The feed of layer 18, byte by byte, does what the program's reader of layer 15 does (plain law; begun). No program is named here. The reference's reader of layer 15 calls a text ended exactly where its fault is a wrong form at the text's end (plain law). No program is named here. The feed of layer 18 tells what the reference's reader tells (plain law). No program is named here. The feed of layer 18 tells what the reference's reader tells (plain law). No program is named here. What holds of a feed of layer 18 between two bytes (plain). No program is named here.
-/
import Derived.Test.YtceffhkgnifmeaaDoorD5M
import Derived.Test.YtceffhkgnifmeaaDoorE5S
/-! The feed of layer 18 as plain functions on plain data. No program is named here. -/
namespace Go.Px.F5
open R5 (inner tagE bump)

/-- Elements that come piece by piece. next: what the next byte is: 0 a tag, 1 a length's first byte, 2 a further one, 3 a body's, 4 none. -/
structure Feed where
  lim : Lim
  text : Bytes
  out : List Node
  stack : List D5.Fm
  next : Nat
  tag : UInt8
  place : Nat
  number : Nat
  more : Nat
  err : Int
  at_ : Int
def wrong (f : Feed) (p e : Int) : Feed := { f with err := e, at_ := p }
def ended (f : Feed) (p : Nat) : Feed :=
  match f.stack with
  | [] => f
  | x :: rest =>
    if x.tag.toNat == 49 then
      if Op.bytesLess (f.text.drop p) x.last then wrong f p 9
      else { f with stack := { x with last := f.text.drop p } :: rest }
    else f
def settleN : Nat → Feed → Feed
  | 0, f => { f with next := 4 }
  | n + 1, f =>
    match f.stack with
    | [] => { f with next := 4 }
    | x :: rest => if f.text.length < x.end_ then f else
      let g := ended { f with stack := rest } x.at_
      if g.err == 0 then settleN n g else g
def settle (f : Feed) : Feed := settleN f.stack.length { f with next := 0 }
/-- The limits within which an element without elements is read alone. -/
def one : Lim := ⟨1, 1, 262144, 1⟩
def whole (f : Feed) : Feed :=
  let d := R5.decode (f.text.drop f.place) one
  if d.2.2 != 0 then wrong f f.place d.2.2
  else
    let g := ended { f with out := f.out ++ d.1.take 1 } f.place
    if g.err == 0 then settle g else g
/-- Behind a length: the element fits into the one that holds it. -/
def begunOn (f : Feed) (n : Nat) : Feed :=
  if inner f.tag.toNat then settle { f with stack := ⟨f.tag, f.place, f.text.length + n, f.out.length, []⟩ :: f.stack, out := f.out ++ [⟨f.tag, 0, []⟩] }
  else
    let g := { f with more := n, next := 3 }
    if n == 0 then whole g else g
def begun (f : Feed) (n : Nat) : Feed :=
  match f.stack with
  | [] => begunOn f n
  | x :: _ => if x.end_ < f.text.length + n then wrong f f.place 9 else begunOn { f with out := bump f.out x.no } n
def begins (f : Feed) (c : UInt8) : Feed :=
  let g := { f with tag := c, place := f.text.length - 1 }
  if (g.out.length : Int) == g.lim.i then wrong g g.place 10
  else if tagE c.toNat ≠ 0 then { wrong g g.place (tagE c.toNat) with next := 1 }
  else if inner c.toNat && (g.stack.length : Int) == g.lim.d then { wrong g g.place 10 with next := 1 }
  else { g with next := 1 }
def length (f : Feed) (c : Nat) : Feed :=
  if c < 128 then begun f c
  else if c = 128 ∨ 132 < c then wrong f (f.text.length - 1 : Nat) 9
  else { f with number := 0, more := c % 128, next := 2 }
def digit (f : Feed) (c : Nat) : Feed :=
  if c == 0 && f.number == 0 then wrong f (f.text.length - 1 : Nat) 9
  else
    let g := { f with number := f.number * 256 + c, more := f.more - 1 }
    if 0 < g.more then g
    else if g.number < 128 then wrong g (g.text.length - 1 : Nat) 9
    else begun g g.number
def byte (f : Feed) (c : UInt8) : Feed :=
  if (f.text.length : Int) == f.lim.b then wrong f f.lim.b 10
  else
    let f := { f with text := f.text ++ [c] }
    if f.next == 0 then begins f c
    else if f.next == 1 then length f c.toNat
    else if f.next == 2 then digit f c.toNat
    else if f.next == 3 then
      let g := { f with more := f.more - 1 }
      if g.more == 0 then whole g else g
    else wrong f (f.text.length - 1 : Nat) 9
def write (f : Feed) : Bytes → Feed
  | [] => f
  | c :: s => if f.err == 0 then write (byte f c) s else f
def init (l : Lim) : Feed := ⟨l, [], [], [], 0, 0, 0, 0, 0, 0, 0⟩
def End (f : Feed) : List Node × Int × Int :=
  if f.err != 0 then ([], f.at_, f.err)
  else if f.next != 4 then ([], f.text.length, 9)
  else (f.out, 0, 0)
theorem write_cons (f : Feed) (c : UInt8) (s : Bytes) : write f (c :: s) = if f.err == 0 then write (byte f c) s else f := rfl
theorem write_stop {f : Feed} (h : ¬ (f.err == 0) = true) : ∀ b : Bytes, write f b = f
  | [] => rfl
  | c :: s => by rw [write_cons, if_neg h]
theorem write_app : ∀ (a b : Bytes) (f : Feed), write f (a ++ b) = write (write f a) b
  | [], _, _ => rfl
  | c :: a, b, f => by
    rw [List.cons_append, write_cons, write_cons]
    by_cases h : (f.err == 0) = true
    · rw [if_pos h, if_pos h]
      exact write_app a b (byte f c)
    · rw [if_neg h, if_neg h, write_stop h]
/-- The anchor: the shortest right text. -/
theorem wakes : End (write (init ⟨32, 4096, 262144, 4096⟩) [48, 2, 5, 0]) = ([⟨48, 1, []⟩, ⟨5, -1, []⟩], 0, 0) := by decide +kernel
end Go.Px.F5

/-! The feed of layer 18, byte by byte, does what the program's reader of layer 15 does (plain law; begun). No program is named here. -/
namespace Go.Px.F5
open R5 (inner tagE bump)

/-- The feed stands at a place of a text; nothing is wrong so far. -/
structure At (s : Bytes) (lim : Lim) (p : Nat) (f : Feed) : Prop where
  fl : f.lim = lim
  text : f.text = s.take p
  ps : p ≤ s.length
  pb : (p : Int) ≤ lim.b
  err : f.err = 0
variable {s : Bytes} {lim : Lim} {p : Nat} {f : Feed}
theorem At.len (h : At s lim p f) : f.text.length = p := by rw [h.text, List.length_take, Nat.min_eq_left h.ps]
/-- How it ends where the reader faults: at the text's end the feed waits. -/
def Stuck (s : Bytes) (a e : Int) (g : Feed) : Prop := (e = 9 ∧ a = s.length ∧ g.err = 0 ∧ g.next ≠ 4 ∧ g.text = s) ∨ (¬ (e = 9 ∧ a = s.length) ∧ g.err = e ∧ g.at_ = a ∧ e ≠ 0)
/-- A byte that is taken. -/
def byteOn (f : Feed) (c : UInt8) : Feed :=
  if f.next == 0 then begins f c
  else if f.next == 1 then length f c.toNat
  else if f.next == 2 then digit f c.toNat
  else if f.next == 3 then
    let g := { f with more := f.more - 1 }
    if g.more == 0 then whole g else g
  else wrong f (f.text.length - 1 : Nat) 9
theorem byte_on (h : ¬ (f.text.length : Int) = f.lim.b) (c : UInt8) : byte f c = byteOn { f with text := f.text ++ [c] } c := by
  unfold byte
  rw [if_neg (by simpa using h)]
  rfl
theorem want_no (h : At s lim p f) (hn : f.next ≠ 4) {a e : Int} (hw : D5.want s lim p = .error (a, e)) : Stuck s a e (write f (s.drop p)) := by
  have h1 := h.ps
  have h2 := h.pb
  unfold D5.want at hw
  by_cases hc : (p : Int) < s.length ∧ (p : Int) < lim.b
  · rw [if_pos hc] at hw; cases hw
  · rw [if_neg hc] at hw
    by_cases hb : lim.b < s.length
    · rw [if_pos hb] at hw
      cases hw
      have hp : (p : Int) = lim.b := by omega
      have hlt : p < s.length := by omega
      refine .inr ⟨by omega, ?_⟩
      rw [List.drop_eq_getElem_cons hlt, write_cons, if_pos (by rw [h.err]; rfl)]
      have e1 : byte f s[p] = wrong f lim.b 10 := by
        unfold byte
        rw [if_pos (by rw [h.len, h.fl, hp]; simp), h.fl]
      rw [e1, write_stop (by simp [wrong])]
      exact ⟨rfl, rfl, by decide⟩
    · rw [if_neg hb] at hw
      cases hw
      have hp : p = s.length := by omega
      subst hp
      rw [List.drop_length]
      exact .inl ⟨rfl, rfl, h.err, hn, by rw [show write f [] = f from rfl, h.text, List.take_length]⟩
theorem want_yes (h : At s lim p f) {c : Nat} (hw : D5.want s lim p = .ok c) : c = (s.getD p 0).toNat ∧ p < s.length ∧ (p : Int) < lim.b ∧ At s lim (p + 1) { f with text := s.take (p + 1) } ∧
    write f (s.drop p) = write (byteOn { f with text := s.take (p + 1) } (s.getD p 0)) (s.drop (p + 1)) := by
  unfold D5.want at hw
  by_cases hc : (p : Int) < s.length ∧ (p : Int) < lim.b
  · rw [if_pos hc] at hw
    cases hw
    have hlt : p < s.length := by omega
    have hg : s.getD p 0 = s[p] := by simp [hlt]
    refine ⟨rfl, hlt, hc.2, ⟨h.fl, rfl, hlt, by omega, h.err⟩, ?_⟩
    rw [hg, List.drop_eq_getElem_cons hlt, write_cons, if_pos (by rw [h.err]; rfl), byte_on (by rw [h.len, h.fl]; omega), h.text, List.take_append_getElem hlt]
  · rw [if_neg hc] at hw
    split at hw <;> cases hw
/-- The last digit of a length is taken. -/
def lenDone (f : Feed) (n : Nat) : Feed := if n < 128 then wrong f (f.text.length - 1 : Nat) 9 else begun f n
theorem len_sim : ∀ (m n p : Nat) (f : Feed), At s lim p f → f.next = 2 → f.number = n → f.more = m + 1 →
    match D5.lenN s lim (m + 1) p (n == 0) n with
    | .error (a, e) => Stuck s a e (write f (s.drop p))
    | .ok v => At s lim (p + m + 1) { f with text := s.take (p + m + 1) } ∧ write f (s.drop p) = write (lenDone { f with text := s.take (p + m + 1), number := v, more := 0 } v) (s.drop (p + m + 1)) := by
  intro m
  induction m with
  | zero =>
    intro n p f h hx hn hm
    unfold D5.lenN
    cases hw : D5.want s lim p with
    | error v => exact want_no h (by omega) hw
    | ok c =>
      obtain ⟨hc, hlt, _, hat, hwr⟩ := want_yes h hw
      rw [hwr, ← hn]
      have e1 : byteOn { f with text := s.take (p + 1) } (s.getD p 0) = digit { f with text := s.take (p + 1) } c := by
        unfold byteOn
        rw [hc]
        simp [hx]
      rw [e1]
      unfold digit
      simp only
      by_cases h0 : (f.number == 0 && c == 0) = true
      · rw [if_pos h0, if_pos (by rw [Bool.and_comm]; exact h0)]
        refine .inr ⟨by simp; omega, ?_⟩
        rw [write_stop (by simp [wrong])]
        exact ⟨rfl, by simp [wrong, List.length_take]; omega, by decide⟩
      · rw [if_neg h0, if_neg (by rw [Bool.and_comm]; exact h0)]
        unfold D5.lenN
        refine ⟨hat, ?_⟩
        simp only [hm]
        rw [if_neg (by omega)]
        unfold lenDone
        rw [Nat.mul_comm f.number 256]
  | succ m ih =>
    intro n p f h hx hn hm
    unfold D5.lenN
    cases hw : D5.want s lim p with
    | error v => exact want_no h (by omega) hw
    | ok c =>
      obtain ⟨hc, hlt, _, hat, hwr⟩ := want_yes h hw
      rw [hwr, ← hn]
      have e1 : byteOn { f with text := s.take (p + 1) } (s.getD p 0) = digit { f with text := s.take (p + 1) } c := by
        unfold byteOn
        rw [hc]
        simp [hx]
      rw [e1]
      unfold digit
      simp only
      by_cases h0 : (f.number == 0 && c == 0) = true
      · rw [if_pos h0, if_pos (by rw [Bool.and_comm]; exact h0)]
        refine .inr ⟨by simp; omega, ?_⟩
        rw [write_stop (by simp [wrong])]
        exact ⟨rfl, by simp [wrong, List.length_take]; omega, by decide⟩
      · rw [if_neg h0, if_neg (by rw [Bool.and_comm]; exact h0)]
        simp only [hm]
        rw [if_pos (by omega)]
        have hnz : ¬ 256 * f.number + c = 0 := by
          simp only [Bool.and_eq_true, beq_iff_eq, not_and] at h0
          omega
        have k := ih (256 * f.number + c) (p + 1) { f with text := s.take (p + 1), number := f.number * 256 + c, more := m + 1 + 1 - 1 } ⟨hat.fl, hat.text, hat.ps, hat.pb, hat.err⟩ hx (Nat.mul_comm _ _ ▸ rfl) rfl
        rw [show (256 * f.number + c == 0) = false by simpa using hnz] at k
        rw [show p + (m + 1) + 1 = p + 1 + m + 1 by omega]
        cases hl : D5.lenN s lim (m + 1) (p + 1) false (256 * f.number + c) with
        | error v =>
          rw [hl] at k
          exact k
        | ok v =>
          rw [hl] at k
          obtain ⟨k1, k2⟩ := k
          exact ⟨⟨k1.fl, rfl, k1.ps, k1.pb, k1.err⟩, k2⟩
/-- A length: the reader's and the feed's. -/
theorem length_sim (h : At s lim p f) (hx : f.next = 1) :
    match D5.length s lim p with
    | .error (a, e) => Stuck s a e (write f (s.drop p))
    | .ok (n, q) => p < q ∧ At s lim q { f with text := s.take q } ∧ ∃ nx nu mo, write f (s.drop p) = write (begun { f with text := s.take q, next := nx, number := nu, more := mo } n) (s.drop q) := by
  unfold D5.length
  cases hw : D5.want s lim p with
  | error v => exact want_no h (by omega) hw
  | ok b =>
    obtain ⟨hc, hlt, _, hat, hwr⟩ := want_yes h hw
    rw [hwr]
    have e1 : byteOn { f with text := s.take (p + 1) } (s.getD p 0) = length { f with text := s.take (p + 1) } b := by
      unfold byteOn
      rw [hc]
      simp [hx]
    rw [e1]
    unfold length
    simp only
    by_cases h1 : b < 128
    · rw [if_pos h1, if_pos h1]
      exact ⟨Nat.lt_succ_self p, hat, f.next, f.number, f.more, rfl⟩
    · rw [if_neg h1, if_neg h1]
      by_cases h2 : b = 128 ∨ 132 < b
      · rw [if_pos h2, if_pos h2]
        refine .inr ⟨by simp; omega, ?_⟩
        rw [write_stop (by simp [wrong])]
        exact ⟨rfl, by simp [wrong, List.length_take]; omega, by decide⟩
      · rw [if_neg h2, if_neg h2]
        obtain ⟨m, hm⟩ : ∃ m, b % 128 = m + 1 := ⟨b % 128 - 1, by omega⟩
        have k := len_sim (s := s) (lim := lim) m 0 (p + 1) { f with text := s.take (p + 1), number := 0, more := b % 128, next := 2 } ⟨hat.fl, hat.text, hat.ps, hat.pb, hat.err⟩ rfl rfl hm
        rw [show ((0 : Nat) == 0) = true from rfl] at k
        rw [hm] at k ⊢
        cases hl : D5.lenN s lim (m + 1) (p + 1) true 0 with
        | error v =>
          rw [hl] at k
          exact k
        | ok v =>
          rw [hl] at k
          obtain ⟨k1, k2⟩ := k
          have hq := k1.ps
          simp only at k2 ⊢
          by_cases h3 : v < 128
          · rw [if_pos h3]
            refine .inr ⟨by simp; omega, ?_⟩
            rw [k2]
            unfold lenDone
            rw [if_pos h3, write_stop (by simp [wrong])]
            exact ⟨rfl, by simp [wrong, List.length_take]; omega, by decide⟩
          · rw [if_neg h3]
            refine ⟨by omega, ?_, 2, v, 0, ?_⟩
            · rw [show p + 1 + (m + 1) = p + 1 + m + 1 by omega]
              exact ⟨k1.fl, rfl, k1.ps, k1.pb, k1.err⟩
            · rw [k2]
              unfold lenDone
              rw [if_neg h3, show p + 1 + (m + 1) = p + 1 + m + 1 by omega]
/-- A tag and a length, and whether the element fits. -/
theorem head_sim (h : At s lim p f) (h0 : f.next = 0) :
    match D5.head s lim f.out.length f.stack.length p (f.stack.head?.map (·.end_)) with
    | .error (a, e) => Stuck s a e (write f (s.drop p))
    | .ok (n, q) => p < q ∧ At s lim q { f with text := s.take q } ∧ ∃ nx nu mo, write f (s.drop p) = write (begunOn { f with text := s.take q, tag := s.getD p 0, place := p, out := D5.bumpTop f.out f.stack, next := nx, number := nu, more := mo } n) (s.drop q) := by
  unfold D5.head
  cases hw : D5.want s lim p with
  | error v => exact want_no h (by omega) hw
  | ok t =>
    obtain ⟨hc, hlt, _, hat, hwr⟩ := want_yes h hw
    rw [hwr]
    have e1 : byteOn { f with text := s.take (p + 1) } (s.getD p 0) = begins { f with text := s.take (p + 1) } (s.getD p 0) := by
      unfold byteOn
      simp [h0]
    have hpl : (s.take (p + 1)).length - 1 = p := by rw [List.length_take]; omega
    rw [e1]
    unfold begins
    simp only [hpl, h.fl, ← hc]
    by_cases h1 : (f.out.length : Int) = lim.i
    · rw [if_pos h1, if_pos (show ((f.out.length : Int) == lim.i) = true by simpa using h1), write_stop (by simp [wrong])]
      exact .inr ⟨by omega, rfl, rfl, by decide⟩
    · rw [if_neg h1, if_neg (show ¬ ((f.out.length : Int) == lim.i) = true by simpa using h1)]
      by_cases h2 : tagE t = 0
      · have h2n : ¬ tagE t ≠ 0 := fun e => e h2
        rw [if_neg h2n, if_neg h2n]
        by_cases h3 : (inner t && decide ((f.stack.length : Int) = lim.d)) = true
        · rw [if_pos h3, if_pos (show (inner t && (f.stack.length : Int) == lim.d) = true by simpa using h3), write_stop (by simp [wrong])]
          exact .inr ⟨by omega, rfl, rfl, by decide⟩
        · rw [if_neg h3, if_neg (show ¬ (inner t && (f.stack.length : Int) == lim.d) = true by simpa using h3)]
          have k := length_sim (s := s) (lim := lim) (p := p + 1) (f := { f with text := s.take (p + 1), tag := s.getD p 0, place := p, next := 1 }) ⟨hat.fl, hat.text, hat.ps, hat.pb, hat.err⟩ rfl
          rw [h.fl] at k
          cases hl : D5.length s lim (p + 1) with
          | error v =>
            rw [hl] at k
            exact k
          | ok v =>
            rw [hl] at k
            obtain ⟨k1, k2, nx, nu, mo, k3⟩ := k
            obtain ⟨n, q⟩ := v
            have hq := k2.ps
            simp only at k1 k3 hq ⊢
            have hql : (s.take q).length = q := by rw [List.length_take]; omega
            rw [k3]
            cases f.stack with
            | nil =>
              simp only [begun]
              refine ⟨by omega, ⟨rfl, rfl, k2.ps, k2.pb, h.err⟩, nx, nu, mo, ?_⟩
              rfl
            | cons x rest =>
              simp only [begun, hql]
              by_cases h4 : x.end_ < q + n
              · rw [if_pos h4, if_pos (by simpa using h4), write_stop (by simp [wrong])]
                exact .inr ⟨by omega, rfl, rfl, by decide⟩
              · rw [if_neg h4, if_neg (by simpa using h4)]
                refine ⟨by omega, ⟨rfl, rfl, k2.ps, k2.pb, h.err⟩, nx, nu, mo, ?_⟩
                rfl
      · rw [if_pos h2, if_pos h2, write_stop (by simpa [wrong] using h2)]
        exact .inr ⟨by omega, rfl, rfl, h2⟩
end Go.Px.F5

/-! The reference's reader of layer 15 calls a text ended exactly where its fault is a wrong form at the text's end (plain law). No program is named here. -/
namespace Go.Px.F5
open R5 (St inner tagE bump)

/-- How a step leaves the word 'ended'. -/
def EndOk {α : Type} (s : Bytes) (x : St) (r : Option α × St) : Prop :=
  match r with
  | (some _, y) => y.ended = x.ended
  | (none, y) => x.ended = false → y.ended = decide (y.err = 9 ∧ y.place = s.length)
variable {s : Bytes} {lim : Lim}
theorem want_end {x y : St} {p : Nat} {b : Bool} (h : R5.want s lim x p = (b, y)) :
    if b then p < s.length ∧ y.ended = x.ended else (x.ended = false → y.ended = decide (y.err = 9 ∧ y.place = s.length)) := by
  unfold R5.want at h
  split at h
  · rename_i h1
    simp only [Prod.mk.injEq] at h
    obtain ⟨rfl, rfl⟩ := h
    exact ⟨h1.1, rfl⟩
  · split at h
    · rename_i h2
      simp only [Prod.mk.injEq] at h
      obtain ⟨rfl, rfl⟩ := h
      intro hx
      simp [R5.fault, R5.take, hx]
    · simp only [Prod.mk.injEq] at h
      obtain ⟨rfl, rfl⟩ := h
      intro hx
      simp [R5.fault]
theorem want_end1 {x y : St} {p : Nat} (h : R5.want s lim x p = (true, y)) : p < s.length ∧ y.ended = x.ended := by simpa using want_end h
theorem want_end0 {x y : St} {p : Nat} (h : R5.want s lim x p = (false, y)) : x.ended = false → y.ended = decide (y.err = 9 ∧ y.place = s.length) := by simpa using want_end h
theorem fault_end {z : St} {p e : Int} (hp : ¬ (e = 9 ∧ p = s.length)) (hz : z.ended = false) : (R5.fault z p e).ended = decide ((R5.fault z p e).err = 9 ∧ (R5.fault z p e).place = s.length) := by
  show z.ended = decide (e = 9 ∧ p = s.length)
  rw [hz, decide_eq_false hp]
theorem lenN_end : ∀ (m : Nat) (x y : St) (p : Nat) (first : Bool) (a : Nat) (o : Option Nat), R5.lenN s lim m x p first a = (o, y) → EndOk s x (o, y) ∧ (o.isSome = true → m = 0 ∨ p + m ≤ s.length)
  | 0, x, y, p, first, a, o, h => by
    unfold R5.lenN at h
    simp only [Prod.mk.injEq] at h
    obtain ⟨rfl, rfl⟩ := h
    exact ⟨rfl, fun _ => .inl rfl⟩
  | m + 1, x, y, p, first, a, o, h => by
    unfold R5.lenN at h
    cases hw : R5.want s lim x p with
    | mk b z =>
      rw [hw] at h
      cases b with
      | false =>
        simp only [Prod.mk.injEq] at h
        obtain ⟨rfl, rfl⟩ := h
        exact ⟨want_end0 hw, fun h => by cases h⟩
      | true =>
        obtain ⟨w1, w2⟩ := want_end1 hw
        simp only at h
        split at h
        · simp only [Prod.mk.injEq] at h
          obtain ⟨rfl, rfl⟩ := h
          exact ⟨fun hx => fault_end (by omega) (w2.trans hx), fun h => by cases h⟩
        · obtain ⟨k1, k2⟩ := lenN_end m _ y _ _ _ o h
          refine ⟨?_, fun ho => by have := k2 ho; omega⟩
          cases o with
          | none => exact fun hx => k1 (w2.trans hx)
          | some v => exact Eq.trans k1 w2
theorem length_end {x : St} {p : Nat} : EndOk s x (R5.length s lim x p) := by
  unfold R5.length
  cases hw : R5.want s lim x p with
  | mk b z =>
    cases b with
    | false => exact want_end0 hw
    | true =>
      obtain ⟨w1, w2⟩ := want_end1 hw
      simp only
      split
      · exact w2
      · split
        · exact fun hx => fault_end (by omega) (w2.trans hx)
        · rename_i hn1 hn2
          cases hl : R5.lenN s lim ((s.getD p 0).toNat % 128) z (p + 1) true 0 with
          | mk o u =>
            obtain ⟨k1, k2⟩ := lenN_end _ _ _ _ _ _ _ hl
            cases o with
            | none => exact fun hx => k1 (w2.trans hx)
            | some v =>
              simp only
              have k3 := k2 rfl
              split
              · refine fun hx => fault_end ?_ (Eq.trans k1 (w2.trans hx))
                have := (s.getD p 0).toNat_lt
                omega
              · exact Eq.trans k1 w2
theorem head_end {room : Bool} {x : St} {p : Nat} {e : Option Nat} : EndOk s x (R5.head s lim room x p e) ∧ ((R5.head s lim room x p e).1.isSome = true → p < s.length) := by
  unfold R5.head
  cases hw : R5.want s lim x p with
  | mk b z =>
    cases b with
    | false => exact ⟨want_end0 hw, fun h => by cases h⟩
    | true =>
      obtain ⟨w1, w2⟩ := want_end1 hw
      simp only
      split
      · exact ⟨fun hx => fault_end (by omega) (w2.trans hx), fun _ => w1⟩
      · split
        · exact ⟨fun hx => fault_end (by omega) (w2.trans hx), fun _ => w1⟩
        · split
          · exact ⟨fun hx => fault_end (by omega) (w2.trans hx), fun _ => w1⟩
          · have k := length_end (s := s) (lim := lim) (x := z) (p := p + 1)
            cases hl : R5.length s lim z (p + 1) with
            | mk o u =>
              rw [hl] at k
              cases o with
              | none => exact ⟨fun hx => k (w2.trans hx), fun _ => w1⟩
              | some v =>
                obtain ⟨n', q'⟩ := v
                simp only
                split
                · exact ⟨fun hx => fault_end (by omega) (Eq.trans k (w2.trans hx)), fun _ => w1⟩
                · exact ⟨Eq.trans k w2, fun _ => w1⟩
theorem leaf_end {x : St} {t : UInt8} {p q n : Nat} (hp : p < s.length) : EndOk s x (R5.leaf s lim x t p q n) := by
  unfold R5.leaf
  cases hw : (if n = 0 then (true, x) else R5.want s lim x (q + n - 1)) with
  | mk b u =>
    have hu : (b = true → u.ended = x.ended) ∧ (b = false → x.ended = false → u.ended = decide (u.err = 9 ∧ u.place = s.length)) := by
      split at hw
      · simp only [Prod.mk.injEq] at hw
        obtain ⟨rfl, rfl⟩ := hw
        exact ⟨fun _ => rfl, fun h => by cases h⟩
      · cases b with
        | false => exact ⟨(fun h => by cases h), fun _ => want_end0 hw⟩
        | true => exact ⟨fun _ => (want_end1 hw).2, fun h => by cases h⟩
    cases b with
    | false => exact hu.2 rfl
    | true =>
      simp only
      split
      · exact hu.1 rfl
      · exact fun hx => fault_end (by omega) ((hu.1 rfl).trans hx)
theorem inside_end {rc : St → Nat → Option Nat × St} (hR : ∀ x p, EndOk s x (rc x p) ∧ ((rc x p).1.isSome = true → p < s.length)) (tg me e : Nat) :
    ∀ (m : Nat) (x : St) (p : Nat) (last : Bytes), EndOk s x (R5.insideN s rc tg me e m x p last)
  | 0, x, p, last => by unfold R5.insideN; exact rfl
  | m + 1, x, p, last => by
    unfold R5.insideN
    split
    · have hr := hR x p
      cases hc : rc x p with
      | mk o z =>
        rw [hc] at hr
        cases o with
        | none => exact hr.1
        | some q =>
          have h1 : z.ended = x.ended := hr.1
          have h2 := hr.2 rfl
          simp only
          split
          · exact fun hx => fault_end (z := { z with out := bump z.out me }) (by omega) (h1.trans hx)
          · have k := inside_end hR tg me e m { z with out := bump z.out me } q ((s.take q).drop p)
            cases hk : R5.insideN s rc tg me e m { z with out := bump z.out me } q ((s.take q).drop p) with
            | mk o2 u =>
              rw [hk] at k
              cases o2 with
              | none => exact fun hx => k (h1.trans hx)
              | some r => exact Eq.trans k h1
    · exact rfl
theorem elem_end : ∀ (d : Nat) (x : St) (p : Nat) (e : Option Nat), EndOk s x (R5.elem s lim d x p e) ∧ ((R5.elem s lim d x p e).1.isSome = true → p < s.length) := by
  intro d
  induction d with
  | zero =>
    intro x p e
    unfold R5.elem
    have hh := head_end (s := s) (lim := lim) (room := false) (x := x) (p := p) (e := e)
    cases hr : R5.head s lim false x p e with
    | mk o z =>
      rw [hr] at hh
      cases o with
      | none => exact ⟨hh.1, fun h => by cases h⟩
      | some t =>
        obtain ⟨n, q⟩ := t
        have h1 : z.ended = x.ended := hh.1
        have h2 := hh.2 rfl
        simp only
        have k := leaf_end (s := s) (lim := lim) (x := z) (t := s.getD p 0) (q := q) (n := n) h2
        refine ⟨?_, fun _ => h2⟩
        cases hk : R5.leaf s lim z (s.getD p 0) p q n with
        | mk o2 u =>
          rw [hk] at k
          cases o2 with
          | none => exact fun hx => k (h1.trans hx)
          | some r => exact Eq.trans k h1
  | succ d ih =>
    intro x p e
    unfold R5.elem
    have hh := head_end (s := s) (lim := lim) (room := true) (x := x) (p := p) (e := e)
    cases hr : R5.head s lim true x p e with
    | mk o z =>
      rw [hr] at hh
      cases o with
      | none => exact ⟨hh.1, fun h => by cases h⟩
      | some t =>
        obtain ⟨n, q⟩ := t
        have h1 : z.ended = x.ended := hh.1
        have h2 := hh.2 rfl
        simp only
        refine ⟨?_, fun _ => h2⟩
        split
        · unfold R5.inside
          have k := inside_end (s := s) (rc := fun x p => R5.elem s lim d x p (some (q + n))) (fun x p => ih x p _) (s.getD p 0).toNat z.out.length (q + n) (q + n - q) { z with out := z.out ++ [⟨s.getD p 0, 0, []⟩], frames := z.frames + 1 } q []
          cases hi : R5.insideN s (fun x p => R5.elem s lim d x p (some (q + n))) (s.getD p 0).toNat z.out.length (q + n) (q + n - q) { z with out := z.out ++ [⟨s.getD p 0, 0, []⟩], frames := z.frames + 1 } q [] with
          | mk o2 u =>
            rw [hi] at k
            cases o2 with
            | none => exact fun hx => k (h1.trans hx)
            | some r => exact Eq.trans k h1
        · have k := leaf_end (s := s) (lim := lim) (x := z) (t := s.getD p 0) (q := q) (n := n) h2
          cases hk : R5.leaf s lim z (s.getD p 0) p q n with
          | mk o2 u =>
            rw [hk] at k
            cases o2 with
            | none => exact fun hx => k (h1.trans hx)
            | some r => exact Eq.trans k h1
/-- The word 'ended' of a whole reading. -/
theorem read_end (s : Bytes) (lim : Lim) (hm : lim.may = true) : (R5.read s lim).ended = decide ((R5.read s lim).err = 9 ∧ (R5.read s lim).place = s.length) := by
  unfold R5.read
  have hh := elem_end (s := s) (lim := lim) lim.d.toNat R5.start 0 none
  cases hr : R5.elem s lim lim.d.toNat R5.start 0 none with
  | mk o y =>
    rw [hr] at hh
    cases o with
    | none => exact hh.1 rfl
    | some q =>
      have h1 : y.ended = false := hh.1
      simp only
      split
      · rename_i hq
        cases hw : R5.want s lim y q with
        | mk b z =>
          cases b with
          | false => exact want_end0 hw h1
          | true => exact fault_end (by omega) ((want_end1 hw).2.trans h1)
      · obtain ⟨l, h2⟩ := E5.elem_sound s lim lim.d.toNat R5.start y 0 q none (E5.start_ok hm) hr
        have h3 : y.err = 0 := h2.err
        rw [h1, h3]
        rfl
end Go.Px.F5

/-! The feed of layer 18 tells what the reference's reader tells (plain law). No program is named here. -/
namespace Go.Px.F5
open R5 (inner tagE bump)
variable {s : Bytes} {lim : Lim} {p : Nat} {f : Feed}
/-! An element without elements, read alone -/
theorem one_may : one.may = true := by decide
theorem cut_get {s : Bytes} {p q i : Nat} (hp : p ≤ i) (hi : i < q) : ((s.take q).drop p).getD (i - p) 0 = s.getD i 0 := by
  simp only [List.getD_eq_getElem?_getD, List.getElem?_drop, List.getElem?_take]
  rw [if_pos (by omega), show p + (i - p) = i by omega]
theorem want_cut {s : Bytes} {p q i : Nat} (hp : p ≤ i) (hi : i < q) (hq : q ≤ s.length) (hb : q ≤ 262144) : D5.want ((s.take q).drop p) one (i - p) = .ok (s.getD i 0).toNat := by
  have hl : ((s.take q).drop p).length = q - p := E5.part_len hq
  unfold D5.want
  rw [if_pos ⟨by rw [hl]; omega, by show ((i - p : Nat) : Int) < 262144; omega⟩, cut_get hp hi]
theorem want_is {s : Bytes} {lim : Lim} {i c : Nat} (h : D5.want s lim i = .ok c) : c = (s.getD i 0).toNat := by
  unfold D5.want at h
  split at h
  · cases h; rfl
  · split at h <;> cases h
theorem lenN_cut {s : Bytes} {lim : Lim} {p q : Nat} (hq : q ≤ s.length) (hb : q ≤ 262144) : ∀ (m i : Nat) (first : Bool) (n v : Nat), D5.lenN s lim m i first n = .ok v → p ≤ i → i + m ≤ q →
    D5.lenN ((s.take q).drop p) one m (i - p) first n = .ok v
  | 0, i, first, n, v, h, _, _ => h
  | m + 1, i, first, n, v, h, hp, hi => by
    unfold D5.lenN at h ⊢
    cases hw : D5.want s lim i with
    | error e => rw [hw] at h; cases h
    | ok c =>
      rw [hw] at h
      rw [want_cut hp (by omega) hq hb, ← want_is hw]
      simp only at h ⊢
      by_cases hz : (first && c == 0) = true
      · rw [if_pos hz] at h; cases h
      · rw [if_neg hz] at h ⊢
        have := lenN_cut (p := p) hq hb m (i + 1) false (256 * n + c) v h (by omega) (by omega)
        rw [show i + 1 - p = i - p + 1 by omega] at this
        exact this
theorem length_cut {s : Bytes} {lim : Lim} {p q i n j : Nat} (hq : q ≤ s.length) (hb : q ≤ 262144) (h : D5.length s lim i = .ok (n, j)) (hp : p ≤ i) (hj : j ≤ q) : i < j ∧ D5.length ((s.take q).drop p) one (i - p) = .ok (n, j - p) := by
  unfold D5.length at h ⊢
  cases hw : D5.want s lim i with
  | error e => rw [hw] at h; cases h
  | ok b =>
    rw [hw] at h
    have hc := want_is hw
    simp only at h
    by_cases h1 : b < 128
    · rw [if_pos h1] at h
      cases h
      rw [want_cut hp (by omega) hq hb, ← hc]
      simp only
      rw [if_pos h1, show i + 1 - p = i - p + 1 by omega]
      exact ⟨by omega, rfl⟩
    · rw [if_neg h1] at h
      by_cases h2 : b = 128 ∨ 132 < b
      · rw [if_pos h2] at h; cases h
      · rw [if_neg h2] at h
        cases hl : D5.lenN s lim (b % 128) (i + 1) true 0 with
        | error e => rw [hl] at h; cases h
        | ok v =>
          rw [hl] at h
          simp only at h
          by_cases h3 : v < 128
          · rw [if_pos h3] at h; cases h
          · rw [if_neg h3] at h
            cases h
            rw [want_cut hp (by omega) hq hb, ← hc]
            simp only
            have k := lenN_cut (p := p) hq hb _ _ _ _ _ hl (by omega) hj
            rw [show i + 1 - p = i - p + 1 by omega] at k
            rw [if_neg h1, if_neg h2, k]
            simp only
            rw [if_neg h3, show i + 1 + b % 128 - p = i - p + 1 + b % 128 by omega]
            exact ⟨by omega, rfl⟩
theorem head_cut {s : Bytes} {lim : Lim} {o k p n j q : Nat} {e : Option Nat} (hq : q ≤ s.length) (hb : q ≤ 262144) (h : D5.head s lim o k p e = .ok (n, j)) (hj : j ≤ q) (hin : inner (s.getD p 0).toNat = false) :
    p + 1 < j ∧ D5.head ((s.take q).drop p) one 0 0 0 none = .ok (n, j - p) := by
  unfold D5.head at h ⊢
  cases hw : D5.want s lim p with
  | error e => rw [hw] at h; cases h
  | ok t =>
    rw [hw] at h
    have hc := want_is hw
    simp only at h
    by_cases h1 : (o : Int) = lim.i
    · rw [if_pos h1] at h; cases h
    · rw [if_neg h1] at h
      by_cases h2 : tagE t ≠ 0
      · rw [if_pos h2] at h; cases h
      · rw [if_neg h2] at h
        rw [hc, hin, Bool.false_and, if_neg (by decide)] at h
        cases hl : D5.length s lim (p + 1) with
        | error e => rw [hl] at h; cases h
        | ok v =>
          obtain ⟨n', q'⟩ := v
          rw [hl] at h
          simp only at h
          split at h
          · cases h
          · cases h
            have hlt : p + 1 < j := by
              have k := (length_cut (p := p) hq hb hl (by omega) hj).1
              exact k
            obtain ⟨_, k⟩ := length_cut (p := p) hq hb hl (by omega) hj
            have kw := want_cut (s := s) (p := p) (q := q) (i := p) (Nat.le_refl p) (by omega) hq hb
            rw [Nat.sub_self] at kw
            rw [kw, ← hc]
            simp only
            rw [show p + 1 - p = 0 + 1 by omega] at k
            rw [if_neg (by decide), if_neg h2, hc, hin, Bool.false_and, if_neg (by decide), k]
            exact ⟨hlt, rfl⟩
/-- What the reference says of an element without elements alone. -/
theorem decode_leaf {s : Bytes} {lim : Lim} {o k p n j : Nat} {e : Option Nat} (hq : j + n ≤ s.length) (hb : j + n ≤ 262144) (h : D5.head s lim o k p e = .ok (n, j)) (hin : inner (s.getD p 0).toNat = false) :
    R5.decode ((s.take (j + n)).drop p) one = if R5.body (s.getD p 0).toNat ((s.take (j + n)).drop j) then ([⟨s.getD p 0, -1, (s.take (j + n)).drop j⟩], 0, 0) else ([], 0, 9) := by
  obtain ⟨hpj, hh⟩ := head_cut hq hb h (Nat.le_add_right _ _) hin
  obtain ⟨t, ht⟩ : ∃ t, t = (s.take (j + n)).drop p := ⟨_, rfl⟩
  rw [← ht] at hh ⊢
  have hl : t.length = j + n - p := by rw [ht]; exact E5.part_len hq
  have hg : t.getD 0 0 = s.getD p 0 := by
    have := cut_get (s := s) (p := p) (q := j + n) (i := p) (Nat.le_refl p) (by omega)
    rw [Nat.sub_self, ← ht] at this
    exact this
  have hbd : (t.take (j - p + n)).drop (j - p) = (s.take (j + n)).drop j := by
    rw [List.take_of_length_le (by omega), ht, List.drop_drop, show p + (j - p) = j by omega]
  have hbeg : D5.beginD t one ⟨0, [], []⟩ = if R5.body (s.getD p 0).toNat ((s.take (j + n)).drop j) then .ok ⟨j - p + n, [], [⟨s.getD p 0, -1, (s.take (j + n)).drop j⟩]⟩ else .error (0, 9) := by
    have hw : (if n = 0 then (.ok 0 : Except D5.Flt Nat) else D5.want t one (j - p + n - 1)) = .ok (if n = 0 then 0 else (s.getD (j + n - 1) 0).toNat) := by
      by_cases h0 : n = 0
      · rw [if_pos h0, if_pos h0]
      · rw [if_neg h0, if_neg h0, ht, show j - p + n - 1 = (j + n - 1) - p by omega, want_cut (by omega) (by omega) hq hb]
    unfold D5.beginD
    show (match D5.head t one 0 0 0 none with | .error e => _ | .ok (n, q) => _) = _
    rw [hh]
    simp only
    rw [hg, hin, if_neg (by decide), hw]
    simp only
    rw [hbd]
    rfl
  have hr := D5.run_ref t one one_may
  have hsnd : ∀ q y, R5.elem t one one.d.toNat R5.start 0 none = (some q, y) → y.err = 0 ∧ y.place = 0 := by
    intro q y hy
    obtain ⟨l, h2⟩ := E5.elem_sound t one one.d.toNat R5.start y 0 q none (E5.start_ok one_may) hy
    exact ⟨h2.err, h2.place⟩
  rw [E5.decode_yes one_may]
  unfold R5.read
  cases he : R5.elem t one one.d.toNat R5.start 0 none with
  | mk o2 y =>
    rw [he] at hr
    cases o2 with
    | none =>
      obtain ⟨m, hr⟩ := hr
      unfold D5.run at hr
      rw [hbeg] at hr
      by_cases hbo : R5.body (s.getD p 0).toNat ((s.take (j + n)).drop j) = true
      · rw [if_pos hbo] at hr
        cases m with
        | zero => cases hr
        | succ m => cases hr
      · rw [if_neg hbo] at hr ⊢
        simp only [D5.after, Option.some.injEq, Except.error.injEq] at hr
        unfold D5.flt at hr
        simp only [Prod.mk.injEq] at hr
        simp only
        unfold R5.list
        rw [← hr.1, ← hr.2]
        rfl
    | some q =>
      obtain ⟨_, _, m, hr⟩ := hr
      obtain ⟨y1, y2⟩ := hsnd q y he
      unfold D5.run at hr
      rw [hbeg] at hr
      by_cases hbo : R5.body (s.getD p 0).toNat ((s.take (j + n)).drop j) = true
      · rw [if_pos hbo] at hr ⊢
        cases m with
        | zero => cases hr
        | succ m =>
          simp only [D5.after, D5.loopN, Option.some.injEq, Except.ok.injEq, D5.Dx.mk.injEq, true_and] at hr
          simp only
          rw [if_neg (by rw [hl]; omega)]
          unfold R5.list
          rw [y1, y2, ← hr.2]
          rfl
      · rw [if_neg hbo] at hr
        cases hr
end Go.Px.F5

/-! The feed of layer 18 tells what the reference's reader tells (plain law). No program is named here. -/
namespace Go.Px.F5
open R5 (inner tagE bump)
variable {s : Bytes} {lim : Lim} {p : Nat} {f : Feed}
theorem want_mono {p q : Nat} {v : D5.Flt} (h : D5.want s lim p = .error v) (hq : p ≤ q) : D5.want s lim q = .error v := by
  unfold D5.want at h ⊢
  by_cases hc : (p : Int) < s.length ∧ (p : Int) < lim.b
  · rw [if_pos hc] at h; cases h
  · rw [if_neg hc] at h
    rw [if_neg (by omega)]
    exact h
theorem body_sim : ∀ (m p : Nat) (f : Feed), At s lim p f → f.next = 3 → f.more = m + 1 →
    match D5.want s lim (p + m) with
    | .error (a, e) => Stuck s a e (write f (s.drop p))
    | .ok _ => At s lim (p + m + 1) { f with text := s.take (p + m + 1) } ∧ write f (s.drop p) = write (whole { f with text := s.take (p + m + 1), more := 0 }) (s.drop (p + m + 1)) := by
  intro m
  induction m with
  | zero =>
    intro p f h hx hm
    rw [Nat.add_zero]
    cases hw : D5.want s lim p with
    | error v => exact want_no h (by omega) hw
    | ok c =>
      obtain ⟨_, hlt, _, hat, hwr⟩ := want_yes h hw
      refine ⟨hat, ?_⟩
      rw [hwr]
      unfold byteOn
      simp only [hx, hm]
      rfl
  | succ m ih =>
    intro p f h hx hm
    cases hw0 : D5.want s lim p with
    | error v =>
      rw [want_mono hw0 (Nat.le_add_right p (m + 1))]
      exact want_no h (by omega) hw0
    | ok c =>
      obtain ⟨_, hlt, _, hat, hwr⟩ := want_yes h hw0
      have e1 : byteOn { f with text := s.take (p + 1) } (s.getD p 0) = { f with text := s.take (p + 1), more := m + 1 } := by
        unfold byteOn
        simp only [hx, hm]
        rfl
      rw [hwr, e1]
      have k := ih (p + 1) { f with text := s.take (p + 1), more := m + 1 } ⟨hat.fl, hat.text, hat.ps, hat.pb, hat.err⟩ hx rfl
      rw [show p + 1 + m = p + (m + 1) by omega] at k
      cases hw : D5.want s lim (p + (m + 1)) with
      | error v =>
        rw [hw] at k
        exact k
      | ok c2 =>
        rw [hw] at k
        exact ⟨⟨k.1.fl, rfl, k.1.ps, k.1.pb, k.1.err⟩, k.2⟩
/-- An element's end: the reader's and the feed's. -/
theorem ended_sim {x : D5.Dx} (ht : f.text = s.take x.at_) (hs : f.stack = x.stack) (q : Nat) (hl : ∀ fm ∈ x.stack, fm.at_ < x.at_) :
    match D5.ended s x q with
    | .error (a, e) => a = (q : Int) ∧ e = 9 ∧ ended f q = wrong f q 9
    | .ok y => y.at_ = x.at_ ∧ y.out = x.out ∧ y.stack.length = x.stack.length ∧ (∀ fm ∈ y.stack, fm.at_ < y.at_) ∧ ended f q = { f with stack := y.stack } := by
  obtain ⟨fl, text, out, stack, next, tag, place, number, more, err, at_⟩ := f
  simp only at ht hs
  subst ht
  subst hs
  unfold D5.ended ended
  simp only
  cases hst : x.stack with
  | nil =>
    show x.at_ = x.at_ ∧ x.out = x.out ∧ x.stack.length = [].length ∧ (∀ fm ∈ x.stack, fm.at_ < x.at_) ∧ _ = _
    exact ⟨rfl, rfl, by rw [hst], hl, by rw [hst]⟩
  | cons a rest =>
    rw [hst] at hl
    simp only
    by_cases h1 : (a.tag.toNat == 49) = true
    · rw [if_pos h1, if_pos h1]
      by_cases h2 : Op.bytesLess ((s.take x.at_).drop q) a.last = true
      · rw [if_pos h2, if_pos h2]
        exact ⟨rfl, rfl, rfl⟩
      · rw [if_neg h2, if_neg h2]
        refine ⟨rfl, rfl, rfl, ?_, rfl⟩
        intro fm hf
        rcases List.mem_cons.1 hf with rfl | hf
        · exact hl a (List.mem_cons_self ..)
        · exact hl fm (List.mem_cons_of_mem _ hf)
    · rw [if_neg h1, if_neg h1]
      show x.at_ = x.at_ ∧ x.out = x.out ∧ x.stack.length = (a :: rest).length ∧ (∀ fm ∈ x.stack, fm.at_ < x.at_) ∧ _ = _
      exact ⟨rfl, rfl, by rw [hst], by rw [hst]; exact hl, by rw [hst]⟩
theorem whole_ok {nd : Node} {p : Nat} (hp : f.place = p) (hd : R5.decode (f.text.drop p) one = ([nd], 0, 0)) : whole f = if (ended { f with out := f.out ++ [nd] } p).err == 0 then settle (ended { f with out := f.out ++ [nd] } p) else ended { f with out := f.out ++ [nd] } p := by
  subst hp
  unfold whole
  rw [hd]
  rfl
theorem whole_bad (hd : R5.decode (f.text.drop f.place) one = ([], 0, 9)) : whole f = wrong f f.place 9 := by
  unfold whole
  rw [hd]
  rfl
theorem bumpTop_len (l : List Node) (st : List D5.Fm) : (D5.bumpTop l st).length = l.length := by
  cases st with
  | nil => rfl
  | cons a r => exact D5.bump_len _ _
/-- A whole element without elements. -/
theorem whole_sim {n q o k : Nat} {e : Option Nat} (hat : At s lim (q + n) f) (hb : q + n ≤ 262144) (hp : f.place = p) (hpq : p < q) (hh : D5.head s lim o k p e = .ok (n, q)) (hin : inner (s.getD p 0).toNat = false) (hl : ∀ fm ∈ f.stack, fm.at_ < p) :
    match (if R5.body (s.getD p 0).toNat ((s.take (q + n)).drop q) then D5.ended s ⟨q + n, f.stack, f.out ++ [⟨s.getD p 0, -1, (s.take (q + n)).drop q⟩]⟩ p else .error ((p : Int), 9)) with
    | .error (a, e) => Stuck s a e (write (whole f) (s.drop (q + n)))
    | .ok y => p < y.at_ ∧ (∀ fm ∈ y.stack, fm.at_ < y.at_) ∧ ∃ g, At s lim y.at_ g ∧ g.stack = y.stack ∧ g.out = y.out ∧ write (whole f) (s.drop (q + n)) = write (settle g) (s.drop y.at_) := by
  have hps := hat.ps
  have hd := decode_leaf hat.ps hb hh hin
  obtain ⟨nd, hnd⟩ : ∃ nd, nd = (⟨s.getD p 0, -1, (s.take (q + n)).drop q⟩ : Node) := ⟨_, rfl⟩
  by_cases hbo : R5.body (s.getD p 0).toNat ((s.take (q + n)).drop q) = true
  · rw [if_pos hbo, ← hnd] at hd ⊢
    rw [whole_ok hp (by rw [hat.text]; exact hd)]
    have k := ended_sim (s := s) (f := { f with out := f.out ++ [nd] }) (x := ⟨q + n, f.stack, f.out ++ [nd]⟩) hat.text rfl p (fun fm hf => by have := hl fm hf; show fm.at_ < q + n; omega)
    cases he : D5.ended s ⟨q + n, f.stack, f.out ++ [nd]⟩ p with
    | error v =>
      rw [he] at k
      obtain ⟨k1, k2, k3⟩ := k
      simp only
      rw [k3, if_neg (by simp [wrong]), write_stop (by simp [wrong])]
      exact .inr ⟨by omega, k2.symm ▸ rfl, k1.symm ▸ rfl, by rw [k2]; decide⟩
    | ok y =>
      rw [he] at k
      obtain ⟨k1, k2, k3, k4, k5⟩ := k
      simp only at k1 k2 k5
      simp only
      rw [k5, if_pos (by show (f.err == 0) = true; rw [hat.err]; rfl), k1]
      refine ⟨by omega, by rw [← k1]; exact k4, { f with out := f.out ++ [nd], stack := y.stack }, ⟨hat.fl, hat.text, hat.ps, hat.pb, hat.err⟩, rfl, k2.symm, rfl⟩
  · rw [if_neg hbo] at hd ⊢
    simp only
    rw [whole_bad (by rw [hat.text, hp]; exact hd), hp, write_stop (by simp [wrong])]
    exact .inr ⟨by omega, rfl, rfl, by decide⟩
theorem begin_sim {x : D5.Dx} (h : At s lim x.at_ f) (h0 : f.next = 0) (hs : f.stack = x.stack) (ho : f.out = x.out) (hb : lim.b ≤ 262144) (hl : ∀ fm ∈ x.stack, fm.at_ < x.at_) :
    match D5.beginD s lim x with
    | .error (a, e) => Stuck s a e (write f (s.drop x.at_))
    | .ok y => x.at_ < y.at_ ∧ (∀ fm ∈ y.stack, fm.at_ < y.at_) ∧ ∃ g, At s lim y.at_ g ∧ g.stack = y.stack ∧ g.out = y.out ∧ write f (s.drop x.at_) = write (settle g) (s.drop y.at_) := by
  have k := head_sim h h0
  rw [hs, ho] at k
  unfold D5.beginD
  cases hd : D5.head s lim x.out.length x.stack.length x.at_ (x.stack.head?.map (·.end_)) with
  | error v =>
    rw [hd] at k
    exact k
  | ok v =>
    obtain ⟨n, q⟩ := v
    rw [hd] at k
    obtain ⟨hpq, hat, nx, nu, mo, k3⟩ := k
    have hqs := hat.ps
    have hqb := hat.pb
    have hql : (s.take q).length = q := by rw [List.length_take]; omega
    simp only at k3 ⊢
    rw [k3]
    unfold begunOn
    by_cases hin : inner (s.getD x.at_ 0).toNat = true
    · rw [if_pos hin]
      simp only
      rw [if_pos hin]
      refine ⟨hpq, ?_, { f with text := s.take q, tag := s.getD x.at_ 0, place := x.at_, next := nx, number := nu, more := mo, stack := ⟨s.getD x.at_ 0, x.at_, (s.take q).length + n, (D5.bumpTop x.out x.stack).length, []⟩ :: x.stack, out := D5.bumpTop x.out x.stack ++ [⟨s.getD x.at_ 0, 0, []⟩] }, ⟨h.fl, rfl, hqs, hqb, h.err⟩, ?_, ?_, rfl⟩
      · intro fm hf
        rcases List.mem_cons.1 hf with rfl | hf
        · exact hpq
        · have := hl fm hf
          omega
      · simp only [bumpTop_len, hql]
      · rfl
    · have hin' : inner (s.getD x.at_ 0).toNat = false := by simpa using hin
      rw [if_neg hin]
      simp only
      rw [if_neg hin]
      by_cases hn : n = 0
      · subst hn
        rw [if_pos rfl, show ((0 : Nat) == 0) = true from rfl, if_pos (show true = true from rfl)]
        simp only
        have w := whole_sim (s := s) (lim := lim) (p := x.at_) (n := 0) (q := q) (f := { f with text := s.take q, tag := s.getD x.at_ 0, place := x.at_, out := D5.bumpTop x.out x.stack, stack := x.stack, next := 3, number := nu, more := 0 })
          ⟨h.fl, rfl, hqs, hqb, h.err⟩ (by omega) rfl hpq hd hin' hl
        exact w
      · rw [if_neg hn, if_neg (show ¬ (n == 0) = true by simpa using hn)]
        have b := body_sim (s := s) (lim := lim) (n - 1) q { f with text := s.take q, tag := s.getD x.at_ 0, place := x.at_, out := D5.bumpTop x.out x.stack, stack := x.stack, next := 3, number := nu, more := n } ⟨h.fl, rfl, hqs, hqb, h.err⟩ rfl (by show n = n - 1 + 1; omega)
        rw [show q + n - 1 = q + (n - 1) by omega]
        cases hw : D5.want s lim (q + (n - 1)) with
        | error v =>
          rw [hw] at b
          exact b
        | ok c =>
          rw [hw, show q + (n - 1) + 1 = q + n by omega] at b
          obtain ⟨b1, b2⟩ := b
          have hs2 := b1.ps
          have hb2 := b1.pb
          simp only
          rw [b2]
          have w := whole_sim (s := s) (lim := lim) (p := x.at_) (n := n) (q := q) (f := { f with text := s.take (q + n), tag := s.getD x.at_ 0, place := x.at_, out := D5.bumpTop x.out x.stack, stack := x.stack, next := 3, number := nu, more := 0 })
            ⟨h.fl, rfl, hs2, hb2, h.err⟩ (by omega) rfl hpq hd hin' hl
          exact w
theorem settle_wait {a : D5.Fm} {rest : List D5.Fm} (hs : f.stack = a :: rest) (hl : f.text.length < a.end_) : settle f = { f with next := 0 } := by
  obtain ⟨fl, text, out, stack, next, tag, place, number, more, err, at_⟩ := f
  simp only at hs hl
  subst hs
  exact if_pos hl
theorem settle_pop {a : D5.Fm} {rest : List D5.Fm} (hs : f.stack = a :: rest) (hl : ¬ f.text.length < a.end_) (g : Feed) (hg : ended { f with stack := rest, next := 0 } a.at_ = g) (h0 : g.next = 0) (hk : g.stack.length = rest.length) :
    settle f = if g.err == 0 then settle g else g := by
  obtain ⟨fl, text, out, stack, next, tag, place, number, more, err, at_⟩ := f
  simp only at hs hl
  subst hs
  have e1 : settle ⟨fl, text, out, a :: rest, next, tag, place, number, more, err, at_⟩ = if (ended ⟨fl, text, out, rest, 0, tag, place, number, more, err, at_⟩ a.at_).err == 0 then settleN rest.length (ended ⟨fl, text, out, rest, 0, tag, place, number, more, err, at_⟩ a.at_) else ended ⟨fl, text, out, rest, 0, tag, place, number, more, err, at_⟩ a.at_ := if_neg hl
  have e2 : ended ⟨fl, text, out, rest, 0, tag, place, number, more, err, at_⟩ a.at_ = g := hg
  have e3 : settle g = settleN rest.length g := by
    unfold settle
    rw [hk]
    congr 1
    cases g
    simp only at h0
    rw [h0]
  rw [e1, e2, e3]
theorem settle_none (hs : f.stack = []) : settle f = { f with next := 4 } := by
  unfold settle
  rw [hs]
  rfl
theorem loop_sim (hb : lim.b ≤ 262144) : ∀ (m : Nat) (x : D5.Dx) (f : Feed) (r : Except D5.Flt D5.Dx), At s lim x.at_ f → f.stack = x.stack → f.out = x.out → (∀ fm ∈ x.stack, fm.at_ < x.at_) → D5.loopN s lim m x = some r →
    match r with
    | .error (a, e) => Stuck s a e (write (settle f) (s.drop x.at_))
    | .ok y => y.stack = [] ∧ ∃ g, At s lim y.at_ g ∧ g.next = 4 ∧ g.out = y.out ∧ write (settle f) (s.drop x.at_) = write g (s.drop y.at_) := by
  intro m
  induction m with
  | zero => intro x f r _ _ _ _ h; cases h
  | succ m ih =>
    intro x f r hat hs ho hl h
    unfold D5.loopN at h
    cases hst : x.stack with
    | nil =>
      rw [hst] at h
      simp only [Option.some.injEq] at h
      subst h
      rw [hst] at hs
      exact ⟨hst, { f with next := 4 }, ⟨hat.fl, hat.text, hat.ps, hat.pb, hat.err⟩, rfl, ho, by rw [settle_none hs]⟩
    | cons a rest =>
      rw [hst] at h
      simp only at h
      rw [hst] at hs
      by_cases hlt : x.at_ < a.end_
      · rw [if_pos hlt] at h
        rw [settle_wait hs (by rw [hat.len]; exact hlt)]
        have k := begin_sim (s := s) (lim := lim) (x := x) (f := { f with next := 0 }) ⟨hat.fl, hat.text, hat.ps, hat.pb, hat.err⟩ rfl (hs.trans hst.symm) ho hb hl
        cases hd : D5.beginD s lim x with
        | error v =>
          rw [hd] at h k
          simp only [Option.some.injEq] at h
          subst h
          exact k
        | ok y =>
          rw [hd] at h k
          obtain ⟨_, k2, g, k3, k4, k5, k6⟩ := k
          have := ih y g r k3 k4 k5 k2 h
          rw [k6]
          exact this
      · rw [if_neg hlt] at h
        have hps := hat.ps
        have hal := hl a (by rw [hst]; exact List.mem_cons_self ..)
        have k := ended_sim (s := s) (f := { f with stack := rest, next := 0 }) (x := { x with stack := rest }) hat.text rfl a.at_ (fun fm hf => hl fm (by rw [hst]; exact List.mem_cons_of_mem _ hf))
        cases he : D5.ended s { x with stack := rest } a.at_ with
        | error v =>
          rw [he] at h k
          simp only [Option.some.injEq] at h
          subst h
          obtain ⟨k1, k2, k3⟩ := k
          rw [settle_pop hs (by rw [hat.len]; exact hlt) _ k3 rfl rfl, if_neg (by simp [wrong]), write_stop (by simp [wrong])]
          exact .inr ⟨by omega, k2.symm ▸ rfl, k1.symm ▸ rfl, by rw [k2]; decide⟩
        | ok y =>
          rw [he] at h k
          obtain ⟨k1, k2, k3, k4, k5⟩ := k
          simp only at k1 k2 k3
          rw [settle_pop hs (by rw [hat.len]; exact hlt) _ k5 rfl k3, if_pos (by show (f.err == 0) = true; rw [hat.err]; rfl)]
          have := ih y { f with stack := y.stack, next := 0 } r (by rw [k1]; exact ⟨hat.fl, hat.text, hat.ps, hat.pb, hat.err⟩) rfl (ho.trans k2.symm) k4 h
          rw [k1] at this
          exact this
/-- The feed against the program's reader at once. -/
theorem run_sim (hb1 : 0 ≤ lim.b) (hb : lim.b ≤ 262144) {m : Nat} {r : Except D5.Flt D5.Dx} (h : D5.run s lim m = some r) :
    match r with
    | .error (a, e) => Stuck s a e (write (init lim) s)
    | .ok y => ∃ g, At s lim y.at_ g ∧ g.next = 4 ∧ g.out = y.out ∧ write (init lim) s = write g (s.drop y.at_) := by
  unfold D5.run at h
  have k := begin_sim (s := s) (lim := lim) (x := ⟨0, [], []⟩) (f := init lim) ⟨rfl, rfl, Nat.zero_le _, hb1, rfl⟩ rfl rfl rfl hb (fun fm hf => by cases hf)
  rw [show s.drop (⟨0, [], []⟩ : D5.Dx).at_ = s from rfl] at k
  cases hd : D5.beginD s lim ⟨0, [], []⟩ with
  | error v =>
    rw [hd] at h k
    simp only [D5.after, Option.some.injEq] at h
    subst h
    exact k
  | ok y =>
    rw [hd] at h k
    obtain ⟨_, k2, g, k3, k4, k5, k6⟩ := k
    have w := loop_sim hb m y g r k3 k4 k5 k2 h
    rw [k6]
    cases r with
    | error v => exact w
    | ok z => exact w.2
def EndIs (s : Bytes) (y : R5.St) : Prop := y.ended = decide (y.err = 9 ∧ y.place = s.length)
/-- The feed tells what the reference's reader tells. -/
theorem feed_ref (s : Bytes) (lim : Lim) (hm : lim.may = true) :
    (write (init lim) s).err = (if (R5.read s lim).ended then 0 else (R5.read s lim).err) ∧ End (write (init lim) s) = (R5.list (R5.read s lim), (R5.read s lim).place, (R5.read s lim).err) := by
  have hmay := E5.may_of hm
  have hend : EndIs s (R5.read s lim) := read_end s lim hm
  have fin : ∀ (y : R5.St) (g : Feed), Stuck s y.place y.err g → EndIs s y → g.err = (if y.ended then 0 else y.err) ∧ End g = (R5.list y, y.place, y.err) := by
    intro y g hst he
    have hl : y.err ≠ 0 → R5.list y = [] := fun h => by unfold R5.list; rw [if_neg (by simpa using h)]
    unfold EndIs at he
    rcases hst with ⟨h1, h2, h3, h4, h5⟩ | ⟨h1, h2, h3, h4⟩
    · rw [he, decide_eq_true ⟨h1, h2⟩, if_pos rfl, hl (by rw [h1]; decide)]
      refine ⟨h3, ?_⟩
      unfold End
      rw [if_neg (by simp [h3]), if_pos (by simpa using h4), h5, h1, h2]
    · rw [he, decide_eq_false h1, if_neg (by decide), hl h4]
      refine ⟨h2, ?_⟩
      unfold End
      rw [if_pos (by rw [h2]; simpa using h4), h2, h3]
  have hr := D5.run_ref s lim hm
  unfold R5.read at hend ⊢
  cases he : R5.elem s lim lim.d.toNat R5.start 0 none with
  | mk o y =>
    rw [he] at hr hend
    cases o with
    | none =>
      obtain ⟨m, hr⟩ := hr
      exact fin y _ (run_sim (by omega) (by omega) hr) hend
    | some q =>
      obtain ⟨hq1, hq2, m, hr⟩ := hr
      obtain ⟨g, g1, g2, g3, g4⟩ := run_sim (by omega) (by omega) hr
      simp only at g1 g3 g4 hend ⊢
      rw [g4]
      by_cases hlt : q < s.length
      · rw [if_pos hlt] at hend ⊢
        rw [List.drop_eq_getElem_cons hlt, write_cons, if_pos (by rw [g1.err]; rfl)]
        cases hw : R5.want s lim y q with
        | mk b z =>
          rw [hw] at hend
          have hw2 := hw
          unfold R5.want at hw2
          cases b with
          | false =>
            simp only at hend ⊢
            refine fin z _ ?_ hend
            by_cases h1 : q < s.length ∧ (q : Int) < lim.b
            · rw [if_pos h1] at hw2; simp at hw2
            · rw [if_neg h1, if_pos (by omega)] at hw2
              simp only [Prod.mk.injEq, true_and] at hw2
              subst hw2
              have hqb : (q : Int) = lim.b := by omega
              have e1 : byte g s[q] = wrong g lim.b 10 := by
                unfold byte
                rw [if_pos (by rw [g1.len, g1.fl]; simpa using hqb), g1.fl]
              rw [e1, write_stop (by simp [wrong])]
              exact .inr ⟨by simp [R5.fault], rfl, rfl, by simp [R5.fault]⟩
          | true =>
            simp only at hend ⊢
            refine fin _ _ ?_ hend
            have hqb : (q : Int) < lim.b := by
              by_cases h1 : q < s.length ∧ (q : Int) < lim.b
              · exact h1.2
              · rw [if_neg h1] at hw2
                split at hw2 <;> simp at hw2
            rw [byte_on (by rw [g1.len, g1.fl]; omega)]
            unfold byteOn
            simp only [g2]
            rw [write_stop (by simp [wrong])]
            refine .inr ⟨by simp [R5.fault]; omega, rfl, ?_, by simp [R5.fault]⟩
            show (((g.text ++ [s[q]]).length - 1 : Nat) : Int) = q
            rw [List.length_append, g1.len]
            simp
      · rw [if_neg hlt] at hend ⊢
        have hqs : q = s.length := by omega
        obtain ⟨l, h2⟩ := E5.elem_sound s lim lim.d.toNat R5.start y 0 q none (E5.start_ok hm) he
        have h3 : y.err = 0 := h2.err
        have h4 : y.place = 0 := h2.place
        rw [hqs, List.drop_length]
        show g.err = _ ∧ End g = _
        unfold EndIs at hend
        rw [hend, h3, decide_eq_false (by rintro ⟨a, _⟩; cases a)]
        refine ⟨g1.err, ?_⟩
        unfold End R5.list
        rw [if_neg (by simp [g1.err]), if_neg (by simp [g2]), h3, h4, g3]
        rfl
end Go.Px.F5

/-! What holds of a feed of layer 18 between two bytes (plain). No program is named here. -/
namespace Go.Px.F5
open R5 (inner tagE bump)

/-- So many more elements and frames, and so many more Kids, may come before the text's length is reached. -/
structure OkK (k j : Nat) (f : Feed) : Prop where
  sb : f.stack.length + k ≤ f.text.length
  ob : f.out.length + k ≤ f.text.length
  tb : f.text.length ≤ 262144
  each : ∀ x ∈ f.stack, x.at_ ≤ f.text.length ∧ x.no < f.out.length ∧ x.end_ ≤ 5000000000
  kids : ∀ a ∈ f.out, -1 ≤ a.kids ∧ a.kids + j ≤ f.text.length
  pl : f.place ≤ f.text.length
variable {k j : Nat} {f : Feed}
theorem OkK.mono (h : OkK k j f) {k' j' : Nat} (hk : k' ≤ k) (hj : j' ≤ j) : OkK k' j' f :=
  ⟨by have := h.sb; omega, by have := h.ob; omega, h.tb, h.each, fun a ha => by have := h.kids a ha; omega, h.pl⟩
theorem OkK.wrong (h : OkK k j f) (p e : Int) : OkK k j (wrong f p e) := ⟨h.sb, h.ob, h.tb, h.each, h.kids, h.pl⟩
theorem OkK.tail {x : D5.Fm} {rest : List D5.Fm} (h : OkK k j f) (hs : f.stack = x :: rest) : OkK k j { f with stack := rest } :=
  ⟨by have := h.sb; rw [hs] at this; simp at this; show rest.length + k ≤ f.text.length; omega, h.ob, h.tb, fun y hy => h.each y (by rw [hs]; exact List.mem_cons_of_mem _ hy), h.kids, h.pl⟩
theorem OkK.next (h : OkK k j f) (n : Nat) : OkK k j { f with next := n } := ⟨h.sb, h.ob, h.tb, h.each, h.kids, h.pl⟩
theorem OkK.ended (h : OkK k j f) (p : Nat) : OkK k j (ended f p) := by
  unfold F5.ended
  split
  · exact h
  · rename_i x rest hs
    split
    · split
      · exact h.wrong _ _
      · refine ⟨by have := h.sb; rw [hs] at this; exact this, h.ob, h.tb, ?_, h.kids, h.pl⟩
        intro y hy
        rcases List.mem_cons.1 hy with rfl | hy
        · exact h.each x (by rw [hs]; exact List.mem_cons_self ..)
        · exact h.each y (by rw [hs]; exact List.mem_cons_of_mem _ hy)
    · exact h
theorem ended_keeps (f : Feed) (p : Nat) : (ended f p).lim = f.lim ∧ (ended f p).text = f.text ∧ (ended f p).next = f.next ∧ (ended f p).stack.length = f.stack.length := by
  unfold ended
  split
  · exact ⟨rfl, rfl, rfl, rfl⟩
  · rename_i x rest hs
    split
    · split
      · exact ⟨rfl, rfl, rfl, rfl⟩
      · exact ⟨rfl, rfl, rfl, by rw [hs]; rfl⟩
    · exact ⟨rfl, rfl, rfl, rfl⟩
theorem OkK.settleN : ∀ (n : Nat) (f : Feed), OkK k j f → OkK k j (settleN n f)
  | 0, f, h => by unfold F5.settleN; exact h.next 4
  | n + 1, f, h => by
    unfold F5.settleN
    split
    · exact h.next 4
    · rename_i x rest hs
      split
      · exact h
      · simp only
        split
        · exact OkK.settleN n _ ((h.tail hs).ended x.at_)
        · exact (h.tail hs).ended x.at_
theorem OkK.settle (h : OkK k j f) : OkK k j (settle f) := OkK.settleN _ _ (h.next 0)
theorem settleN_keeps : ∀ (n : Nat) (f : Feed), (settleN n f).lim = f.lim ∧ (settleN n f).text = f.text ∧ (f.next = 0 → (settleN n f).next = 0 ∨ (settleN n f).next = 4)
  | 0, f => ⟨rfl, rfl, fun _ => .inr rfl⟩
  | n + 1, f => by
    unfold settleN
    split
    · exact ⟨rfl, rfl, fun _ => .inr rfl⟩
    · rename_i x rest hs
      split
      · exact ⟨rfl, rfl, fun h => .inl h⟩
      · have k := ended_keeps { f with stack := rest } x.at_
        simp only
        split
        · have r := settleN_keeps n (ended { f with stack := rest } x.at_)
          exact ⟨r.1.trans k.1, r.2.1.trans k.2.1, fun h => r.2.2 (k.2.2.1.trans h)⟩
        · exact ⟨k.1, k.2.1, fun h => .inl (k.2.2.1.trans h)⟩
theorem settle_keeps (f : Feed) : (settle f).lim = f.lim ∧ (settle f).text = f.text ∧ ((settle f).next = 0 ∨ (settle f).next = 4) := by
  have r := settleN_keeps f.stack.length { f with next := 0 }
  exact ⟨r.1, r.2.1, r.2.2 rfl⟩
/-- An element that is read alone. -/
theorem one_kids {s : Bytes} (h : (R5.decode s one).2.2 = 0) : ∃ a, (R5.decode s one).1 = [a] ∧ -1 ≤ a.kids ∧ a.kids ≤ 0 := by
  obtain ⟨_, _, hel, hi, _⟩ := E5.decode_sound h
  have hall := hel.all
  have hpos := hel.pos
  obtain ⟨l, hl⟩ : ∃ l, l = (R5.decode s one).1 := ⟨_, rfl⟩
  rw [← hl] at hel hi hall hpos ⊢
  have hone : (l.length : Int) ≤ 1 := hi
  match l, hpos, hone with
  | [a], _, _ =>
    have hr := E5.right_kids (hall a (List.mem_cons_self ..))
    refine ⟨a, rfl, hr, ?_⟩
    by_cases hk : a.kids ≤ 0
    · exact hk
    · exfalso
      have hs := E5.shape_of_el hel
      obtain ⟨m, hs, _, _⟩ := hs
      have hb := E5.behind_of_shape [a] true [] 0 m 0 hs (by simp) (Nat.le_refl _)
      have hlf : E5.leaf a = false := by unfold E5.leaf; simp; omega
      obtain ⟨c, hc⟩ : ∃ c, E5.count a = c + 1 := ⟨E5.count a - 1, by unfold E5.count; omega⟩
      rw [E5.behind] at hb
      simp only [hc, E5.behind, hlf, Bool.false_eq_true, if_false] at hb
      rw [if_neg (by omega)] at hb
      simp [E5.pops, E5.dec] at hb
theorem OkK.put (h : OkK 1 j f) (a : Node) (h1 : -1 ≤ a.kids) (h2 : a.kids + j ≤ f.text.length) : OkK 0 j { f with out := f.out ++ [a] } := by
  refine ⟨by have := h.sb; show f.stack.length + 0 ≤ f.text.length; omega, by have := h.ob; show (f.out ++ [a]).length + 0 ≤ f.text.length; simp; omega, h.tb, ?_, ?_, h.pl⟩
  · intro x hx
    have := h.each x hx
    show _ ∧ x.no < (f.out ++ [a]).length ∧ _
    simp
    omega
  · intro b hb
    rcases List.mem_append.1 hb with hb | hb
    · exact h.kids b hb
    · simp only [List.mem_singleton] at hb
      subst hb
      exact ⟨h1, h2⟩
theorem OkK.whole (h : OkK 1 0 f) : OkK 0 0 (whole f) := by
  unfold F5.whole
  by_cases hd : (R5.decode (f.text.drop f.place) one).2.2 = 0
  · obtain ⟨a, ha, h1, h2⟩ := one_kids hd
    simp only [hd, ha]
    have hp : OkK 0 0 { f with out := f.out ++ [a] } := h.put a h1 (by omega)
    have he := hp.ended f.place
    show OkK 0 0 (if (F5.ended { f with out := f.out ++ [a] } f.place).err == 0 then F5.settle (F5.ended { f with out := f.out ++ [a] } f.place) else F5.ended { f with out := f.out ++ [a] } f.place)
    split
    · exact he.settle
    · exact he
  · simp only
    rw [if_pos (by simpa using hd)]
    exact (h.mono (Nat.zero_le _) (Nat.zero_le _)).wrong _ _
/-- What is so behind a whole element, or behind what stops the feed. -/
def Rest (f g : Feed) : Prop := g.lim = f.lim ∧ g.text = f.text ∧ (g.err = 0 → g.next = 0 ∨ g.next = 4)
theorem whole_rest (f : Feed) : Rest f (whole f) := by
  unfold whole
  simp only
  split
  · rename_i h
    exact ⟨rfl, rfl, fun he => by have he' : (R5.decode (f.text.drop f.place) one).2.2 = 0 := he; rw [he'] at h; exact absurd h (by decide)⟩
  · obtain ⟨l, hl⟩ : ∃ l, l = f.out ++ (R5.decode (f.text.drop f.place) one).1.take 1 := ⟨_, rfl⟩
    rw [← hl]
    have k := ended_keeps { f with out := l } f.place
    split
    · have r := settle_keeps (ended { f with out := l } f.place)
      exact ⟨r.1.trans k.1, r.2.1.trans k.2.1, fun _ => r.2.2⟩
    · rename_i h
      exact ⟨k.1, k.2.1, fun he => absurd (by rw [he]; rfl) h⟩
theorem OkK.begunOn (h : OkK 1 0 f) (n : Nat) (hn : n ≤ 4294967296) : OkK 0 0 (begunOn f n) := by
  unfold F5.begunOn
  split
  · refine OkK.settle ?_
    have hp := h.put ⟨f.tag, 0, []⟩ (by simp) (by simp)
    have h1 := h.sb
    have h2 := h.tb
    have h3 := h.pl
    refine ⟨by simp; omega, hp.ob, hp.tb, ?_, hp.kids, hp.pl⟩
    intro x hx
    rcases List.mem_cons.1 hx with rfl | hx
    · refine ⟨h3, by simp, ?_⟩
      show f.text.length + n ≤ _
      omega
    · exact hp.each x hx
  · simp only
    have hg : OkK 1 0 { f with more := n, next := 3 } := ⟨h.sb, h.ob, h.tb, h.each, h.kids, h.pl⟩
    split
    · exact hg.whole
    · exact hg.mono (Nat.zero_le _) (Nat.le_refl _)
/-- What is so behind a byte of a head. -/
def On (f g : Feed) : Prop := g.lim = f.lim ∧ g.text = f.text ∧ (g.err = 0 → g.next = 0 ∨ g.next = 1 ∨ (g.next = 2 ∧ 1 ≤ g.more ∧ g.more ≤ 4 ∧ g.number < 256 ^ (4 - g.more)) ∨ (g.next = 3 ∧ 1 ≤ g.more ∧ g.more ≤ 4294967296) ∨ g.next = 4)
theorem Rest.on {f g : Feed} (h : Rest f g) : On f g := ⟨h.1, h.2.1, fun he => by rcases h.2.2 he with x | x; exact .inl x; exact .inr (.inr (.inr (.inr x)))⟩
theorem On.trans {f g h : Feed} (a : g.lim = f.lim) (b : g.text = f.text) (k : On g h) : On f h := ⟨k.1.trans a, k.2.1.trans b, k.2.2⟩
theorem begunOn_on (f : Feed) (n : Nat) (hn : n ≤ 4294967296) : On f (begunOn f n) := by
  unfold begunOn
  split
  · have r := settle_keeps { f with stack := ⟨f.tag, f.place, f.text.length + n, f.out.length, []⟩ :: f.stack, out := f.out ++ [⟨f.tag, 0, []⟩] }
    exact ⟨r.1, r.2.1, fun _ => by rcases r.2.2 with x | x; exact .inl x; exact .inr (.inr (.inr (.inr x)))⟩
  · simp only
    split
    · exact (whole_rest { f with more := n, next := 3 }).on
    · rename_i h
      refine ⟨rfl, rfl, fun _ => .inr (.inr (.inr (.inl ⟨rfl, ?_, hn⟩)))⟩
      have : ¬ n = 0 := by simpa using h
      show 1 ≤ n
      omega
theorem wrong_on (f : Feed) (p e : Int) (he : e ≠ 0) : On f (wrong f p e) := ⟨rfl, rfl, fun h => absurd h he⟩
theorem OkK.bump (h : OkK 1 1 f) (i : Nat) : OkK 1 0 { f with out := bump f.out i } := by
  have hl : (R5.bump f.out i).length = f.out.length := D5.bump_len _ _
  refine ⟨h.sb, by show (R5.bump f.out i).length + 1 ≤ _; rw [hl]; exact h.ob, h.tb, fun x hx => by show _ ∧ x.no < (R5.bump f.out i).length ∧ _; rw [hl]; exact h.each x hx, ?_, h.pl⟩
  intro a ha
  have ha' : a ∈ R5.bump f.out i := ha
  obtain ⟨n, hn, e⟩ := List.mem_iff_getElem.1 ha'
  unfold R5.bump at e hn
  rw [List.length_modify] at hn
  rw [List.getElem_modify] at e
  have hk := h.kids f.out[n] (List.getElem_mem hn)
  split at e
  · subst e
    exact ⟨by show -1 ≤ f.out[n].kids + 1; omega, by show f.out[n].kids + 1 + 0 ≤ _; have := hk.2; show _ ≤ (f.text.length : Int); omega⟩
  · subst e
    exact ⟨hk.1, by have := hk.2; show _ ≤ (f.text.length : Int); omega⟩
theorem OkK.begun (h : OkK 1 1 f) (n : Nat) (hn : n ≤ 4294967296) : OkK 0 0 (begun f n) := by
  unfold F5.begun
  split
  · exact (h.mono (Nat.le_refl _) (Nat.zero_le _)).begunOn n hn
  · split
    · exact (h.mono (Nat.zero_le _) (Nat.zero_le _)).wrong _ _
    · exact (h.bump _).begunOn n hn
theorem begun_on (f : Feed) (n : Nat) (hn : n ≤ 4294967296) : On f (begun f n) := by
  unfold begun
  split
  · exact begunOn_on f n hn
  · split
    · exact wrong_on _ _ _ (by decide)
    · exact On.trans (g := { f with out := bump f.out _ }) rfl rfl (begunOn_on _ n hn)
theorem OkK.begins (h : OkK 1 1 f) (c : UInt8) : OkK 0 0 (begins f c) := by
  have hg : OkK 0 0 { f with tag := c, place := f.text.length - 1 } := ⟨by have := h.sb; show f.stack.length + 0 ≤ f.text.length; omega, by have := h.ob; show f.out.length + 0 ≤ f.text.length; omega, h.tb, h.each, (h.mono (Nat.zero_le _) (Nat.zero_le _)).kids, Nat.sub_le _ _⟩
  unfold F5.begins
  simp only
  split
  · exact hg.wrong _ _
  · split
    · exact (hg.wrong _ _).next 1
    · split
      · exact (hg.wrong _ _).next 1
      · exact hg.next 1
theorem begins_on (f : Feed) (c : UInt8) : On f (begins f c) := by
  unfold begins
  simp only
  split
  · exact ⟨rfl, rfl, fun h => absurd (show (10 : Int) = 0 from h) (by decide)⟩
  · split
    · rename_i h
      exact ⟨rfl, rfl, fun e => absurd (show tagE c.toNat = 0 from e) h⟩
    · split
      · exact ⟨rfl, rfl, fun h => absurd (show (10 : Int) = 0 from h) (by decide)⟩
      · exact ⟨rfl, rfl, fun _ => .inr (.inl rfl)⟩
theorem OkK.length (h : OkK 1 1 f) (c : Nat) : OkK 0 0 (length f c) := by
  unfold F5.length
  split
  · exact h.begun c (by omega)
  · split
    · exact (h.mono (Nat.zero_le _) (Nat.zero_le _)).wrong _ _
    · exact ⟨(h.mono (Nat.zero_le _) (Nat.zero_le _)).sb, (h.mono (Nat.zero_le _) (Nat.zero_le _)).ob, h.tb, h.each, (h.mono (Nat.zero_le _) (Nat.zero_le _)).kids, h.pl⟩
theorem length_on (f : Feed) (c : Nat) (_hc : c < 256) : On f (length f c) := by
  unfold length
  split
  · exact begun_on f c (by omega)
  · split
    · exact wrong_on _ _ _ (by decide)
    · refine ⟨rfl, rfl, fun _ => .inr (.inr (.inl ⟨rfl, ?_, ?_, ?_⟩))⟩
      · show 1 ≤ c % 128; omega
      · show c % 128 ≤ 4; omega
      · exact Nat.pow_pos (by decide)
theorem digit_small {f : Feed} {c : Nat} (hc : c < 256) (hm : 1 ≤ f.more) (hm2 : f.more ≤ 4) (hn : f.number < 256 ^ (4 - f.more)) : f.number * 256 + c < 256 ^ (4 - (f.more - 1)) := by
  rw [show 4 - (f.more - 1) = (4 - f.more) + 1 by omega, Nat.pow_succ]
  omega
theorem digit_le {f : Feed} {c : Nat} (hc : c < 256) (hm : 1 ≤ f.more) (hm2 : f.more ≤ 4) (hn : f.number < 256 ^ (4 - f.more)) : f.number * 256 + c < 4294967296 := by
  have h := digit_small hc hm hm2 hn
  have : 256 ^ (4 - (f.more - 1)) ≤ 256 ^ 4 := Nat.pow_le_pow_right (by decide) (by omega)
  omega
theorem OkK.digit (h : OkK 1 1 f) {c : Nat} (hc : c < 256) (hm : 1 ≤ f.more) (hm2 : f.more ≤ 4) (hn : f.number < 256 ^ (4 - f.more)) : OkK 0 0 (digit f c) := by
  have hl := digit_le hc hm hm2 hn
  unfold F5.digit
  split
  · exact (h.mono (Nat.zero_le _) (Nat.zero_le _)).wrong _ _
  · have hg : OkK 1 1 { f with number := f.number * 256 + c, more := f.more - 1 } := ⟨h.sb, h.ob, h.tb, h.each, h.kids, h.pl⟩
    simp only
    split
    · exact hg.mono (Nat.zero_le _) (Nat.zero_le _)
    · split
      · exact (hg.mono (Nat.zero_le _) (Nat.zero_le _)).wrong _ _
      · exact hg.begun _ (by omega)
theorem digit_on (f : Feed) {c : Nat} (hx : f.next = 2) (hc : c < 256) (hm : 1 ≤ f.more) (hm2 : f.more ≤ 4) (hn : f.number < 256 ^ (4 - f.more)) : On f (digit f c) := by
  have hl := digit_le hc hm hm2 hn
  have hs := digit_small hc hm hm2 hn
  unfold digit
  split
  · exact wrong_on _ _ _ (by decide)
  · simp only
    split
    · rename_i h
      exact ⟨rfl, rfl, fun _ => .inr (.inr (.inl ⟨hx, h, by show f.more - 1 ≤ 4; omega, hs⟩))⟩
    · split
      · exact ⟨rfl, rfl, fun h => absurd (show (9 : Int) = 0 from h) (by decide)⟩
      · exact On.trans (g := { f with number := f.number * 256 + c, more := f.more - 1 }) rfl rfl (begun_on _ _ (by omega))
/-- What holds of a feed between two bytes. -/
structure Fits (f : Feed) : Prop where
  may : f.lim.may = true
  ok : OkK 0 0 f
  tl : (f.text.length : Int) ≤ f.lim.b
  on : f.err = 0 → f.next = 0 ∨ f.next = 1 ∨ (f.next = 2 ∧ 1 ≤ f.more ∧ f.more ≤ 4 ∧ f.number < 256 ^ (4 - f.more)) ∨ (f.next = 3 ∧ 1 ≤ f.more ∧ f.more ≤ 4294967296) ∨ f.next = 4
theorem Fits.init {l : Lim} (hm : l.may = true) : Fits (init l) := by
  have hmay := E5.may_of hm
  exact ⟨hm, ⟨Nat.le_refl _, Nat.le_refl _, Nat.zero_le _, fun x hx => by simp [F5.init] at hx, fun a ha => by simp [F5.init] at ha, Nat.le_refl _⟩, by show ((0 : Nat) : Int) ≤ l.b; omega, fun _ => .inl rfl⟩
theorem OkK.more (h : OkK 0 0 f) (c : UInt8) (hb : f.text.length + 1 ≤ 262144) : OkK 1 1 { f with text := f.text ++ [c] } := by
  have h1 := h.sb
  have h2 := h.ob
  have h3 := h.pl
  refine ⟨by simp; omega, by simp; omega, by simp; omega, ?_, ?_, by simp; omega⟩
  · intro x hx
    have := h.each x hx
    simp
    omega
  · intro a ha
    have := h.kids a ha
    simp
    omega
theorem Fits.of_on {g h : Feed} (hm : g.lim.may = true) (ht : (g.text.length : Int) ≤ g.lim.b) (ok : OkK 0 0 h) (on : On g h) : Fits h :=
  ⟨by rw [on.1]; exact hm, ok, by rw [on.1, on.2.1]; exact ht, on.2.2⟩
theorem Fits.byte (h : Fits f) (he : f.err = 0) (c : UInt8) : Fits (byte f c) := by
  have hmay := E5.may_of h.may
  have htl := h.tl
  unfold F5.byte
  by_cases hb : (f.text.length : Int) = f.lim.b
  · rw [if_pos (by simpa using hb)]
    exact ⟨h.may, h.ok.wrong _ _, h.tl, fun e => absurd (show (10 : Int) = 0 from e) (by decide)⟩
  · rw [if_neg (by simpa using hb)]
    have ho := h.ok.more c (by omega)
    have ht : (({ f with text := f.text ++ [c] } : Feed).text.length : Int) ≤ ({ f with text := f.text ++ [c] } : Feed).lim.b := by simp; omega
    have hc := c.toNat_lt
    simp only
    rcases h.on he with hx | hx | ⟨hx, m1, m2, m3⟩ | ⟨hx, m1, m2⟩ | hx
    · rw [if_pos (by simp [hx])]
      exact Fits.of_on (g := { f with text := f.text ++ [c] }) h.may ht (ho.begins c) (begins_on _ c)
    · rw [if_neg (by simp [hx]), if_pos (by simp [hx])]
      exact Fits.of_on (g := { f with text := f.text ++ [c] }) h.may ht (ho.length _) (length_on _ _ hc)
    · rw [if_neg (by simp [hx]), if_neg (by simp [hx]), if_pos (by simp [hx])]
      exact Fits.of_on (g := { f with text := f.text ++ [c] }) h.may ht (ho.digit hc m1 m2 m3) (digit_on _ hx hc m1 m2 m3)
    · rw [if_neg (by simp [hx]), if_neg (by simp [hx]), if_neg (by simp [hx]), if_pos (by simp [hx])]
      have hg : OkK 1 1 { f with text := f.text ++ [c], more := f.more - 1 } := ⟨ho.sb, ho.ob, ho.tb, ho.each, ho.kids, ho.pl⟩
      split
      · exact Fits.of_on (g := { f with text := f.text ++ [c], more := f.more - 1 }) h.may ht (OkK.whole (hg.mono (Nat.le_refl _) (Nat.zero_le _))) (whole_rest _).on
      · rename_i hz
        have hz' : ¬ f.more - 1 = 0 := by simpa using hz
        exact ⟨h.may, hg.mono (Nat.zero_le _) (Nat.zero_le _), ht, fun _ => .inr (.inr (.inr (.inl ⟨hx, by show 1 ≤ f.more - 1; omega, by show f.more - 1 ≤ _; omega⟩)))⟩
    · rw [if_neg (by simp [hx]), if_neg (by simp [hx]), if_neg (by simp [hx]), if_neg (by simp [hx])]
      exact ⟨h.may, (ho.mono (Nat.zero_le _) (Nat.zero_le _)).wrong _ _, ht, fun e => absurd (show (9 : Int) = 0 from e) (by decide)⟩
theorem Fits.write : ∀ (s : Bytes) {f : Feed}, Fits f → Fits (write f s)
  | [], _, h => h
  | c :: s, f, h => by
    rw [write_cons]
    split
    · rename_i he
      exact Fits.write s (h.byte (by simpa using he) c)
    · exact h
end Go.Px.F5
