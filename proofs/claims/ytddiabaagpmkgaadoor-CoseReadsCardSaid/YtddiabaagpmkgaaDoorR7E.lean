/-
  The feed, byte by byte, does what the reference's reader does (plain law). No program is named here.
-/
import Derived.Test.YtddiabaagpmkgaaDoorR7M
import Derived.Test.YtddiabaagpmkgaaDoorCfL
namespace Go.Px.R7
open Cf

/-! What is at hand does not matter between two items -/
def hand (f h : Feed) : Feed := { f with kind := h.kind, hat := h.hat, info := h.info, num := h.num, more := h.more }
def blank : Feed := ⟨⟨0, 0, 0, 0⟩, [], [], [], 0, 0, 0, 0, 0, 0, 0, 0⟩
def norm (f : Feed) : Feed := hand f blank
theorem norm_hand (f h : Feed) : norm (hand f h) = norm f := rfl
theorem hand_of_norm {f g : Feed} (e : norm f = norm g) : g = hand f g := by
  cases f; cases g
  simp only [norm, hand, blank, Feed.mk.injEq] at e ⊢
  obtain ⟨h1, h2, h3, h4, h5, _, _, _, _, _, h6, h7⟩ := e
  exact ⟨h1.symm, h2.symm, h3.symm, h4.symm, h5.symm, trivial, trivial, trivial, trivial, trivial, h6.symm, h7.symm⟩
theorem counted_hand (f h : Feed) (p : Nat) : counted (hand f h) p = ((counted f p).1, hand (counted f p).2 h) := by
  obtain ⟨l, t, o, st, n, a, b, c, d, e, r, v⟩ := f
  unfold counted hand
  cases st with
  | nil => rfl
  | cons x rest =>
    simp only
    split
    · split <;> rfl
    · rfl
theorem settleN_hand (h : Feed) : ∀ (n : Nat) (f : Feed), settleN n (hand f h) = hand (settleN n f) h
  | 0, f => rfl
  | n + 1, f => by
    have hst : (hand f h).stack = f.stack := rfl
    unfold settleN
    simp only [hst]
    cases hs : f.stack with
    | nil => rfl
    | cons x rest =>
      simp only
      by_cases hl : 0 < x.left
      · rw [if_pos hl, if_pos hl]
      · rw [if_neg hl, if_neg hl]
        have e : ({ hand f h with stack := rest } : Feed) = hand { f with stack := rest } h := rfl
        rw [e, counted_hand]
        cases hc : Cf.counted { f with stack := rest } x.at_ with
        | mk cb g =>
          cases cb
          · rfl
          · exact settleN_hand h n g
theorem settle_hand (f h : Feed) : settle (hand f h) = hand (settle f) h := settleN_hand h f.stack.length { f with next := 0 }
theorem ended_hand (f h : Feed) (p : Nat) : ended (hand f h) p = hand (ended f p) h := by
  unfold ended
  rw [counted_hand]
  cases hc : Cf.counted f p with
  | mk cb g =>
    cases cb
    · rfl
    · exact settle_hand g h
theorem ended_norm (f : Feed) (p : Nat) : norm (ended f p) = ended (norm f) p := (ended_hand f blank p).symm
theorem settle_norm (f : Feed) : norm (settle f) = settle (norm f) := (settle_hand f blank).symm
theorem settle_next (f : Feed) (n : Int) : settle { f with next := n } = settle f := rfl
theorem ended_congr {f g : Feed} (e : norm f = norm g) (p : Nat) : norm (ended f p) = norm (ended g p) := by rw [ended_norm, ended_norm, e]
theorem settle_congr {f g : Feed} (e : norm f = norm g) : norm (settle f) = norm (settle g) := by rw [settle_norm, settle_norm, e]

theorem write_norm (s : Bytes) : ∀ (f g : Feed), norm f = norm g → (f.next = 0 ∨ f.next = 3 ∨ f.err ≠ 0) → norm (write f s) = norm (write g s) := by
  intro f g e hn
  have hg := hand_of_norm e
  rw [hg]
  generalize g = h
  cases s with
  | nil => rfl
  | cons c s =>
    by_cases he : f.err = 0
    · have e1 : write f (c :: s) = write (byte f c) s := by simp [write, he]
      have e2 : write (hand f h) (c :: s) = write (byte (hand f h) c) s := by simp [write, show (hand f h).err = f.err from rfl, he]
      rw [e1, e2]
      unfold byte
      have hl : (hand f h).text = f.text := rfl
      have hm : (hand f h).lim = f.lim := rfl
      have hx : (hand f h).next = f.next := rfl
      rw [hl, hm]
      by_cases hb : ((f.text.length : Int) == f.lim.b) = true
      · rw [if_pos hb, if_pos hb, write_err _ (by simp [wrong]), write_err _ (by simp [wrong])]
        rfl
      · rw [if_neg hb, if_neg hb]
        simp only [hx]
        rcases hn with hn | hn | hn
        · have n0 : (f.next == 0) = true := by simpa using hn
          rw [if_pos n0, if_pos n0]
          rfl
        · have n0 : ¬ (f.next == 0) = true := by simp [hn]
          have n1 : ¬ (f.next == 1) = true := by simp [hn]
          have n2 : ¬ (f.next == 2) = true := by simp [hn]
          rw [if_neg n0, if_neg n1, if_neg n2, if_neg n0, if_neg n1, if_neg n2, write_err _ (by simp [wrong]), write_err _ (by simp [wrong])]
          rfl
        · exact absurd he hn
    · rw [write_err _ he, write_err _ (show (hand f h).err ≠ 0 from he)]
      rfl

/-! Where the feed and the reader are -/
structure At (s : Bytes) (lim : Lim) (x : St) (p : Nat) (f : Feed) : Prop where
  fl : f.lim = lim
  text : f.text = s.take p
  ps : p ≤ s.length
  pb : (p : Int) ≤ lim.b
  err : f.err = 0
  xerr : x.err = 0
  taken : x.taken = p
  frames : x.frames = f.stack.length
  ended : x.ended = false
structure Sim (s : Bytes) (lim : Lim) (x : St) (p : Nat) (f : Feed) (k : Nat) : Prop extends At s lim x p f where
  next : f.next = 0
  out : f.out = x.out
  deep : ((f.stack.length + k : Nat) : Int) = lim.d
structure Stuck (s : Bytes) (x : St) (g : Feed) : Prop where
  ended : x.ended = true → g.err = 0 ∧ g.next ≠ 3 ∧ g.text = s ∧ x.err = 9 ∧ x.place = s.length
  told : x.ended = false → g.err = x.err ∧ g.at_ = x.place
  xerr : x.err ≠ 0
  taken : g.text.length = x.taken
  frames : g.stack.length = x.frames
theorem Stuck.norm {s : Bytes} {x : St} {f g : Feed} (h : Stuck s x f) (e : norm f = norm g) : Stuck s x g := by
  rw [hand_of_norm e]
  exact ⟨h.ended, h.told, h.xerr, h.taken, h.frames⟩
theorem At.norm {s : Bytes} {lim : Lim} {x : St} {p : Nat} {f g : Feed} (h : At s lim x p f) (e : norm f = norm g) : At s lim x p g := by
  rw [hand_of_norm e]
  exact ⟨h.fl, h.text, h.ps, h.pb, h.err, h.xerr, h.taken, h.frames, h.ended⟩
theorem Sim.norm {s : Bytes} {lim : Lim} {x : St} {p k : Nat} {f g : Feed} (h : Sim s lim x p f k) (e : norm f = norm g) : Sim s lim x p g k := by
  have h' := h.toAt.norm e
  rw [hand_of_norm e] at h' ⊢
  exact ⟨h', h.next, h.out, h.deep⟩

/-- What byte does with a byte that it may take. -/
def byteOn (f : Feed) (c : UInt8) : Feed :=
  if f.next == 0 then Cf.head f c.toNat
  else if f.next == 1 then argument f c.toNat
  else if f.next == 2 then
    let g := { f with more := f.more - 1 }
    if g.more == 0 then whole g else g
  else wrong f (f.text.length - 1 : Nat) 9
theorem byte_on {f : Feed} (h : ¬ (f.text.length : Int) = f.lim.b) (c : UInt8) : byte f c = byteOn { f with text := f.text ++ [c] } c := by
  unfold byte
  rw [if_neg (by simpa using h)]
  rfl

section
variable {s : Bytes} {lim : Lim} {x y z : St} {p q k : Nat} {f g : Feed}

theorem At.len (h : At s lim x p f) : f.text.length = p := by rw [h.text, List.length_take, Nat.min_eq_left h.ps]
theorem At.stuck_wrong (h : At s lim x p f) (a e : Int) (he : e ≠ 0) (r : Bytes) : Stuck s (fault x a e) (write (wrong f a e) r) := by
  rw [write_err _ (by simpa [wrong] using he)]
  exact ⟨(fun w => by rw [show (fault x a e).ended = x.ended from rfl, h.ended] at w; exact absurd w (by simp)), fun _ => ⟨rfl, rfl⟩, he, by show f.text.length = x.taken; rw [h.len, h.taken], h.frames.symm⟩
theorem want_no (h : At s lim x p f) (hn : f.next ≠ 3) (e : want s lim x p = (false, y)) : Stuck s y (write f (s.drop p)) := by
  have hps := h.ps
  have hpb := h.pb
  unfold want at e
  by_cases h1 : p < s.length ∧ (p : Int) < lim.b
  · rw [if_pos h1] at e; simp at e
  · rw [if_neg h1] at e
    by_cases h2 : lim.b < s.length
    · rw [if_pos h2] at e
      have hp : (p : Int) = lim.b := by omega
      have hlt : p < s.length := by omega
      simp only [Prod.mk.injEq, true_and] at e
      subst e
      rw [write_drop f s p hlt h.err]
      have hb : byte f s[p] = wrong f lim.b 10 := by
        unfold byte
        rw [if_pos (by rw [h.len, h.fl]; simpa using hp), h.fl]
      rw [hb, write_err _ (by simp [wrong])]
      refine ⟨fun w => ?_, fun _ => ⟨rfl, rfl⟩, by simp [fault], ?_, h.frames.symm⟩
      · rw [show (fault (take x lim.b.toNat) lim.b 10).ended = x.ended from rfl, h.ended] at w; cases w
      · show f.text.length = max x.taken lim.b.toNat
        rw [h.len, h.taken]; omega
    · rw [if_neg h2] at e
      have hp : p = s.length := by omega
      simp only [Prod.mk.injEq, true_and] at e
      subst e
      subst hp
      rw [List.drop_length]
      refine ⟨fun _ => ⟨h.err, hn, by rw [show write f [] = f from rfl, h.text, List.take_length], rfl, rfl⟩, fun w => ?_, by simp [fault], ?_, h.frames.symm⟩
      · cases w
      · show f.text.length = max x.taken s.length
        rw [h.len, h.taken]; omega
theorem want_yes (h : At s lim x p f) (e : want s lim x p = (true, y)) :
    ∃ hp : p < s.length, (p : Int) < lim.b ∧ y = { x with taken := p + 1 } ∧ At s lim y (p + 1) { f with text := f.text ++ [s[p]] } ∧ write f (s.drop p) = write (byteOn { f with text := f.text ++ [s[p]] } s[p]) (s.drop (p + 1)) ∧ s.getD p 0 = s[p] := by
  unfold want at e
  by_cases h1 : p < s.length ∧ (p : Int) < lim.b
  · rw [if_pos h1] at e
    obtain ⟨hp, hb⟩ := h1
    simp only [Prod.mk.injEq, true_and] at e
    subst e
    have ey : take x (p + 1) = { x with taken := p + 1 } := by
      unfold take
      rw [h.taken, Nat.max_eq_right (Nat.le_succ p)]
    refine ⟨hp, hb, ey, ?_, ?_, by simp [List.getD, hp]⟩
    · rw [ey]
      exact ⟨h.fl, by show f.text ++ [s[p]] = s.take (p + 1); rw [h.text, List.take_succ_eq_append_getElem hp], hp, by omega, h.err, h.xerr, rfl, h.frames, h.ended⟩
    · rw [write_drop f s p hp h.err, byte_on (by rw [h.len, h.fl]; omega)]
  · rw [if_neg h1] at e
    split at e <;> simp at e

/-- From x at p the reader has come to y at q. -/
structure Moved (s : Bytes) (lim : Lim) (x : St) (p : Nat) (y : St) (q : Nat) : Prop where
  le : p ≤ q
  qs : q ≤ s.length
  qb : (q : Int) ≤ lim.b
  err : y.err = 0
  taken : y.taken = q
  frames : y.frames = x.frames
  ended : y.ended = false
  place : y.place = x.place
theorem Moved.at (h : Moved s lim x p y q) (f : Feed) (hl : f.lim = lim) (ht : f.text = s.take q) (he : f.err = 0) (hf : x.frames = f.stack.length) : At s lim y q f :=
  ⟨hl, ht, h.qs, h.qb, he, h.err, h.taken, h.frames.trans hf, h.ended⟩
theorem Moved.trans (h : Moved s lim x p y q) {r : Nat} (k : Moved s lim y q z r) : Moved s lim x p z r :=
  ⟨Nat.le_trans h.le k.le, k.qs, k.qb, k.err, k.taken, k.frames.trans h.frames, k.ended, k.place.trans h.place⟩
theorem At.moved (h : At s lim x p f) : Moved s lim x p x p := ⟨Nat.le_refl _, h.ps, h.pb, h.xerr, h.taken, rfl, h.ended, rfl⟩

/-! Arguments -/
theorem beBytes_len (n w : Nat) : (beBytes n w).length = w := by
  induction w with
  | zero => rfl
  | succ w ih => simp [beBytes, ih]
theorem headB_len (k n a : Nat) (h1 : 24 ≤ a) (h2 : a ≤ 27) (hn : n < 256 ^ (2 ^ (a - 24))) : (headB k n).length = 2 ^ (a - 24) + 1 ↔ ¬ n < least a := by
  have ha : a = 24 ∨ a = 25 ∨ a = 26 ∨ a = 27 := by omega
  unfold headB infoOf least
  rcases ha with rfl | rfl | rfl | rfl <;> (simp at hn ⊢; (repeat' split) <;> simp [beBytes_len] <;> omega)

theorem arg_sim : ∀ (m : Nat) (x : St) (p : Nat) (f : Feed), At s lim x p f → f.next = 1 → f.more = m + 1 → 24 ≤ f.info → f.info ≤ 27 → f.more ≤ 2 ^ (f.info - 24) → f.num < 256 ^ (2 ^ (f.info - 24) - f.more) →
    match argN s lim (m + 1) x p f.num with
    | (some n, y) => Moved s lim x p y (p + m + 1) ∧ y.out = x.out ∧ n < 256 ^ (2 ^ (f.info - 24)) ∧
        write f (s.drop p) = write (let g := { f with text := s.take (p + m + 1), num := n, more := 0 }; if n < least f.info then wrong g f.hat 9 else known g) (s.drop (p + m + 1))
    | (none, y) => Stuck s y (write f (s.drop p)) := by
  intro m
  induction m with
  | zero =>
    intro x p f h hn hm i1 i2 hle hnum
    unfold argN
    cases hw : want s lim x p with
    | mk b y =>
      cases b
      · exact want_no h (by omega) hw
      · obtain ⟨hp, hb, ey, hat, hwr, hget⟩ := want_yes h hw
        simp only [argN]
        have hc := s[p].toNat_lt
        have hst := arg_step (by omega) hle hnum hc
        rw [hm] at hst
        rw [hget]
        refine ⟨⟨by omega, hat.ps, hat.pb, hat.xerr, hat.taken, by rw [ey], by rw [ey]; exact h.ended, by rw [ey]⟩, by rw [ey], by simpa using hst, ?_⟩
        rw [hwr]
        unfold byteOn
        simp only [hn]
        rw [if_neg (by simp), if_pos (by simp)]
        unfold argument
        simp only [hm]
        rw [if_neg (by omega), ← hat.text]
  | succ m ih =>
    intro x p f h hn hm i1 i2 hle hnum
    unfold argN
    cases hw : want s lim x p with
    | mk b y =>
      cases b
      · exact want_no h (by omega) hw
      · obtain ⟨hp, hb, ey, hat, hwr, hget⟩ := want_yes h hw
        simp only
        have hc := s[p].toNat_lt
        have hst := arg_step (by omega) hle hnum hc
        rw [hget]
        have hby : byteOn { f with text := f.text ++ [s[p]] } s[p] = { f with text := f.text ++ [s[p]], num := f.num * 256 + s[p].toNat, more := f.more - 1 } := by
          unfold byteOn
          simp only [hn]
          rw [if_neg (by simp), if_pos (by simp)]
          unfold argument
          simp only
          rw [if_pos (by omega)]
        rw [hby] at hwr
        have hat' : At s lim y (p + 1) { f with text := f.text ++ [s[p]], num := f.num * 256 + s[p].toNat, more := f.more - 1 } := ⟨hat.fl, hat.text, hat.ps, hat.pb, hat.err, hat.xerr, hat.taken, hat.frames, hat.ended⟩
        have := ih y (p + 1) { f with text := f.text ++ [s[p]], num := f.num * 256 + s[p].toNat, more := f.more - 1 } hat' hn (by show f.more - 1 = m + 1; omega) i1 i2 (show f.more - 1 ≤ 2 ^ (f.info - 24) by omega) hst
        simp only at this
        have ep : p + 1 + m + 1 = p + (m + 1) + 1 := by omega
        rw [ep] at this
        cases ha : argN s lim (m + 1) y (p + 1) (f.num * 256 + s[p].toNat) with
        | mk o z =>
          rw [ha] at this
          cases o with
          | none =>
            simp only at this ⊢
            rw [hwr]; exact this
          | some n =>
            simp only at this ⊢
            obtain ⟨t1, t2, t3, t4⟩ := this
            have hmv : Moved s lim x p y (p + 1) := ⟨by omega, hat.ps, hat.pb, hat.xerr, hat.taken, by rw [ey], by rw [ey]; exact h.ended, by rw [ey]⟩
            refine ⟨hmv.trans t1, by rw [t2, ey], t3, ?_⟩
            rw [hwr, t4]

/-- Behind a head: the feed goes on as 'known' says. -/
theorem head_sim (h : At s lim x p f) (h0 : f.next = 0) (ho : f.out = x.out) (hol : (x.out.length : Int) ≤ lim.i) :
    match R7.head s lim x p with
    | (some (k, n, q), y) => Moved s lim x p y q ∧ p < q ∧ y.out = x.out ∧ n < 18446744073709551616 ∧ k < 8 ∧ ((x.out.length : Int) < lim.i) ∧
        ∃ i m v, write f (s.drop p) = write (known { f with text := s.take q, kind := (k : Nat), hat := p, info := i, num := n, more := m, next := v }) (s.drop q)
    | (none, y) => Stuck s y (write f (s.drop p)) := by
  unfold R7.head
  cases hw : want s lim x p with
  | mk b y =>
    cases b
    · exact want_no h (by omega) hw
    · obtain ⟨hp, hb, ey, hat, hwr, hget⟩ := want_yes h hw
      have hyo : y.out = x.out := by rw [ey]
      have hc := s[p].toNat_lt
      have hmv : Moved s lim x p y (p + 1) := ⟨by omega, hat.ps, hat.pb, hat.xerr, hat.taken, by rw [ey], by rw [ey]; exact h.ended, by rw [ey]⟩
      have hby : byteOn { f with text := f.text ++ [s[p]] } s[p] = headOn { f with text := f.text ++ [s[p]], kind := (s[p].toNat / 32 : Nat), hat := p, info := s[p].toNat % 32, num := 0, more := 0 } p (s[p].toNat / 32) (s[p].toNat % 32) := by
        unfold byteOn
        simp only [h0]
        rw [if_pos (by simp)]
        unfold Cf.head
        have e : (f.text ++ [s[p]]).length - 1 = p := by simp [h.len]
        simp only [e]
      rw [hwr, hby]
      simp only
      rw [hget]
      unfold headOn
      simp only
      have hall : ∀ hk i n m, At s lim y (p + 1) { f with text := f.text ++ [s[p]], kind := hk, hat := p, info := i, num := n, more := m } := fun hk i n m => ⟨hat.fl, hat.text, hat.ps, hat.pb, hat.err, hat.xerr, hat.taken, hat.frames, hat.ended⟩
      by_cases hi : lim.i ≤ y.out.length
      · rw [if_pos hi, if_pos (show ((f.out.length : Int) == f.lim.i) = true by rw [ho, h.fl]; rw [hyo] at hi; simp; omega)]
        exact (hall _ _ _ _).stuck_wrong p 10 (by omega) _
      · rw [if_neg hi, if_neg (show ¬ ((f.out.length : Int) == f.lim.i) = true by rw [ho, h.fl]; rw [hyo] at hi; simp; omega)]
        by_cases h27 : 27 < s[p].toNat % 32
        · rw [if_pos h27, if_pos h27]
          exact (hall _ _ _ _).stuck_wrong p 9 (by omega) _
        · rw [if_neg h27, if_neg h27]
          by_cases h7 : (s[p].toNat / 32 == 7 && (decide (s[p].toNat % 32 < 20) || decide (23 < s[p].toNat % 32))) = true
          · rw [if_pos h7, if_pos h7]
            exact (hall _ _ _ _).stuck_wrong p 11 (by omega) _
          · rw [if_neg h7, if_neg h7]
            by_cases h24 : s[p].toNat % 32 < 24
            · rw [if_pos h24, if_pos h24]
              refine ⟨hmv, by omega, hyo, by omega, by omega, by rw [hyo] at hi; omega, s[p].toNat % 32, 0, f.next, ?_⟩
              rw [← hat.text]
            · rw [if_neg h24, if_neg h24]
              obtain ⟨m, hm⟩ : ∃ m, 2 ^ (s[p].toNat % 32 - 24) = m + 1 := ⟨2 ^ (s[p].toNat % 32 - 24) - 1, by have := Nat.one_le_two_pow (n := s[p].toNat % 32 - 24); omega⟩
              have := arg_sim m y (p + 1) { f with text := f.text ++ [s[p]], kind := (s[p].toNat / 32 : Nat), hat := p, info := s[p].toNat % 32, num := 0, more := 2 ^ (s[p].toNat % 32 - 24), next := 1 }
                ⟨hat.fl, hat.text, hat.ps, hat.pb, hat.err, hat.xerr, hat.taken, hat.frames, hat.ended⟩ rfl hm (by show 24 ≤ s[p].toNat % 32; omega) (by show s[p].toNat % 32 ≤ 27; omega) (Nat.le_refl _) (by simp)
              simp only at this
              rw [hm]
              rw [hm] at this
              cases ha : argN s lim (m + 1) y (p + 1) 0 with
              | mk o z =>
                rw [ha] at this
                cases o with
                | none => simpa using this
                | some n =>
                  simp only at this ⊢
                  obtain ⟨t1, t2, t3, t4⟩ := this
                  have hl := headB_len (s[p].toNat / 32) n (s[p].toNat % 32) (by omega) (by omega) (by rw [hm]; exact t3)
                  rw [hm] at hl
                  have ep : p + 1 + m + 1 = p + 1 + (m + 1) := by omega
                  rw [ep] at t1 t4
                  by_cases hlt : n < least (s[p].toNat % 32)
                  · rw [if_neg (fun e => hl.1 e hlt)]
                    rw [if_pos hlt] at t4
                    simp only
                    rw [t4]
                    exact (t1.at { f with text := s.take (p + 1 + (m + 1)), kind := (s[p].toNat / 32 : Nat), hat := p, info := s[p].toNat % 32, num := n, more := 0, next := 1 } hat.fl rfl hat.err (by rw [ey]; exact h.frames)).stuck_wrong p 9 (by omega) _
                  · rw [if_pos (hl.2 hlt)]
                    rw [if_neg hlt] at t4
                    simp only
                    refine ⟨hmv.trans t1, by omega, t2.trans hyo, Nat.lt_of_lt_of_le t3 (pow256_le _ (by have := two_pow_le (s[p].toNat % 32) (by omega); omega)), by omega, by rw [hyo] at hi; omega, s[p].toNat % 32, 0, 1, ?_⟩
                    rw [t4]
end
end Go.Px.R7
