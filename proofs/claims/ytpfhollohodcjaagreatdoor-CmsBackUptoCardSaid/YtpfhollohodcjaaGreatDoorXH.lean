/-
  Several texts in one: What is told is read: the bytes of one right element are read back, or refused when a set is out of order (plain law, layer 15). No program is named here.
-/
import Derived.Test.YtpfhollohodcjaaGreatDoorXG
/-! What is told is read: the bytes of one right element are read back, or refused when a set is out of order (plain law, layer 15). No program is named here. -/
namespace Go.Px.E5
open R5 (St bump inner tagE)
theorem drop_cons {s t : Bytes} {p : Nat} {c : UInt8} (h : s.drop p = c :: t) : p < s.length ∧ s.getD p 0 = c ∧ s.drop (p + 1) = t := by
  have hp : p < s.length := by
    by_cases hp : p < s.length
    · exact hp
    · rw [List.drop_eq_nil_of_le (by omega)] at h; cases h
  rw [List.drop_eq_getElem_cons hp, List.cons.injEq] at h
  refine ⟨hp, ?_, h.2⟩
  rw [List.getD_eq_getElem?_getD, List.getElem?_eq_getElem hp]
  exact h.1
theorem drop_app {s a t : Bytes} {p : Nat} (h : s.drop p = a ++ t) : s.drop (p + a.length) = t := by
  rw [← List.drop_drop, h, List.drop_left]
theorem drop_len {s a t : Bytes} {p : Nat} (h : s.drop p = a ++ t) (hp : p ≤ s.length) : p + a.length ≤ s.length := by
  have := congrArg List.length h
  rw [List.length_drop, List.length_append] at this
  omega
theorem drop_part {s a t : Bytes} {p : Nat} (h : s.drop p = a ++ t) : (s.take (p + a.length)).drop p = a := by
  rw [List.drop_take, h, Nat.add_sub_cancel_left, List.take_left]

/-! Lengths -/
def val : Bytes → Nat → Nat
  | [], a => a
  | c :: r, a => val r (256 * a + c.toNat)
theorem toNat_small {n : Nat} (h : n < 256) : (UInt8.ofNat n).toNat = n := by
  rw [UInt8.toNat_ofNat']
  exact Nat.mod_eq_of_lt h
theorem beN_zero (m : Nat) (s : Bytes) : beN m 0 s = s := by
  cases m with
  | zero => rfl
  | succ m => unfold beN; rw [if_pos rfl]
theorem beN_val : ∀ (m n : Nat) (s : Bytes), n < 256 ^ m → val (beN m n s) 0 = val s n
  | 0, n, s, h => by
    have : n = 0 := by simpa using h
    rw [this]; rfl
  | m + 1, n, s, h => by
    unfold beN
    by_cases hn : n = 0
    · rw [if_pos hn, hn]
    · rw [if_neg hn, beN_val m (n / 256) _ (by rw [Nat.pow_succ] at h; omega)]
      show val s (256 * (n / 256) + (UInt8.ofNat (n % 256)).toNat) = val s n
      rw [toNat_small (by omega), show 256 * (n / 256) + n % 256 = n by omega]
theorem beN_head : ∀ (m n : Nat) (s : Bytes), n < 256 ^ m → n ≠ 0 → ∃ c r, beN m n s = c :: r ∧ c.toNat ≠ 0
  | 0, n, s, h, hn => absurd (by simpa using h) hn
  | m + 1, n, s, h, hn => by
    unfold beN
    rw [if_neg hn]
    by_cases hd : n / 256 = 0
    · rw [hd, beN_zero]
      exact ⟨_, s, rfl, by rw [toNat_small (by omega)]; omega⟩
    · exact beN_head m (n / 256) _ (by rw [Nat.pow_succ] at h; omega) hd
theorem beN_len : ∀ (m n k : Nat) (s : Bytes), n < 256 ^ k → (beN m n s).length ≤ s.length + k
  | 0, n, k, s, _ => Nat.le_add_right _ _
  | m + 1, n, k, s, h => by
    unfold beN
    by_cases hn : n = 0
    · rw [if_pos hn]; exact Nat.le_add_right _ _
    · rw [if_neg hn]
      cases k with
      | zero => exact absurd (by simpa using h) hn
      | succ k =>
        have := beN_len m (n / 256) k (UInt8.ofNat (n % 256) :: s) (by rw [Nat.pow_succ] at h; omega)
        simp only [List.length_cons] at this
        omega
theorem want_reads {s : Bytes} {lim : Lim} {x : St} {p : Nat} (h1 : p < s.length) (h2 : (p : Int) < lim.b) (ht : x.taken ≤ p) : R5.want s lim x p = (true, { x with taken := p + 1 }) := by
  unfold R5.want
  rw [if_pos ⟨h1, h2⟩]
  unfold R5.take
  rw [Nat.max_eq_right (by omega)]
theorem lenN_reads (s : Bytes) (lim : Lim) : ∀ (l : Bytes) (x : St) (p : Nat) (first : Bool) (a : Nat) (t : Bytes), s.drop p = l ++ t → ((p + l.length : Nat) : Int) ≤ lim.b → x.taken = p → (first = true → ∀ c r, l = c :: r → c.toNat ≠ 0) →
    R5.lenN s lim l.length x p first a = (some (val l a), { x with taken := p + l.length })
  | [], x, p, first, a, t, _, _, ht, _ => by
    show (some a, x) = _
    rw [List.length_nil, Nat.add_zero, ← ht]
    rfl
  | c :: r, x, p, first, a, t, h, hb, ht, hf => by
    obtain ⟨h1, h2, h3⟩ := drop_cons h
    simp only [List.length_cons] at hb
    show R5.lenN s lim (r.length + 1) x p first a = _
    unfold R5.lenN
    rw [want_reads h1 (by omega) (Nat.le_of_eq ht)]
    simp only
    have hz : ¬ (first && (s.getD p 0).toNat == 0) = true := by
      rw [h2]
      intro hh
      simp only [Bool.and_eq_true, beq_iff_eq] at hh
      exact hf hh.1 c r rfl hh.2
    rw [if_neg hz, lenN_reads s lim r { x with taken := p + 1 } (p + 1) false _ t h3 (by omega) rfl (fun e => by cases e), h2]
    show (some (val r (256 * a + c.toNat)), { x with taken := p + 1 + r.length }) = _
    rw [List.length_cons, show p + 1 + r.length = p + (r.length + 1) by omega]
    rfl
theorem lenB_pos (n : Nat) : 1 ≤ (lenB n).length := by
  unfold lenB
  split
  · exact Nat.le_refl _
  · simp
theorem length_reads {s t : Bytes} {lim : Lim} {x : St} {p n : Nat} (hn : n < 4294967296) (h : s.drop p = lenB n ++ t) (hb : ((p + (lenB n).length : Nat) : Int) ≤ lim.b) (ht : x.taken = p) :
    R5.length s lim x p = (some (n, p + (lenB n).length), { x with taken := p + (lenB n).length }) := by
  unfold R5.length
  unfold lenB at h hb ⊢
  by_cases h8 : n < 128
  · rw [if_pos h8] at h hb ⊢
    obtain ⟨h1, h2, _⟩ := drop_cons h
    simp only [List.length_singleton] at hb ⊢
    rw [want_reads h1 (by omega) (Nat.le_of_eq ht)]
    simp only
    rw [h2, toNat_small (by omega), if_pos h8]
  · rw [if_neg h8] at h hb ⊢
    obtain ⟨c, r, hc, hc0⟩ := beN_head 8 n [] (by omega) (by omega)
    have hl : (beN 8 n []).length ≤ 0 + 4 := beN_len 8 n 4 [] (by omega)
    have hl1 : 1 ≤ (beN 8 n []).length := by rw [hc]; simp
    have hv : val (beN 8 n []) 0 = n := beN_val 8 n [] (by omega)
    generalize beN 8 n [] = L at h hb hc hl hl1 hv ⊢
    obtain ⟨h1, h2, h3⟩ := drop_cons h
    simp only [List.length_cons] at hb ⊢
    rw [want_reads h1 (by omega) (Nat.le_of_eq ht)]
    simp only
    have hby : (s.getD p 0).toNat = 128 + L.length := by rw [h2, toNat_small (by omega)]
    obtain ⟨w, hw⟩ : ∃ w, w = (s.getD p 0).toNat := ⟨_, rfl⟩
    rw [← hw] at hby ⊢
    have hm : w % 128 = L.length := by omega
    rw [if_neg (by omega), if_neg (by omega), hm, lenN_reads s lim L { x with taken := p + 1 } (p + 1) true 0 t h3 (by omega) rfl (fun _ c' r' e => by rw [hc] at e; simp only [List.cons.injEq] at e; rw [← e.1]; exact hc0)]
    simp only
    rw [hv, if_neg h8, show p + 1 + L.length = p + (L.length + 1) by omega]
theorem head_reads {s t : Bytes} {lim : Lim} {x : St} {p n : Nat} {room : Bool} {c : UInt8} {e : Option Nat} (hn : n < 4294967296) (h : s.drop p = c :: (lenB n ++ t)) (hb : ((p + 1 + (lenB n).length : Nat) : Int) ≤ lim.b) (ht : x.taken = p)
    (ho : (x.out.length : Int) < lim.i) (hg : tagE c.toNat = 0) (hr : inner c.toNat = true → room = true) (he : ∀ v, e = some v → p + 1 + (lenB n).length + n ≤ v) :
    R5.head s lim room x p e = (some (n, p + 1 + (lenB n).length), { x with taken := p + 1 + (lenB n).length }) := by
  obtain ⟨h1, h2, h3⟩ := drop_cons h
  unfold R5.head
  rw [want_reads h1 (by omega) (Nat.le_of_eq ht)]
  simp only
  have hrm : ¬ (inner c.toNat && !room) = true := by
    intro hh
    simp only [Bool.and_eq_true, Bool.not_eq_true'] at hh
    rw [hr hh.1] at hh
    exact absurd hh.2 (by decide)
  rw [h2, if_neg (by omega), if_neg (by rw [hg]; decide), if_neg hrm, length_reads hn h3 hb rfl]
  simp only
  have hen : ¬ (e.any (fun v => decide (v < p + 1 + (lenB n).length + n))) = true := by
    cases e with
    | none => simp
    | some v => simp only [Option.any_some, decide_eq_true_eq]; have := he v rfl; omega
  rw [if_neg hen]

/-! Elements -/
def Reads (x : St) (p : Nat) (l : List Node) (b : Bytes) (o : Bool) (res : Option Nat × St) : Prop :=
  match o with
  | false => res = (some (p + b.length), { x with out := x.out ++ l, taken := p + b.length })
  | true => ∃ y, res = (none, y) ∧ y.err = 9
def bumpN (l : List Node) (i : Nat) : Nat → List Node
  | 0 => l
  | n + 1 => bumpN (bump l i) i n
theorem bump_last : ∀ (l : List Node) (a : Node), bump (l ++ [a]) l.length = l ++ [{ a with kids := a.kids + 1 }]
  | [], a => rfl
  | b :: l, a => by
    have := bump_last l a
    unfold bump at *
    simp only [List.cons_append, List.length_cons, List.modify_succ_cons, this]
theorem bumpN_last (l : List Node) : ∀ (n : Nat) (a : Node), bumpN (l ++ [a]) l.length n = l ++ [{ a with kids := a.kids + n }]
  | 0, a => by
    show l ++ [a] = _
    rw [show a.kids + ((0 : Nat) : Int) = a.kids by omega]
  | n + 1, a => by
    unfold bumpN
    rw [bump_last, bumpN_last l n]
    simp only
    rw [show a.kids + 1 + (n : Int) = a.kids + ((n + 1 : Nat) : Int) by omega]
theorem bumpN_app (i : Nat) : ∀ (k : Nat) (u v : List Node), i < u.length → bumpN (u ++ v) i k = bumpN u i k ++ v
  | 0, _, _, _ => rfl
  | k + 1, u, v, hu => by
    unfold bumpN
    rw [D5.bump_app _ _ _ hu, bumpN_app i k _ _ (by rw [D5.bump_len]; exact hu)]
/-- What reads elements of one depth. -/
def ElR (s : Bytes) (lim : Lim) (d : Nat) : Prop :=
  ∀ (x : St) (p : Nat) (l : List Node) (b : Bytes) (o : Bool) (t : Bytes) (e : Option Nat), El d l b o → x.taken = p → p ≤ s.length → s.drop p = b ++ t → ((x.out.length + l.length : Nat) : Int) ≤ lim.i → ((p + b.length : Nat) : Int) ≤ lim.b →
    (∀ v, e = some v → p + b.length ≤ v) → Reads x p l b o (R5.elem s lim d x p e)
theorem wrap_len (t : UInt8) (b : Bytes) : (wrap t b).length = 1 + (lenB b.length).length + b.length := by
  unfold wrap
  rw [List.length_cons, List.length_append]
  omega
theorem El.bytes {d : Nat} {l : List Node} {b : Bytes} {o : Bool} (h : El d l b o) : 2 ≤ b.length := by
  have w : ∀ t (b : Bytes), 2 ≤ (wrap t b).length := fun t b => by have := lenB_pos b.length; rw [wrap_len]; omega
  cases d with
  | zero => obtain ⟨a, _, _, _, rfl, _⟩ := h; exact w _ _
  | succ d =>
    rcases h with ⟨a, _, _, _, rfl, _⟩ | ⟨a, r, br, _, _, _, _, rfl⟩
    · exact w _ _
    · exact w _ _
theorem inside_reads {s : Bytes} {lim : Lim} {d : Nat} (hR : ElR s lim d) (tg me : Nat) (e : Nat) :
    ∀ (n : Nat) (last : Bytes) (l : List Node) (b : Bytes) (o : Bool) (x : St) (p m : Nat) (t : Bytes), Kids (El d) (tg == 49) n last l b o → x.taken = p → p ≤ s.length → s.drop p = b ++ t → ((x.out.length + l.length : Nat) : Int) ≤ lim.i → ((p + b.length : Nat) : Int) ≤ lim.b →
      e = p + b.length → e - p ≤ m → me < x.out.length →
      (match o with
        | false => R5.insideN s (fun x p => R5.elem s lim d x p (some e)) tg me e m x p last = (some e, { x with out := bumpN x.out me n ++ l, taken := e })
        | true => ∃ y, R5.insideN s (fun x p => R5.elem s lim d x p (some e)) tg me e m x p last = (none, y) ∧ y.err = 9) := by
  intro n
  induction n with
  | zero =>
    intro last l b o x p m t h ht hp hs hi hb he hm hme
    obtain ⟨rfl, rfl, rfl⟩ := h
    simp only [List.length_nil, Nat.add_zero] at he
    subst he
    have hx : ({ x with out := bumpN x.out me 0 ++ [], taken := e } : St) = x := by
      rw [← ht]
      show ({ x with out := x.out ++ [], taken := x.taken } : St) = x
      rw [List.append_nil]
    show R5.insideN s _ tg me e m x e last = _
    rw [hx]
    cases m with
    | zero => rfl
    | succ m => unfold R5.insideN; rw [if_neg (Nat.lt_irrefl e)]
  | succ n ih =>
    intro last l b o x p m t h ht hp hs hi hb he hm hme
    obtain ⟨lx, lr, bx, br, o1, o2, rfl, rfl, h1, h2, rfl⟩ := h
    simp only [List.length_append] at hi hb he
    have hbx := h1.bytes
    rw [List.append_assoc] at hs
    have hq := hR x p lx bx o1 (br ++ t) (some e) h1 ht hp hs (by omega) (by omega) (fun v hv => by simp only [Option.some.injEq] at hv; omega)
    cases m with
    | zero => omega
    | succ m =>
      unfold R5.insideN
      rw [if_pos (by omega)]
      cases o1 with
      | true =>
        obtain ⟨y, hy, hy9⟩ := hq
        simp only [Bool.true_or]
        rw [hy]
        exact ⟨y, rfl, hy9⟩
      | false =>
        have hq' : R5.elem s lim d x p (some e) = (some (p + bx.length), { x with out := x.out ++ lx, taken := p + bx.length }) := hq
        rw [hq']
        simp only [Bool.false_or]
        rw [drop_part hs]
        by_cases hk : (tg == 49 && Op.bytesLess bx last) = true
        · rw [if_pos hk, hk]
          exact ⟨_, rfl, rfl⟩
        · rw [if_neg hk]
          simp only [Bool.not_eq_true] at hk
          rw [hk, Bool.false_or]
          have hbu : bump (x.out ++ lx) me = bump x.out me ++ lx := D5.bump_app _ _ _ hme
          have := ih bx lr br o2 { x with out := bump (x.out ++ lx) me, taken := p + bx.length } (p + bx.length) m t h2 rfl (drop_len hs hp) (drop_app hs)
            (by simp only [D5.bump_len, List.length_append]; omega) (by omega) (by omega) (by omega) (by simp only [D5.bump_len, List.length_append]; omega)
          cases o2 with
          | true => exact this
          | false =>
            refine this.trans ?_
            simp only
            rw [hbu, bumpN_app me n _ _ (by rw [D5.bump_len]; exact hme), List.append_assoc]
            rfl
theorem leaf_inner {a : Node} (h : right a = true) : inner a.tag.toNat = !leaf a ∧ tagE a.tag.toNat = 0 ∧ (leaf a = true → R5.body a.tag.toNat a.body = true ∧ a.kids = -1) ∧ (leaf a = false → a.body = [] ∧ a.kids = (count a : Nat)) := by
  unfold right at h
  simp only [Bool.and_eq_true, decide_eq_true_eq, beq_iff_eq] at h
  obtain ⟨⟨⟨h1, h2⟩, h3⟩, h4⟩ := h
  refine ⟨h3, h1, fun hl => ?_, fun hl => ?_⟩
  · rw [if_pos hl] at h4
    unfold leaf at hl
    simp only [decide_eq_true_eq] at hl
    exact ⟨h4, by omega⟩
  · rw [hl, if_neg (by simp)] at h4
    unfold leaf at hl
    simp only [decide_eq_false_iff_not] at hl
    exact ⟨by simpa using h4, by unfold count; omega⟩
theorem leaf_reads {s t : Bytes} {lim : Lim} {x : St} {p : Nat} {a : Node} {e : Option Nat} (d : Nat) (hL : lim.b ≤ 262144) (h1 : right a = true) (h2 : leaf a = true) (ht : x.taken = p) (hp : p ≤ s.length) (hs : s.drop p = wrap a.tag a.body ++ t) (hi : ((x.out.length + 1 : Nat) : Int) ≤ lim.i)
    (hb : ((p + (wrap a.tag a.body).length : Nat) : Int) ≤ lim.b) (he : ∀ v, e = some v → p + (wrap a.tag a.body).length ≤ v) : Reads x p [a] (wrap a.tag a.body) false (R5.elem s lim d x p e) := by
  obtain ⟨g1, g2, g3, _⟩ := leaf_inner h1
  obtain ⟨g4, g5⟩ := g3 h2
  have hin : inner a.tag.toNat = false := by rw [g1, h2]; rfl
  have hlen := drop_len hs hp
  have hpart := drop_part hs
  rw [wrap_len] at hb he hlen
  have hs1 : s.drop p = a.tag :: (lenB a.body.length ++ (a.body ++ t)) := by rw [hs]; unfold wrap; rw [List.cons_append, List.append_assoc]
  obtain ⟨k1, k2, k3⟩ := drop_cons hs1
  have k4 := drop_app k3
  have hh := fun room => head_reads (room := room) (x := x) (lim := lim) (e := e) (show a.body.length < 4294967296 by omega) hs1 (by omega) ht (by omega) g2 (fun h => by rw [hin] at h; cases h) (fun v hv => by have := he v hv; omega)
  have hlf : R5.leaf s lim { x with taken := p + 1 + (lenB a.body.length).length } a.tag p (p + 1 + (lenB a.body.length).length) a.body.length = (some (p + (wrap a.tag a.body).length), { x with out := x.out ++ [a], taken := p + (wrap a.tag a.body).length }) := by
    have hw : (if a.body.length = 0 then (true, ({ x with taken := p + 1 + (lenB a.body.length).length } : St)) else R5.want s lim { x with taken := p + 1 + (lenB a.body.length).length } (p + 1 + (lenB a.body.length).length + a.body.length - 1)) = (true, { x with taken := p + (wrap a.tag a.body).length }) := by
      rw [wrap_len]
      by_cases h0 : a.body.length = 0
      · rw [if_pos h0, show p + (1 + (lenB a.body.length).length + a.body.length) = p + 1 + (lenB a.body.length).length by omega]
      · rw [if_neg h0, want_reads (by omega) (by omega) (by show p + 1 + (lenB a.body.length).length ≤ _; omega)]
        simp only
        rw [show p + 1 + (lenB a.body.length).length + a.body.length - 1 + 1 = p + (1 + (lenB a.body.length).length + a.body.length) by omega]
    unfold R5.leaf
    rw [hw]
    simp only
    rw [drop_part k4, if_pos g4, wrap_len, ← g5, show p + 1 + (lenB a.body.length).length + a.body.length = p + (1 + (lenB a.body.length).length + a.body.length) by omega]
  show _ = _
  cases d with
  | zero =>
    unfold R5.elem
    rw [hh false]
    simp only
    rw [k2, hlf]
  | succ d =>
    unfold R5.elem
    rw [hh true]
    simp only
    rw [k2, if_neg (by rw [hin]; simp), hlf]
theorem elem_reads (s : Bytes) (lim : Lim) (hL : lim.b ≤ 262144) : ∀ d, ElR s lim d := by
  intro d
  induction d with
  | zero =>
    intro x p l b o t e h ht hp hs hi hb he
    obtain ⟨a, rfl, h1, h2, rfl, rfl⟩ := h
    exact leaf_reads 0 hL h1 h2 ht hp hs hi hb he
  | succ d ih =>
    intro x p l b o t e h ht hp hs hi hb he
    rcases h with ⟨a, rfl, h1, h2, rfl, rfl⟩ | ⟨a, r, br, rfl, h1, h2, h3, rfl⟩
    · exact leaf_reads (d + 1) hL h1 h2 ht hp hs hi hb he
    · obtain ⟨g1, g2, _, g3⟩ := leaf_inner h1
      obtain ⟨g4, g5⟩ := g3 h2
      have hin : inner a.tag.toNat = true := by rw [g1, h2]; rfl
      have hlen := drop_len hs hp
      rw [wrap_len] at hb he hlen
      have hs1 : s.drop p = a.tag :: (lenB br.length ++ (br ++ t)) := by rw [hs]; unfold wrap; rw [List.cons_append, List.append_assoc]
      obtain ⟨k1, k2, k3⟩ := drop_cons hs1
      have k4 := drop_app k3
      simp only [List.length_cons] at hi
      have hh := head_reads (room := true) (x := x) (lim := lim) (e := e) (show br.length < 4294967296 by omega) hs1 (by omega) ht (by omega) g2 (fun _ => rfl) (fun v hv => by have := he v hv; omega)
      unfold R5.elem
      rw [hh]
      simp only
      rw [k2, if_pos hin]
      unfold R5.inside
      have hi2 := inside_reads ih a.tag.toNat x.out.length (p + 1 + (lenB br.length).length + br.length) (count a) [] r br o { x with out := x.out ++ [⟨a.tag, 0, []⟩], taken := p + 1 + (lenB br.length).length, frames := x.frames + 1 } (p + 1 + (lenB br.length).length)
        (p + 1 + (lenB br.length).length + br.length - (p + 1 + (lenB br.length).length)) t h3 rfl (by omega) k4 (by simp only [List.length_append, List.length_singleton]; omega) (by omega) rfl (Nat.le_refl _) (by simp only [List.length_append, List.length_singleton]; omega)
      cases o with
      | true =>
        obtain ⟨y, hy, hy9⟩ := hi2
        simp only at hy ⊢
        rw [hy]
        exact ⟨y, rfl, hy9⟩
      | false =>
        simp only at hi2 ⊢
        rw [hi2]
        show _ = _
        simp only
        have ha : (⟨a.tag, 0 + (count a : Nat), []⟩ : Node) = a := by
          rw [show (0 : Int) + (count a : Nat) = (count a : Nat) by omega, ← g5, ← g4]
        rw [bumpN_last, ha, wrap_len, List.append_assoc, show p + 1 + (lenB br.length).length + br.length = p + (1 + (lenB br.length).length + br.length) by omega]
        rfl
end Go.Px.E5
