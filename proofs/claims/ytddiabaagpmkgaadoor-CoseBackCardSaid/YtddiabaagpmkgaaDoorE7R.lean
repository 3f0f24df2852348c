/-
  What is told is read, and what is read is told (plain laws of layer 17). No program is named here.
-/
import Derived.Test.YtddiabaagpmkgaaDoorE7M
namespace Go.Px.E7
open R7 (St)

/-! Bytes at a place -/
theorem drop_cons {s t : Bytes} {p : Nat} {c : UInt8} (h : s.drop p = c :: t) : p < s.length ∧ s.getD p 0 = c ∧ s.drop (p + 1) = t := by
  have hp : p < s.length := by
    rcases Nat.lt_or_ge p s.length with h1 | h1
    · exact h1
    · rw [List.drop_eq_nil_of_le h1] at h; cases h
  rw [List.drop_eq_getElem_cons hp] at h
  simp only [List.cons.injEq] at h
  exact ⟨hp, by rw [List.getD_eq_getElem?_getD, List.getElem?_eq_getElem hp]; exact h.1, h.2⟩
theorem drop_app {s a t : Bytes} {p : Nat} (h : s.drop p = a ++ t) : s.drop (p + a.length) = t := by
  rw [← List.drop_drop, h, List.drop_left]
theorem drop_len {s a t : Bytes} {p : Nat} (h : s.drop p = a ++ t) (hp : p ≤ s.length) : p + a.length ≤ s.length := by
  have := congrArg List.length h
  simp only [List.length_drop, List.length_append] at this
  omega
theorem drop_part {s a t : Bytes} {p : Nat} (h : s.drop p = a ++ t) : (s.take (p + a.length)).drop p = a := by
  rw [List.drop_take, h, Nat.add_sub_cancel_left, List.take_left]
theorem take_split {s : Bytes} {p q r : Nat} (h1 : p ≤ q) (h2 : q ≤ r) : (s.take r).drop p = (s.take q).drop p ++ (s.take r).drop q := by
  have e : (s.take r).drop q = ((s.take r).drop p).drop (q - p) := by rw [List.drop_drop]; congr 1; omega
  have e2 : (s.take q).drop p = ((s.take r).drop p).take (q - p) := by
    rw [List.drop_take, List.drop_take, List.take_take]; congr 1; omega
  rw [e, e2, List.take_append_drop]
theorem drop_take_app {s : Bytes} {p q : Nat} (h : p ≤ q) (hq : q ≤ s.length) : s.drop p = (s.take q).drop p ++ s.drop q := by
  have := take_split (s := s) h hq
  rwa [List.take_length] at this

/-! Heads are read -/
theorem want_reads {s : Bytes} {lim : Lim} {x : St} {p : Nat} (h1 : p < s.length) (h2 : (p : Int) < lim.b) (ht : x.taken = p) : R7.want s lim x p = (true, { x with taken := p + 1 }) := by
  unfold R7.want
  rw [if_pos ⟨h1, h2⟩]
  unfold R7.take
  rw [ht, Nat.max_eq_right (Nat.le_succ p)]
theorem argN_reads (s : Bytes) (lim : Lim) (v : Nat) : ∀ (m : Nat) (x : St) (p n : Nat) (t : Bytes), s.drop p = R7.beBytes v m ++ t → ((p + m : Nat) : Int) ≤ lim.b → x.taken = p →
    R7.argN s lim m x p n = (some (n * 256 ^ m + v % 256 ^ m), { x with taken := p + m })
  | 0, x, p, n, t, _, _, ht => by
    unfold R7.argN
    rw [Nat.pow_zero, Nat.mod_one, Nat.mul_one, Nat.add_zero, Nat.add_zero, ← ht]
  | m + 1, x, p, n, t, h, hb, ht => by
    unfold R7.argN
    have h' : s.drop p = UInt8.ofNat (v / 256 ^ m) :: (R7.beBytes v m ++ t) := h
    obtain ⟨h1, h2, h3⟩ := drop_cons h'
    rw [want_reads h1 (by omega) ht]
    simp only
    rw [h2, argN_reads s lim v m _ (p + 1) _ t h3 (by omega) rfl]
    have e : (UInt8.ofNat (v / 256 ^ m)).toNat = v / 256 ^ m % 256 := by simp
    rw [e]
    have e2 : (n * 256 + v / 256 ^ m % 256) * 256 ^ m + v % 256 ^ m = n * 256 ^ (m + 1) + v % 256 ^ (m + 1) := by
      rw [Nat.pow_succ, Nat.mod_mul, Nat.add_mul, Nat.mul_assoc, Nat.mul_comm 256 (256 ^ m), Nat.mul_comm (v / 256 ^ m % 256)]
      omega
    rw [e2, show p + 1 + m = p + (m + 1) by omega]
theorem infoOf_lt (n : Nat) (h : n < 18446744073709551616) : n < 256 ^ (2 ^ R7.infoOf n) ∧ R7.infoOf n ≤ 3 := by
  unfold R7.infoOf
  by_cases h1 : n < 256
  · rw [if_pos h1]; exact ⟨h1, by omega⟩
  · rw [if_neg h1]
    by_cases h2 : n < 65536
    · rw [if_pos h2]; exact ⟨h2, by omega⟩
    · rw [if_neg h2]
      by_cases h3 : n < 4294967296
      · rw [if_pos h3]; exact ⟨h3, by omega⟩
      · rw [if_neg h3]; exact ⟨h, by omega⟩
theorem headB_size (k n : Nat) : (R7.headB k n).length = if n < 24 then 1 else 2 ^ R7.infoOf n + 1 := by
  unfold R7.headB
  split
  · rfl
  · rw [List.length_cons, R7.beBytes_len]
theorem head_reads {s t : Bytes} {lim : Lim} {x : St} {p k n : Nat} (hk : k < 8) (hn : n < 18446744073709551616) (h7 : k = 7 → 20 ≤ n ∧ n ≤ 23) (hs : s.drop p = R7.headB k n ++ t) (ht : x.taken = p) (ho : (x.out.length : Int) < lim.i) (hb : ((p + (R7.headB k n).length : Nat) : Int) ≤ lim.b) :
    R7.head s lim x p = (some (k, n, p + (R7.headB k n).length), { x with taken := p + (R7.headB k n).length }) := by
  have hl := headB_size k n
  by_cases h24 : n < 24
  · rw [if_pos h24] at hl
    rw [hl] at hb ⊢
    have e : R7.headB k n = [UInt8.ofNat (32 * k + n)] := by unfold R7.headB; rw [if_pos h24]
    rw [e] at hs
    obtain ⟨h1, h2, h3⟩ := drop_cons hs
    have hc : (s.getD p 0).toNat = 32 * k + n := by rw [h2, UInt8.toNat_ofNat']; omega
    unfold R7.head
    rw [want_reads h1 (by omega) ht]
    simp only
    rw [if_neg (show ¬ lim.i ≤ (x.out.length : Int) by omega), hc, show (32 * k + n) / 32 = k by omega, show (32 * k + n) % 32 = n by omega, if_neg (by omega), if_neg ?_, if_pos h24]
    intro h
    simp only [Bool.and_eq_true, beq_iff_eq, Bool.or_eq_true, decide_eq_true_eq] at h
    have := h7 h.1
    omega
  · rw [if_neg h24] at hl
    rw [hl] at hb ⊢
    have e : R7.headB k n = UInt8.ofNat (32 * k + 24 + R7.infoOf n) :: R7.beBytes n (2 ^ R7.infoOf n) := by unfold R7.headB; rw [if_neg h24]
    obtain ⟨i1, i2⟩ := infoOf_lt n hn
    rw [e, List.cons_append] at hs
    obtain ⟨h1, h2, h3⟩ := drop_cons hs
    have hc : (s.getD p 0).toNat = 32 * k + (24 + R7.infoOf n) := by rw [h2, UInt8.toNat_ofNat']; omega
    unfold R7.head
    rw [want_reads h1 (Int.lt_of_lt_of_le (Int.ofNat_lt.2 (Nat.lt_add_of_pos_right (Nat.succ_pos _))) hb) ht]
    simp only
    have hk7 : ¬ k = 7 := fun e7 => by have := h7 e7; omega
    rw [if_neg (show ¬ lim.i ≤ (x.out.length : Int) by omega), hc, show (32 * k + (24 + R7.infoOf n)) / 32 = k by omega, show (32 * k + (24 + R7.infoOf n)) % 32 = 24 + R7.infoOf n by omega, if_neg (by omega), if_neg (by simp [hk7]), if_neg (by omega),
      show 24 + R7.infoOf n - 24 = R7.infoOf n by omega, argN_reads s lim n (2 ^ R7.infoOf n) _ (p + 1) 0 t h3 (by rw [show p + 1 + 2 ^ R7.infoOf n = p + (2 ^ R7.infoOf n + 1) by omega]; exact hb) rfl]
    simp only
    rw [Nat.zero_mul, Nat.zero_add, Nat.mod_eq_of_lt i1, if_pos hl, show p + 1 + 2 ^ R7.infoOf n = p + (2 ^ R7.infoOf n + 1) by omega]
theorem wantN_reads (s : Bytes) (lim : Lim) : ∀ (m : Nat) (x : St) (p : Nat), p + m ≤ s.length → ((p + m : Nat) : Int) ≤ lim.b → x.taken = p → R7.wantN s lim m x p = (true, { x with taken := p + m })
  | 0, x, p, _, _, ht => by unfold R7.wantN; rw [Nat.add_zero, ← ht]
  | m + 1, x, p, h1, h2, ht => by
    unfold R7.wantN
    rw [want_reads (by omega) (by omega) ht]
    simp only
    rw [wantN_reads s lim m _ (p + 1) (by omega) (by omega) rfl, show p + 1 + m = p + (m + 1) by omega]

/-! Items are read -/
def Wf (l : List Atom) : Prop := ∀ a ∈ l, a.num < 18446744073709551616 ∧ a.text.length < 18446744073709551616
theorem Wf.left {a b : List Atom} (h : Wf (a ++ b)) : Wf a := fun x hx => h x (List.mem_append_left _ hx)
theorem Wf.right {a b : List Atom} (h : Wf (a ++ b)) : Wf b := fun x hx => h x (List.mem_append_right _ hx)
theorem encB_app (a b : List Atom) : encB (a ++ b) = encB a ++ encB b := List.flatMap_append
theorem encB_cons (a : Atom) (b : List Atom) : encB (a :: b) = atomB a ++ encB b := List.flatMap_cons
def Reads (x : St) (p : Nat) (l : List Atom) (o : Bool) (res : Option Nat × St) : Prop :=
  if o then ∃ y, res = (none, y) ∧ y.err = 9 else res = (some (p + (encB l).length), { x with out := x.out ++ l, taken := p + (encB l).length })
theorem Reads.bad {x y : St} {p : Nat} {l : List Atom} (h : y.err = 9) : Reads x p l true (none, y) := ⟨y, rfl, h⟩
theorem Reads.ok {x : St} {p : Nat} {l : List Atom} {res : Option Nat × St} (h : Reads x p l false res) : res = (some (p + (encB l).length), { x with out := x.out ++ l, taken := p + (encB l).length }) := h
theorem Reads.no {x : St} {p : Nat} {l : List Atom} {res : Option Nat × St} (h : Reads x p l true res) : ∃ y, res = (none, y) ∧ y.err = 9 := h

def ItemR (s : Bytes) (lim : Lim) (d : Nat) (rc : St → Nat → Option Nat × St) : Prop :=
  ∀ (x : St) (p : Nat) (l : List Atom) (o : Bool) (t : Bytes), ItF d l o → Wf l → x.taken = p → p ≤ s.length → s.drop p = encB l ++ t → ((x.out.length + l.length : Nat) : Int) ≤ lim.i → ((p + (encB l).length : Nat) : Int) ≤ lim.b → Reads x p l o (rc x p)
theorem items_reads {s : Bytes} {lim : Lim} {d : Nat} {rc : St → Nat → Option Nat × St} (hR : ItemR s lim d rc) :
    ∀ (m i : Nat) (last : Bytes) (x : St) (p : Nat) (l : List Atom) (o : Bool) (t : Bytes), Kids (ItF d) false m i last l o → Wf l → x.taken = p → p ≤ s.length → s.drop p = encB l ++ t → ((x.out.length + l.length : Nat) : Int) ≤ lim.i → ((p + (encB l).length : Nat) : Int) ≤ lim.b → Reads x p l o (R7.itemsN rc m x p) := by
  intro m
  induction m with
  | zero =>
    intro i last x p l o t h _ ht _ _ _ _
    obtain ⟨rfl, rfl⟩ := h
    unfold R7.itemsN
    show _ = _
    rw [List.append_nil]
    show (some p, x) = (some (p + 0), { x with taken := p + 0 })
    rw [Nat.add_zero, ← ht]
  | succ m ih =>
    intro i last x p l o t ⟨a, r, o1, o2, e, h1, h2, h3⟩ hw ht hp hs hi hb
    subst e
    simp only [Bool.false_and, Bool.or_false] at h3
    rw [encB_app, List.append_assoc] at hs
    have hlen : (encB (a ++ r)).length = (encB a).length + (encB r).length := by rw [encB_app, List.length_append]
    rw [hlen] at hb
    rw [List.length_append] at hi
    have hr := hR x p a o1 (encB r ++ t) h1 hw.left ht hp hs (by omega) (by omega)
    unfold R7.itemsN
    cases o1 with
    | true =>
      obtain ⟨y, e1, e2⟩ := hr.no
      rw [e1, h3]
      exact Reads.bad e2
    | false =>
      rw [hr.ok]
      simp only [Bool.false_or] at h3
      subst h3
      simp only
      have hk := ih (i + 1) _ { x with out := x.out ++ a, taken := p + (encB a).length } (p + (encB a).length) r o t h2 hw.right rfl (drop_len hs hp) (drop_app hs) (by simp only [List.length_append]; omega) (by omega)
      cases o with
      | true => exact hk
      | false =>
        have := hk.ok
        show R7.itemsN rc m _ _ = _
        rw [this, hlen]
        simp only [List.append_assoc, Nat.add_assoc]
theorem pairs_reads {s : Bytes} {lim : Lim} {d : Nat} {rc : St → Nat → Option Nat × St} (hR : ItemR s lim d rc) :
    ∀ (m i : Nat) (last : Bytes) (x : St) (p : Nat) (l : List Atom) (o : Bool) (t : Bytes), Kids (ItF d) true (2 * m) i last l o → i % 2 = 0 → Wf l → x.taken = p → p ≤ s.length → s.drop p = encB l ++ t → ((x.out.length + l.length : Nat) : Int) ≤ lim.i → ((p + (encB l).length : Nat) : Int) ≤ lim.b → Reads x p l o (R7.pairsN s rc m (if i = 0 then none else some last) x p) := by
  intro m
  induction m with
  | zero =>
    intro i last x p l o t h _ _ ht _ _ _ _
    obtain ⟨rfl, rfl⟩ := h
    unfold R7.pairsN
    show _ = _
    rw [List.append_nil]
    show (some p, x) = (some (p + 0), { x with taken := p + 0 })
    rw [Nat.add_zero, ← ht]
  | succ m ih =>
    intro i last x p l o t h hi0 hw ht hp hs hi hb
    rw [show 2 * (m + 1) = 2 * m + 1 + 1 by omega] at h
    obtain ⟨a, r', o1, o2, e, h1, ⟨c, r, o3, o4, e', h4, h5, h6⟩, h3⟩ := h
    subst e'
    subst e
    have hk0 : (true && i % 2 == 0) = true := by simp [hi0]
    have hk1 : (true && (i + 1) % 2 == 0) = false := by simp; omega
    rw [hk0] at h3
    simp only [hk0, hk1, if_true, Bool.false_eq_true, if_false, Bool.false_and, Bool.or_false, Bool.true_and] at h3 h4 h5 h6
    rw [encB_app, encB_app, List.append_assoc, List.append_assoc] at hs
    have hlen : (encB (a ++ (c ++ r))).length = (encB a).length + ((encB c).length + (encB r).length) := by rw [encB_app, encB_app, List.length_append, List.length_append]
    rw [hlen] at hb
    simp only [List.length_append] at hi
    have hr := hR x p a o1 (encB c ++ (encB r ++ t)) h1 hw.left ht hp hs (by omega) (by omega)
    unfold R7.pairsN
    cases o1 with
    | true =>
      obtain ⟨y, e1, e2⟩ := hr.no
      rw [e1, h3]
      exact Reads.bad e2
    | false =>
      rw [hr.ok]
      simp only [Bool.false_or] at h3
      simp only
      rw [drop_part hs]
      have hany : ((if i = 0 then none else some last : Option Bytes).any fun l => leB (encB a) l) = (decide (0 < i) && leB (encB a) last) := by
        by_cases h0 : i = 0
        · rw [if_pos h0, h0]; rfl
        · rw [if_neg h0, decide_eq_true (by omega : 0 < i)]; rfl
      rw [hany]
      cases hb2 : (decide (0 < i) && leB (encB a) last) with
      | true =>
        rw [hb2] at h3
        rw [if_pos rfl, h3]
        exact Reads.bad rfl
      | false =>
        rw [hb2, Bool.false_or] at h3
        rw [if_neg (by simp)]
        have hs2 := drop_app hs
        have hp2 := drop_len hs hp
        have hr2 := hR { x with out := x.out ++ a, taken := p + (encB a).length } (p + (encB a).length) c o3 (encB r ++ t) h4 hw.right.left rfl hp2 hs2 (by simp only [List.length_append]; omega) (by omega)
        cases o3 with
        | true =>
          obtain ⟨y, e1, e2⟩ := hr2.no
          rw [e1, h3, h6]
          exact Reads.bad e2
        | false =>
          rw [hr2.ok]
          simp only [Bool.false_or] at h6
          rw [h6] at h3
          subst h3
          simp only
          have hk := ih (i + 2) (encB a) { x with out := x.out ++ a ++ c, taken := p + (encB a).length + (encB c).length } (p + (encB a).length + (encB c).length) r o t h5 (by omega) hw.right.right rfl (drop_len hs2 hp2) (drop_app hs2) (by simp only [List.length_append]; omega) (by omega)
          rw [if_neg (by omega)] at hk
          cases o with
          | true => exact hk
          | false =>
            have := hk.ok
            show R7.pairsN s rc m _ _ _ = _
            rw [this, hlen]
            simp only [List.append_assoc, Nat.add_assoc]
theorem right_kind {a : Atom} (h : right a = true) : ∃ k : Nat, a.kind = k ∧ k < 8 := by
  unfold right at h
  by_cases h2 : (a.kind == 2) = true
  · exact ⟨2, by have := beq_iff_eq.1 h2; omega, by omega⟩
  · rw [if_neg h2] at h
    by_cases h3 : (a.kind == 3) = true
    · exact ⟨3, by have := beq_iff_eq.1 h3; omega, by omega⟩
    · rw [if_neg h3] at h
      by_cases h7 : (a.kind == 7) = true
      · exact ⟨7, by have := beq_iff_eq.1 h7; omega, by omega⟩
      · rw [if_neg h7] at h
        by_cases h0 : (a.kind == 0 || a.kind == 1 || a.kind == 4 || a.kind == 5 || a.kind == 6) = true
        · simp only [Bool.or_eq_true, beq_iff_eq] at h0
          exact ⟨a.kind.toNat, by omega, by omega⟩
        · rw [if_neg h0] at h; cases h
/-- What a right item looks like. -/
theorem right_cases {a : Atom} (h : right a = true) : ∃ k : Nat, a.kind = k ∧ k < 8 ∧ ((k = 2 ∧ a.num = 0) ∨ (k = 3 ∧ a.num = 0 ∧ Lib.validD a.text = true) ∨ (k ≠ 2 ∧ k ≠ 3 ∧ a.text = [] ∧ (k = 7 → 20 ≤ a.num ∧ a.num ≤ 23))) := by
  obtain ⟨k, hk, h8⟩ := right_kind h
  refine ⟨k, hk, h8, ?_⟩
  unfold right at h
  rw [hk] at h
  by_cases h2 : k = 2
  · subst h2; exact .inl ⟨rfl, by simpa using h⟩
  · by_cases h3 : k = 3
    · subst h3; exact .inr (.inl ⟨rfl, by simpa using h⟩)
    · refine .inr (.inr ⟨h2, h3, ?_⟩)
      have e2 : ((k : Int) == 2) = false := by simp; omega
      have e3 : ((k : Int) == 3) = false := by simp; omega
      rw [e2, e3] at h
      simp only [Bool.false_eq_true, if_false] at h
      by_cases h7 : k = 7
      · subst h7
        simp at h
        exact ⟨h.1, fun _ => h.2⟩
      · have e7 : ((k : Int) == 7) = false := by simp; omega
        rw [e7] at h
        simp only [Bool.false_eq_true, if_false] at h
        split at h
        · exact ⟨by simpa using h, fun e => absurd e h7⟩
        · cases h
theorem leaf_kind {a : Atom} {k : Nat} (hk : a.kind = k) : leaf a = !(k == 4 || k == 5 || k == 6) := by
  unfold leaf
  rw [hk]
  have e : ∀ m : Nat, ((k : Int) == (m : Int)) = (k == m) := fun m => by
    rw [Bool.eq_iff_iff]; simp only [beq_iff_eq]; omega
  have e4 : ((k : Int) == 4) = (k == 4) := e 4
  have e5 : ((k : Int) == 5) = (k == 5) := e 5
  have e6 : ((k : Int) == 6) = (k == 6) := e 6
  rw [e4, e5, e6]
theorem text_reads {s t : Bytes} {lim : Lim} {x : St} {p : Nat} {a : Atom} {k : Nat} (hk : a.kind = k) (hk2 : k = 2 ∨ k = 3) (hn : a.num = 0) (hv : k = 3 → Lib.validD a.text = true) (hs : s.drop p = encB [a] ++ t) (hp : p ≤ s.length) (hb : ((p + (encB [a]).length : Nat) : Int) ≤ lim.b) :
    R7.textN s lim k a.text.length { x with taken := p + (R7.headB k a.text.length).length } p (p + (R7.headB k a.text.length).length) = (some (p + (encB [a]).length), { x with out := x.out ++ [a], taken := p + (encB [a]).length }) := by
  have hk' : (a.kind == 2 || a.kind == 3) = true := by rw [hk]; rcases hk2 with rfl | rfl <;> rfl
  have e : encB [a] = R7.headB k a.text.length ++ a.text := by
    show (atomB a ++ []) = _
    rw [List.append_nil]
    unfold atomB
    rw [if_pos hk', hk]
    rfl
  rw [e] at hs hb ⊢
  rw [List.append_assoc] at hs
  have h1 := drop_app hs
  have h2 := drop_len hs hp
  have h3 := drop_len h1 h2
  simp only [List.length_append] at hb ⊢
  unfold R7.textN
  rw [wantN_reads s lim a.text.length _ _ h3 (by omega) rfl]
  simp only
  rw [drop_part h1]
  have hva : ¬ ((k == 3 && !Lib.validD a.text) = true) := by
    intro hc
    simp only [Bool.and_eq_true, beq_iff_eq] at hc
    rw [hv hc.1] at hc
    simp at hc
  rw [if_neg hva]
  have ea : (⟨k, 0, a.text⟩ : Atom) = a := by rw [← hk, ← hn]
  rw [ea, Nat.add_assoc]
theorem plain_enc {a : Atom} {k : Nat} (hk : a.kind = k) (h2 : k ≠ 2) (h3 : k ≠ 3) (ht : a.text = []) : atomB a = R7.headB k a.num := by
  unfold atomB
  have e2 : (a.kind == 2) = false := by rw [hk]; simp; omega
  have e3 : (a.kind == 3) = false := by rw [hk]; simp; omega
  rw [e2, e3, ht, hk, List.append_nil]
  rfl
theorem atom_eta {a : Atom} {k : Nat} (hk : a.kind = k) (ht : a.text = []) : (⟨k, a.num, []⟩ : Atom) = a := by rw [← hk, ← ht]
theorem leaf_reads {s t : Bytes} {lim : Lim} {x : St} {p : Nat} {a : Atom} (d : Nat) (h1 : right a = true) (h2 : leaf a = true) (hw : Wf [a]) (ht : x.taken = p) (hp : p ≤ s.length) (hs : s.drop p = encB [a] ++ t) (hi : ((x.out.length + 1 : Nat) : Int) ≤ lim.i) (hb : ((p + (encB [a]).length : Nat) : Int) ≤ lim.b) :
    R7.item s lim d x p = (some (p + (encB [a]).length), { x with out := x.out ++ [a], taken := p + (encB [a]).length }) := by
  obtain ⟨k, hk, h8, hc⟩ := right_cases h1
  rw [leaf_kind hk] at h2
  obtain ⟨w1, w2⟩ := hw a (by simp)
  have hun : ∀ r, R7.head s lim x p = r → R7.item s lim d x p = (match r with
    | (none, y) => (none, y)
    | (some (k, n, at_), y) => if k == 2 || k == 3 then R7.textN s lim k n y p at_ else if k == 4 || k == 5 || k == 6 then (match d with | 0 => (none, R7.fault y p 10) | d + 1 => R7.holdN s (R7.item s lim d) k n y at_) else (some at_, { y with out := y.out ++ [⟨k, n, []⟩] })) := by
    intro r e
    cases d <;> (unfold R7.item; rw [e]; try rfl)
  have fin : k ≠ 2 → k ≠ 3 → a.text = [] → (k = 7 → 20 ≤ a.num ∧ a.num ≤ 23) → R7.item s lim d x p = (some (p + (encB [a]).length), { x with out := x.out ++ [a], taken := p + (encB [a]).length }) := by
    intro n2 n3 ht0 h7
    have e : encB [a] = R7.headB k a.num := by show (atomB a ++ []) = _; rw [List.append_nil]; exact plain_enc hk n2 n3 ht0
    rw [e] at hs hb ⊢
    rw [hun _ (head_reads h8 w1 h7 hs ht (by omega) hb)]
    simp only
    rw [if_neg (by simp; omega), if_neg (by simpa using h2), atom_eta hk ht0]
  have txt : (k = 2 ∨ k = 3) → a.num = 0 → (k = 3 → Lib.validD a.text = true) → R7.item s lim d x p = (some (p + (encB [a]).length), { x with out := x.out ++ [a], taken := p + (encB [a]).length }) := by
    intro hk2 hn hv
    have e : encB [a] = R7.headB k a.text.length ++ a.text := by
      show (atomB a ++ []) = _
      rw [List.append_nil]
      unfold atomB
      rw [if_pos (by rw [hk]; rcases hk2 with rfl | rfl <;> rfl), hk]
      rfl
    have hs' := hs
    have hb' := hb
    rw [e, List.append_assoc] at hs'
    rw [e, List.length_append] at hb'
    rw [hun _ (head_reads h8 w2 (by omega) hs' ht (by omega) (by omega))]
    simp only
    rw [if_pos (by rcases hk2 with rfl | rfl <;> rfl)]
    exact text_reads hk hk2 hn hv hs hp hb
  rcases hc with ⟨rfl, hn⟩ | ⟨rfl, hn, hv⟩ | ⟨n2, n3, ht0, h7⟩
  · exact txt (.inl rfl) hn (by omega)
  · exact txt (.inr rfl) hn (fun _ => hv)
  · exact fin n2 n3 ht0 h7
theorem item_reads (s : Bytes) (lim : Lim) : ∀ d, ItemR s lim d (R7.item s lim d) := by
  intro d
  induction d with
  | zero =>
    intro x p l o t h hw ht hp hs hi hb
    obtain ⟨a, rfl, h1, h2, rfl⟩ := h
    exact leaf_reads 0 h1 h2 hw ht hp hs hi hb
  | succ d ih =>
    intro x p l o t h hw ht hp hs hi hb
    rcases h with ⟨a, rfl, h1, h2, rfl⟩ | ⟨a, r, rfl, h1, h2, h3⟩
    · exact leaf_reads (d + 1) h1 h2 hw ht hp hs hi hb
    · obtain ⟨k, hk, h8, hc⟩ := right_cases h1
      rw [leaf_kind hk] at h2
      have h456 : k = 4 ∨ k = 5 ∨ k = 6 := by
        simp only [Bool.not_eq_false', Bool.or_eq_true, beq_iff_eq] at h2
        omega
      have h2' : (k == 4 || k == 5 || k == 6) = true := by rcases h456 with rfl | rfl | rfl <;> rfl
      have ht0 : a.text = [] := by
        rcases hc with ⟨e, _⟩ | ⟨e, _⟩ | ⟨_, _, e, _⟩
        · omega
        · omega
        · exact e
      obtain ⟨w1, w2⟩ := hw a (by simp)
      have hwr : Wf r := fun b hb => hw b (by simp [hb])
      have ea := plain_enc hk (by omega) (by omega) ht0
      rw [encB_cons, ea, List.append_assoc] at hs
      have hlen : (encB (a :: r)).length = (R7.headB k a.num).length + (encB r).length := by rw [encB_cons, ea, List.length_append]
      rw [hlen] at hb
      simp only [List.length_cons] at hi
      have hh := head_reads (lim := lim) h8 w1 (by omega) hs ht (by omega) (by omega)
      unfold R7.item
      rw [hh]
      simp only
      rw [if_neg (by simp; omega), if_pos h2']
      unfold R7.holdN
      simp only
      rw [atom_eta hk ht0]
      have hs2 := drop_app hs
      have hp2 := drop_len hs hp
      have fin : ∀ res : Option Nat × St, Reads { x with out := x.out ++ [a], taken := p + (R7.headB k a.num).length, frames := x.frames + 1 } (p + (R7.headB k a.num).length) r o res →
          Reads x p (a :: r) o (match res with | (some q, z) => (some q, { z with frames := z.frames - 1 }) | (none, z) => (none, z)) := by
        intro res hr
        cases o with
        | true =>
          obtain ⟨y, rfl, hy⟩ := hr.no
          exact Reads.bad hy
        | false =>
          rw [hr.ok]
          show _ = _
          rw [hlen]
          simp only [List.append_assoc, List.singleton_append, Nat.add_assoc, Nat.add_sub_cancel]
      have hi' : ((({ x with out := x.out ++ [a], taken := p + (R7.headB k a.num).length, frames := x.frames + 1 } : St).out.length + r.length : Nat) : Int) ≤ lim.i := by
        simp only [List.length_append, List.length_singleton]
        omega
      rcases h456 with rfl | rfl | rfl
      · have hm : (a.kind == 5) = false := by rw [hk]; rfl
        have hcn : count a = a.num := by unfold count; rw [hk]; rfl
        rw [hm, hcn] at h3
        rw [if_pos (by rfl)]
        exact fin _ (items_reads ih a.num 0 [] _ _ r o t h3 hwr rfl hp2 hs2 hi' (by omega))
      · have hm : (a.kind == 5) = true := by rw [hk]; rfl
        have hcn : count a = 2 * a.num := by unfold count; rw [hk]; rfl
        rw [hm, hcn] at h3
        rw [if_neg (by simp), if_pos (by rfl)]
        exact fin _ (pairs_reads ih a.num 0 [] _ _ r o t h3 rfl hwr rfl hp2 hs2 hi' (by omega))
      · have hm : (a.kind == 5) = false := by rw [hk]; rfl
        have hcn : count a = 1 := by unfold count; rw [hk]; rfl
        rw [hm, hcn] at h3
        rw [if_neg (by simp), if_neg (by simp)]
        have := items_reads ih 1 0 [] { x with out := x.out ++ [a], taken := p + (R7.headB 6 a.num).length, frames := x.frames + 1 } (p + (R7.headB 6 a.num).length) r o t h3 hwr rfl hp2 hs2 hi' (by omega)
        rw [R7.itemsN_one] at this
        exact fin _ this
end Go.Px.E7
