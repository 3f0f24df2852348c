/-
  Telling in parts: the sizes from behind, the bytes node by node (plain laws of layer 15). No program is named here.
-/
import Derived.Test.YtceffhkgnifmeaaDoorE5E
namespace Go.Px.E5

/-- How many bytes tag and length take. -/
def headN (n : Nat) : Nat := 1 + (lenB n).length
/-- How many digits a number has. -/
def dgN : Nat → Nat → Nat
  | 0, _ => 0
  | m + 1, n => if n = 0 then 0 else 1 + dgN m (n / 256)
theorem beN_dg : ∀ (m n : Nat) (s : Bytes), (beN m n s).length = s.length + dgN m n
  | 0, n, s => rfl
  | m + 1, n, s => by
    unfold beN dgN
    by_cases h : n = 0
    · rw [if_pos h, if_pos h]; rfl
    · rw [if_neg h, if_neg h, beN_dg m]
      simp only [List.length_cons]
      omega
theorem dgN_le : ∀ (m n : Nat), dgN m n ≤ m
  | 0, _ => Nat.le_refl _
  | m + 1, n => by
    unfold dgN
    split
    · omega
    · have := dgN_le m (n / 256); omega
theorem dgN_more : ∀ (m n : Nat), n < 256 ^ m → dgN (m + 1) n = dgN m n
  | 0, n, h => by
    have : n = 0 := by simpa using h
    subst this
    rfl
  | m + 1, n, h => by
    conv => lhs; unfold dgN
    conv => rhs; unfold dgN
    by_cases h0 : n = 0
    · rw [if_pos h0, if_pos h0]
    · rw [if_neg h0, if_neg h0, dgN_more m (n / 256) (by rw [Nat.pow_succ] at h; omega)]
theorem lenB_length (n : Nat) : (lenB n).length = if n < 128 then 1 else 1 + dgN 8 n := by
  unfold lenB
  by_cases h : n < 128
  · rw [if_pos h, if_pos h]; rfl
  · rw [if_neg h, if_neg h, List.length_cons, beN_dg]
    simp only [List.length_nil]
    omega
theorem lenB_le (n : Nat) : (lenB n).length ≤ 9 := by
  rw [lenB_length]
  have := dgN_le 8 n
  split <;> omega
/-- The digits, the greatest first. -/
def beD : Nat → Nat → Bytes
  | 0, _ => []
  | w + 1, n => UInt8.ofNat (n / 256 ^ w % 256) :: beD w n
theorem beD_last : ∀ (w n : Nat), beD (w + 1) n = beD w (n / 256) ++ [UInt8.ofNat (n % 256)]
  | 0, n => by simp [beD]
  | w + 1, n => by
    rw [show beD (w + 1 + 1) n = UInt8.ofNat (n / 256 ^ (w + 1) % 256) :: beD (w + 1) n from rfl, beD_last w n]
    rw [show beD (w + 1) (n / 256) = UInt8.ofNat (n / 256 / 256 ^ w % 256) :: beD w (n / 256) from rfl, List.cons_append, Nat.div_div_eq_div_mul, Nat.pow_succ, Nat.mul_comm]
theorem beN_beD : ∀ (m n : Nat) (s : Bytes), beN m n s = beD (dgN m n) n ++ s
  | 0, n, s => rfl
  | m + 1, n, s => by
    unfold beN dgN
    by_cases h : n = 0
    · rw [if_pos h, if_pos h]; rfl
    · rw [if_neg h, if_neg h, beN_beD m, Nat.add_comm 1, beD_last, List.append_assoc]
      rfl
/-- Sizes of bodies, and of whole elements that wait, from behind. -/
def szR : List Node → List Nat × List Nat
  | [] => ([], [])
  | a :: r => ((a.body.length + ((szR r).2.take (count a)).sum) :: (szR r).1, (a.body.length + ((szR r).2.take (count a)).sum + headN (a.body.length + ((szR r).2.take (count a)).sum)) :: (szR r).2.drop (count a))
def emit : List Node → List Nat → Bytes
  | a :: r, k :: ks => (a.tag :: (lenB k ++ a.body)) ++ emit r ks
  | _, _ => []
theorem szR_cons (a : Node) (r : List Node) : szR (a :: r) = ((a.body.length + ((szR r).2.take (count a)).sum) :: (szR r).1, (a.body.length + ((szR r).2.take (count a)).sum + headN (a.body.length + ((szR r).2.take (count a)).sum)) :: (szR r).2.drop (count a)) := rfl
theorem emit_cons (a : Node) (r : List Node) (k : Nat) (ks : List Nat) : emit (a :: r) (k :: ks) = (a.tag :: (lenB k ++ a.body)) ++ emit r ks := rfl
theorem szR_len : ∀ (l : List Node), (szR l).1.length = l.length
  | [] => rfl
  | a :: r => by simp [szR, szR_len r]
theorem wrap_size (t : UInt8) (b : Bytes) : (wrap t b).length = b.length + headN b.length := by
  unfold wrap headN
  simp only [List.length_cons, List.length_append]
  omega
theorem count_leaf {a : Node} (h : leaf a = true) : count a = 0 := by
  unfold leaf at h
  unfold count
  simp only [decide_eq_true_eq] at h
  omega
structure Em (x : List Node) (b : Bytes) (v : List Nat) (r : List Node) (u : List Nat) : Prop where
  one : (szR (x ++ r)).1 = u ++ (szR r).1
  two : (szR (x ++ r)).2 = v ++ (szR r).2
  len : u.length = x.length
  sum : v.sum = b.length
  le : ∀ n ∈ u, n ≤ b.length
  em : ∀ ks, emit (x ++ r) (u ++ ks) = b ++ emit r ks
  cnt : ∀ p a t, x = p ++ a :: t → count a ≤ (szR (t ++ r)).2.length
  lo : (x.map (fun a => a.body.length)).sum ≤ b.length
  hi : b.length ≤ (x.map (fun a => a.body.length)).sum + 10 * x.length
theorem em_one {a : Node} (h2 : leaf a = true) (r : List Node) : Em [a] (wrap a.tag a.body) [(wrap a.tag a.body).length] r [a.body.length] := by
  have hc := count_leaf h2
  refine ⟨?_, ?_, rfl, by simp, ?_, ?_, ?_, ?_, ?_⟩
  · simp [szR, hc]
  · simp [szR, hc, wrap_size]
  · intro n hn
    rw [List.mem_singleton.1 hn, wrap_size]
    omega
  · intro ks
    simp [emit, wrap]
  · intro p a' t e
    cases p with
    | nil => simp only [List.nil_append, List.cons.injEq] at e; rw [← e.1, hc]; omega
    | cons c p => simp only [List.cons_append, List.cons.injEq] at e; have := congrArg List.length e.2; simp at this
  · rw [wrap_size]; simp
  · rw [wrap_size]
    have := lenB_le a.body.length
    unfold headN
    simp only [List.map_cons, List.map_nil, List.sum_cons, List.sum_nil, List.length_cons, List.length_nil]
    omega
theorem em_kids {R : List Node → Bytes → Bool → Prop} (hR : ∀ x b o, R x b o → ∀ r, ∃ u, Em x b [b.length] r u) (set : Bool) : ∀ (m : Nat) (last : Bytes) (l : List Node) (b : Bytes) (o : Bool), Kids R set m last l b o → ∀ r, ∃ u v, Em l b v r u ∧ v.length = m
  | 0, last, l, b, o, ⟨h1, h2, h3⟩, r => by
    subst h1 h2
    exact ⟨[], [], ⟨rfl, rfl, rfl, rfl, nofun, fun _ => rfl, fun p a t e => by have := congrArg List.length e; simp at this, Nat.le_refl _, Nat.le_refl _⟩, rfl⟩
  | m + 1, last, l, b, o, ⟨x, t, bx, bt, o1, o2, h1, h2, h3, h4, h5⟩, r => by
    subst h1 h2
    obtain ⟨u2, v2, g, gl⟩ := em_kids hR set m _ _ _ _ h4 r
    obtain ⟨u1, f⟩ := hR _ _ _ h3 (t ++ r)
    refine ⟨u1 ++ u2, bx.length :: v2, ⟨?_, ?_, ?_, ?_, ?_, ?_, ?_, ?_, ?_⟩, by simp [gl]⟩
    · rw [List.append_assoc, f.one, g.one, List.append_assoc]
    · rw [List.append_assoc, f.two, g.two]; rfl
    · rw [List.length_append, List.length_append, f.len, g.len]
    · rw [List.sum_cons, g.sum, List.length_append]
    · intro n hn
      rw [List.length_append]
      rcases List.mem_append.1 hn with hn | hn
      · have := f.le n hn; omega
      · have := g.le n hn; omega
    · intro ks
      rw [List.append_assoc, List.append_assoc, f.em, g.em, List.append_assoc]
    · intro p a q e
      rcases List.append_eq_append_iff.1 e with ⟨as, h1, h2⟩ | ⟨bs, h1, h2⟩
      · exact g.cnt as a q h2
      · cases bs with
        | nil =>
          simp only [List.nil_append] at h2
          exact g.cnt [] a q h2.symm
        | cons c bs =>
          simp only [List.cons_append, List.cons.injEq] at h2
          obtain ⟨rfl, h3⟩ := h2
          subst h3
          have := f.cnt p a bs h1
          rw [List.append_assoc]
          exact this
    · have := f.lo
      have := g.lo
      rw [List.map_append, List.sum_append, List.length_append]
      omega
    · have := f.hi
      have := g.hi
      rw [List.map_append, List.sum_append, List.length_append, List.length_append]
      omega
theorem El.em : ∀ (d : Nat) (x : List Node) (b : Bytes) (o : Bool), El d x b o → ∀ r, ∃ u, Em x b [b.length] r u := by
  have one : ∀ (a : Node) (b : Bytes), leaf a = true → b = wrap a.tag a.body → ∀ r, ∃ u, Em [a] b [b.length] r u := fun a b h e r => by
    subst e
    exact ⟨_, em_one h r⟩
  intro d
  induction d with
  | zero =>
    intro x b o ⟨a, h1, h2, h3, h4, h5⟩ r
    subst h1
    exact one a b h3 h4 r
  | succ d ih =>
    intro x b o h r
    rcases h with ⟨a, h1, h2, h3, h4, h5⟩ | ⟨a, t, bt, h1, h2, h3, h4, h5⟩
    · subst h1
      exact one a b h3 h4 r
    · subst h1 h5
      obtain ⟨u, v, g, gl⟩ := em_kids ih _ _ _ _ _ _ h4 r
      have hbd : a.body = [] := (leaf_inner h2).2.2.2 h3 |>.1
      have hn : a.body.length + ((szR (t ++ r)).2.take (count a)).sum = bt.length := by
        rw [hbd, g.two, ← gl, List.take_left, g.sum]
        simp
      refine ⟨bt.length :: u, ⟨?_, ?_, ?_, by simp, ?_, ?_, ?_, ?_, ?_⟩⟩
      · rw [List.cons_append, szR_cons, hn, List.cons_append, ← g.one]
      · rw [List.cons_append, szR_cons, hn, wrap_size, g.two, ← gl, List.drop_left]
        rfl
      · simp [g.len]
      · intro n hn2
        rw [wrap_size]
        rcases List.mem_cons.1 hn2 with rfl | hn2
        · omega
        · have := g.le n hn2; omega
      · intro ks
        rw [List.cons_append, List.cons_append, emit_cons, g.em, hbd]
        simp [wrap]
      · intro p c q e
        cases p with
        | nil =>
          simp only [List.nil_append, List.cons.injEq] at e
          rw [← e.1, ← e.2, g.two, List.length_append]
          omega
        | cons c' p =>
          simp only [List.cons_append, List.cons.injEq] at e
          exact g.cnt p c q e.2
      · rw [wrap_size]
        have := g.lo
        simp only [List.map_cons, List.sum_cons]
        rw [hbd]
        simp only [List.length_nil]
        omega
      · rw [wrap_size]
        have := g.hi
        have := lenB_le bt.length
        unfold headN
        simp only [List.map_cons, List.sum_cons, List.length_cons]
        omega
/-- Of one whole list. -/
theorem El.whole {d : Nat} {l : List Node} {b : Bytes} {o : Bool} (h : El d l b o) :
    (szR l).2 = [b.length] ∧ emit l (szR l).1 = b ∧ (∀ n ∈ (szR l).1, n ≤ b.length) ∧ (∀ p a t, l = p ++ a :: t → count a ≤ (szR t).2.length) ∧ (l.map (fun a => a.body.length)).sum ≤ b.length ∧ b.length ≤ (l.map (fun a => a.body.length)).sum + 10 * l.length := by
  obtain ⟨u, g⟩ := El.em d l b o h []
  have e1 := g.one
  have e2 := g.two
  rw [List.append_nil] at e1 e2
  have e1' : (szR l).1 = u := by rw [e1]; simp [szR]
  refine ⟨by rw [e2]; simp [szR], ?_, ?_, ?_, g.lo, g.hi⟩
  · have := g.em []
    rw [List.append_nil, List.append_nil] at this
    rw [e1', this]
    simp [emit]
  · rw [e1']; exact g.le
  · intro p a t e
    have := g.cnt p a t e
    rw [List.append_nil] at this
    exact this
end Go.Px.E5
