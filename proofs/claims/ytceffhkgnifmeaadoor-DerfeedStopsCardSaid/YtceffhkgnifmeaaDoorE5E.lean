/-
  A list has one row of bytes at most; the ways that Encode goes, and what Decode makes of what it tells (plain laws of layer 15). No program is named here.
-/
import Derived.Test.YtceffhkgnifmeaaDoorE5L
namespace Go.Px.E5
def Det (R : List Node → Bytes → Bool → Prop) : Prop := ∀ x x' b b' o o' r r', R x b o → R x' b' o' → x ++ r = x' ++ r' → x = x' ∧ r = r' ∧ b = b' ∧ o = o'
theorem kids_det {R : List Node → Bytes → Bool → Prop} (hR : Det R) (set : Bool) : ∀ (n : Nat) (last : Bytes) (l l' : List Node) (b b' : Bytes) (o o' : Bool) (r r' : List Node), Kids R set n last l b o → Kids R set n last l' b' o' → l ++ r = l' ++ r' → l = l' ∧ r = r' ∧ b = b' ∧ o = o'
  | 0, _, _, _, _, _, _, _, _, _, ⟨h1, h2, h3⟩, ⟨k1, k2, k3⟩, e => by
    subst h1 h2 h3 k1 k2 k3
    exact ⟨rfl, e, rfl, rfl⟩
  | n + 1, last, _, _, _, _, _, _, r, r', ⟨x, t, bx, bt, o1, o2, h1, h2, h3, h4, h5⟩, ⟨x', t', bx', bt', o1', o2', k1, k2, k3, k4, k5⟩, e => by
    subst h1 h2 h5 k1 k2 k5
    rw [List.append_assoc, List.append_assoc] at e
    obtain ⟨rfl, e2, rfl, rfl⟩ := hR _ _ _ _ _ _ _ _ h3 k3 e
    obtain ⟨rfl, rfl, rfl, rfl⟩ := kids_det hR set n _ _ _ _ _ _ _ _ _ h4 k4 e2
    exact ⟨rfl, rfl, rfl, rfl⟩
theorem el_det : ∀ d, Det (El d) := by
  have one : ∀ (a a' : Node) (r r' : List Node), [a] ++ r = [a'] ++ r' → a = a' ∧ r = r' := fun a a' r r' e => by
    simp only [List.singleton_append, List.cons.injEq] at e
    exact e
  intro d
  induction d with
  | zero =>
    intro x x' b b' o o' r r' ⟨a, h1, h2, h3, h4, h5⟩ ⟨a', k1, k2, k3, k4, k5⟩ e
    subst h1 h4 h5 k1 k4 k5
    obtain ⟨rfl, rfl⟩ := one _ _ _ _ e
    exact ⟨rfl, rfl, rfl, rfl⟩
  | succ d ih =>
    intro x x' b b' o o' r r' h k e
    rcases h with ⟨a, h1, h2, h3, h4, h5⟩ | ⟨a, t, bt, h1, h2, h3, h4, h5⟩
    · rcases k with ⟨a', k1, k2, k3, k4, k5⟩ | ⟨a', t', bt', k1, k2, k3, k4, k5⟩
      · subst h1 h4 h5 k1 k4 k5
        obtain ⟨rfl, rfl⟩ := one _ _ _ _ e
        exact ⟨rfl, rfl, rfl, rfl⟩
      · subst h1 k1
        simp only [List.cons_append, List.cons.injEq] at e
        rw [← e.1, h3] at k3
        cases k3
    · rcases k with ⟨a', k1, k2, k3, k4, k5⟩ | ⟨a', t', bt', k1, k2, k3, k4, k5⟩
      · subst h1 k1
        simp only [List.cons_append, List.cons.injEq] at e
        rw [e.1, k3] at h3
        cases h3
      · subst h1 h5 k1 k5
        simp only [List.cons_append, List.cons.injEq] at e
        obtain ⟨rfl, e2⟩ := e
        obtain ⟨rfl, rfl, rfl, rfl⟩ := kids_det ih _ _ _ _ _ _ _ _ _ _ _ h4 k4 e2
        exact ⟨rfl, rfl, rfl, rfl⟩
/-- One list, one row of bytes. -/
theorem El.det {d d' : Nat} {l : List Node} {b b' : Bytes} {o o' : Bool} (h : El d l b o) (k : El d' l b' o') : b = b' ∧ o = o' := by
  obtain ⟨_, _, h1, h2⟩ := el_det (max d d') l l b b' o o' [] [] (h.mono (Nat.le_max_left _ _)) (k.mono (Nat.le_max_right _ _)) rfl
  exact ⟨h1, h2⟩

def encLim : Lim := ⟨32, 4096, 262144, 1⟩
theorem encLim_may : encLim.may = true := by decide
/-- The ways that Encode goes. -/
inductive Enc (l : List Node) : Bytes × Int → Prop
  | many : 4096 < l.length → Enc l ([], 10)
  | form : l.length ≤ 4096 → (∀ d b o, ¬ El d l b o) → Enc l ([], 9)
  | deep (m : Nat) : l.length ≤ 4096 → shape true l [] 0 = some (m, []) → l ≠ [] → 32 < m → Enc l ([], 10)
  | long (b : Bytes) (o : Bool) : l.length ≤ 4096 → El 32 l b o → 262144 < b.length → Enc l ([], 10)
  | out (b : Bytes) : l.length ≤ 4096 → El 32 l b true → b.length ≤ 262144 → Enc l ([], 9)
  | ok (b : Bytes) : l.length ≤ 4096 → El 32 l b false → b.length ≤ 262144 → Enc l (b, 0)
theorem el_shape {d : Nat} {l : List Node} {b : Bytes} {o : Bool} {m : Nat} (h : El d l b o) (hs : shape true l [] 0 = some (m, [])) : m ≤ d := by
  obtain ⟨m', h1, h2, _⟩ := shape_of_el h
  rw [hs] at h1
  simp only [Option.some.injEq, Prod.mk.injEq, and_true] at h1
  omega
theorem Enc.det {l : List Node} {r r' : Bytes × Int} (h : Enc l r) (k : Enc l r') : r = r' := by
  have ex : ∀ {m : Nat}, shape true l [] 0 = some (m, []) → l ≠ [] → (∀ d b o, ¬ El d l b o) → False := fun hs hn hno => by
    obtain ⟨b, o, h⟩ := el_of_shape hn hs (Nat.le_refl _)
    exact hno _ _ _ h
  cases h with
  | many h1 => cases k <;> first | rfl | (exfalso; omega)
  | form h1 h2 =>
    cases k with
    | many => exfalso; omega
    | form => rfl
    | deep m k1 k2 k3 k4 => exact (ex k2 k3 h2).elim
    | long b o k1 k2 k3 => exact (h2 _ _ _ k2).elim
    | out b k1 k2 k3 => rfl
    | ok b k1 k2 k3 => exact (h2 _ _ _ k2).elim
  | deep m h1 h2 h3 h4 =>
    cases k with
    | many => rfl
    | form k1 k2 => exact (ex h2 h3 k2).elim
    | deep => rfl
    | long => rfl
    | out b k1 k2 k3 => have := el_shape k2 h2; exfalso; omega
    | ok b k1 k2 k3 => have := el_shape k2 h2; exfalso; omega
  | long b o h1 h2 h3 =>
    cases k with
    | many => rfl
    | form k1 k2 => exact (k2 _ _ _ h2).elim
    | deep => rfl
    | long => rfl
    | out b' k1 k2 k3 => obtain ⟨rfl, _⟩ := h2.det k2; exfalso; omega
    | ok b' k1 k2 k3 => obtain ⟨rfl, _⟩ := h2.det k2; exfalso; omega
  | out b h1 h2 h3 =>
    cases k with
    | many => exfalso; omega
    | form => rfl
    | deep m k1 k2 k3 k4 => have := el_shape h2 k2; exfalso; omega
    | long b' o k1 k2 k3 => obtain ⟨rfl, _⟩ := h2.det k2; exfalso; omega
    | out => rfl
    | ok b' k1 k2 k3 => obtain ⟨_, e⟩ := h2.det k2; cases e
  | ok b h1 h2 h3 =>
    cases k with
    | many => exfalso; omega
    | form k1 k2 => exact (k2 _ _ _ h2).elim
    | deep m k1 k2 k3 k4 => have := el_shape h2 k2; exfalso; omega
    | long b' o k1 k2 k3 => obtain ⟨rfl, _⟩ := h2.det k2; exfalso; omega
    | out b' k1 k2 k3 => obtain ⟨_, e⟩ := h2.det k2; cases e
    | ok b' k1 k2 k3 => obtain ⟨rfl, _⟩ := h2.det k2; rfl
/-- What is told is read. -/
theorem Enc.back {l : List Node} {b : Bytes} {e : Int} (h : Enc l (b, e)) (he : e = 0) (lim : Lim) (hm : lim.may = true) (hd : lim.d = 32) (hi : lim.i = 4096) (hb : lim.b = 262144) : R5.decode b lim = (l, 0, 0) := by
  subst he
  cases h with
  | ok _ h1 h2 h3 =>
    have hd' : lim.d.toNat = 32 := by rw [hd]; rfl
    exact decode_of_el hm (by rw [hd']; exact h2) (by omega) (by omega)
theorem Enc.fail {l : List Node} {b : Bytes} {e : Int} (h : Enc l (b, e)) (he : e ≠ 0) : b = [] := by
  cases h <;> first | rfl | exact absurd rfl he
/-- What is read is told. -/
theorem enc_of_decode {s : Bytes} {lim : Lim} (h : (R5.decode s lim).2.2 = 0) : Enc (R5.decode s lim).1 (s, 0) := by
  obtain ⟨hm, _, h1, h2, h3, _⟩ := decode_sound h
  have hmay := may_of hm
  exact .ok s (by omega) (h1.mono (by omega)) (by omega)
end Go.Px.E5
