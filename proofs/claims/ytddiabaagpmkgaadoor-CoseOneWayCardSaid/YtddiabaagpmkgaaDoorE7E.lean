/-
  Encode as a plain function, and how the two ways to it agree (plain laws of layer 17). No program is named here.
-/
import Derived.Test.YtddiabaagpmkgaaDoorE7L
namespace Go.Px.E7

def encLim : Lim := ⟨32, 4096, 262144, 1⟩
def encode (l : List Atom) : Bytes × Int :=
  if 4096 < l.length then ([], 10)
  else match shape true l [] 0 with
    | none => ([], 9)
    | some (m, left) =>
      if l.isEmpty || !left.isEmpty then ([], 9)
      else if 32 < m then ([], 10)
      else if 262144 < (encB l).length then ([], 10)
      else if (R7.decode (encB l) encLim).2.2 = 0 then (encB l, 0) else ([], 9)
theorem encLim_may : encLim.may = true := by decide

/-- The ways that Encode goes. -/
inductive Enc (l : List Atom) : Bytes × Int → Prop
  | many : 4096 < l.length → Enc l ([], 10)
  | form : l.length ≤ 4096 → (∀ o, ¬ ItF 4096 l o) → Enc l ([], 9)
  | deep (m : Nat) : l.length ≤ 4096 → shape true l [] 0 = some (m, []) → l ≠ [] → 32 < m → Enc l ([], 10)
  | long (o : Bool) (m : Nat) : l.length ≤ 4096 → shape true l [] 0 = some (m, []) → l ≠ [] → m ≤ 32 → ItF 32 l o → 262144 < (encB l).length → Enc l ([], 10)
  | out (m : Nat) : l.length ≤ 4096 → shape true l [] 0 = some (m, []) → l ≠ [] → m ≤ 32 → ItF 32 l true → (encB l).length ≤ 262144 → Enc l ([], 9)
  | ok (m : Nat) : l.length ≤ 4096 → shape true l [] 0 = some (m, []) → l ≠ [] → m ≤ 32 → ItF 32 l false → (encB l).length ≤ 262144 → Enc l (encB l, 0)
theorem shape_le : ∀ (l : List Atom) (f : Bool) (left : List Nat) (most m : Nat) (e : List Nat), shape f l left most = some (m, e) → m ≤ max most (left.length + l.length)
  | [], f, left, most, m, e, h => by unfold shape at h; simp only [Option.some.injEq, Prod.mk.injEq] at h; omega
  | a :: r, f, left, most, m, e, h => by
    unfold shape at h
    split at h
    · cases h
    · split at h
      · rename_i n _
        have := shape_le r _ _ _ _ _ h
        have h2 := pops_len (n :: dec left)
        simp only [List.length_cons, dec_len] at h2 this ⊢
        omega
      · have := shape_le r _ _ _ _ _ h
        have h2 := pops_len (dec left)
        simp only [List.length_cons, dec_len] at h2 this ⊢
        omega
theorem encode_enc (l : List Atom) (hw : Wf l) : Enc l (encode l) := by
  unfold encode
  by_cases h0 : 4096 < l.length
  · rw [if_pos h0]; exact .many h0
  · rw [if_neg h0]
    have hform : (∀ m, ¬ (shape true l [] 0 = some (m, []) ∧ l ≠ [])) → Enc l ([], 9) := by
      intro h
      refine .form (by omega) fun o ho => ?_
      obtain ⟨m, h1, h2, h3⟩ := shape_of_it ho (by omega)
      exact h m ⟨h1, h3⟩
    cases hs : shape true l [] 0 with
    | none => exact hform fun m h => by rw [hs] at h; cases h.1
    | some r =>
      obtain ⟨m, left⟩ := r
      simp only
      by_cases hc : (l.isEmpty || !left.isEmpty) = true
      · rw [if_pos hc]
        refine hform fun m2 h => ?_
        rw [hs] at h
        simp only [Option.some.injEq, Prod.mk.injEq] at h
        obtain ⟨⟨_, rfl⟩, h2⟩ := h
        simp at hc
        exact h2 hc
      · rw [if_neg hc]
        simp only [Bool.or_eq_true, List.isEmpty_iff, Bool.not_eq_true', not_or, Bool.not_eq_false] at hc
        obtain ⟨hn, hl⟩ := hc
        have hl' : left = [] := by simpa using hl
        subst hl'
        by_cases h32 : 32 < m
        · rw [if_pos h32]; exact .deep m (by omega) hs hn h32
        · rw [if_neg h32]
          obtain ⟨o, ho⟩ := it_of_shape (D := 32) hn hs (by omega) (by omega)
          by_cases hb : 262144 < (encB l).length
          · rw [if_pos hb]; exact .long o m (by omega) hs hn (by omega) ho hb
          · rw [if_neg hb]
            have hd := decode_of_it (lim := encLim) encLim_may ho hw (by show (l.length : Int) ≤ 4096; omega) (by show ((encB l).length : Int) ≤ 262144; omega)
            cases o with
            | true =>
              rw [if_pos rfl] at hd
              rw [hd, if_neg (by omega)]
              exact .out m (by omega) hs hn (by omega) ho (by omega)
            | false =>
              have hd' : R7.decode (encB l) encLim = (l, 0, 0) := hd
              rw [hd', if_pos rfl]
              exact .ok m (by omega) hs hn (by omega) ho (by omega)
theorem encode_of_it {l : List Atom} (h : ItF 32 l false) (hw : Wf l) (hi : l.length ≤ 4096) (hb : (encB l).length ≤ 262144) : encode l = (encB l, 0) := by
  obtain ⟨m, h1, h2, h3⟩ := shape_of_it h (by omega)
  unfold encode
  rw [if_neg (by omega), h1]
  simp only
  have hd : R7.decode (encB l) encLim = (l, 0, 0) := decode_of_it (lim := encLim) encLim_may h hw (by show (l.length : Int) ≤ 4096; omega) (by show ((encB l).length : Int) ≤ 262144; omega)
  rw [if_neg (by simpa using h3), if_neg (by omega), if_neg (by omega), hd, if_pos rfl]
theorem encode_nil {l : List Atom} (hw : Wf l) (h : (encode l).2 ≠ 0) : (encode l).1 = [] := by
  have := encode_enc l hw
  generalize encode l = r at this h
  cases this with
  | ok => exact absurd rfl h
  | _ => rfl
theorem encode_back {l : List Atom} (hw : Wf l) (h : (encode l).2 = 0) {lim : Lim} (hm : lim.may = true) (hd : lim.d = 32) (hi : lim.i = 4096) (hb : lim.b = 262144) : R7.decode (encode l).1 lim = (l, 0, 0) := by
  have := encode_enc l hw
  generalize encode l = r at this h
  cases this with
  | ok m h1 _ _ _ h2 h3 =>
    exact decode_of_it (lim := lim) hm (by rw [hd]; exact h2) hw (by omega) (by omega)
  | _ => simp at h
theorem encode_decode {s : Bytes} {lim : Lim} (h : (R7.decode s lim).2.2 = 0) : encode (R7.decode s lim).1 = (s, 0) := by
  obtain ⟨hm, _, h1, h2, h3, h4, h5, _⟩ := decode_sound h
  have hmay := Cf.may_of hm
  have := encode_of_it (h1.mono (by omega : lim.d.toNat ≤ 32)) h2 (by omega) (by rw [← h3]; omega)
  rw [← h3] at this
  exact this
/-- The reference's way. -/
theorem enc_right {l : List Atom} (h0 : l.length ≤ 4096) {a : Atom} (ha : a ∈ l) (hr : right a = false) (hw : Wf l) : encode l = ([], 9) := by
  have := encode_enc l hw
  generalize encode l = r at this
  have nor : ∀ {d o}, ¬ ItF d l o := fun h => by rw [h.all a ha] at hr; cases hr
  have nos : ∀ {r}, shape true l [] 0 ≠ some r := fun h => by rw [shape_right l _ _ _ _ h a ha] at hr; cases hr
  cases this with
  | many h => omega
  | form => rfl
  | deep _ _ h => exact absurd h nos
  | long _ _ _ h => exact absurd h nos
  | out => rfl
  | ok _ _ h => exact absurd h nos
theorem enc_behind {l : List Atom} (h0 : l.length ≤ 4096) (hw : Wf l) (h : ∀ m, behind l [] 0 0 ≠ (some l.length, m)) : encode l = ([], 9) := by
  have := encode_enc l hw
  generalize encode l = r at this
  have nos : ∀ {m}, l ≠ [] → shape true l [] 0 ≠ some (m, []) := fun {m} hn hs => h m (by have := behind_of_shape l true [] 0 m 0 hs hn h0 (Nat.le_refl _); rwa [Nat.zero_add] at this)
  cases this with
  | many h => omega
  | form => rfl
  | deep _ _ h hn => exact absurd h (nos hn)
  | long _ _ _ h hn => exact absurd h (nos hn)
  | out => rfl
  | ok _ _ h hn => exact absurd h (nos hn)
theorem enc_on {l : List Atom} (h0 : l.length ≤ 4096) (hw : Wf l) (hr : ∀ a ∈ l, right a = true) {m : Nat} (h : behind l [] 0 0 = (some l.length, m)) :
    (32 < m → encode l = ([], 10)) ∧ (m ≤ 32 → ∃ o, ItF 32 l o ∧ (262144 < (encB l).length → encode l = ([], 10)) ∧ ((encB l).length ≤ 262144 → encode l = if o then ([], 9) else (encB l, 0))) := by
  have hn : l ≠ [] := by rintro rfl; unfold behind at h; simp at h
  have hs := shape_of_behind l true [] 0 m 0 (by rw [Nat.zero_add]; exact h) hr (.inl rfl) (Nat.le_refl _)
  unfold encode
  rw [if_neg (by omega), hs]
  simp only
  rw [if_neg (by simpa using hn)]
  refine ⟨fun h32 => by rw [if_pos h32], fun h32 => ?_⟩
  rw [if_neg (by omega)]
  obtain ⟨o, ho⟩ := it_of_shape (D := 32) hn hs h32 (by omega)
  refine ⟨o, ho, fun hb => by rw [if_pos hb], fun hb => ?_⟩
  rw [if_neg (by omega)]
  have hd := decode_of_it (lim := encLim) encLim_may ho hw (by show (l.length : Int) ≤ 4096; omega) (by show ((encB l).length : Int) ≤ 262144; omega)
  cases o with
  | true =>
    rw [if_pos rfl] at hd
    rw [hd, if_neg (by omega)]
    rfl
  | false =>
    have hd' : R7.decode (encB l) encLim = (l, 0, 0) := hd
    rw [hd', if_pos rfl]
    rfl
end Go.Px.E7
