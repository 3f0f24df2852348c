/-
  The walk over the program's begin (package cbor), all its cases joined.
-/
import Derived.Test.YtddiabaagpmkgaaDoorDk
namespace Go.Proofs.YtddiabaagpmkgaaDoor
open Go.RowKit Go.Px

theorem want_place {s : Bytes} {lim : Lim} {p c : Nat} (h : D7.want s lim p = .ok c) : p < s.length ∧ (p : Int) < lim.b ∧ c < 256 := by
  unfold D7.want at h
  by_cases h1 : s.length ≤ p
  · rw [if_pos h1] at h; cases h
  · rw [if_neg h1] at h
    by_cases h2 : lim.b ≤ p
    · rw [if_pos h2] at h; cases h
    · rw [if_neg h2] at h
      simp only [Except.ok.injEq] at h
      exact ⟨by omega, by omega, by rw [← h]; exact UInt8.toNat_lt _⟩
theorem argN_place {s : Bytes} {lim : Lim} : ∀ (m p n v : Nat), D7.argN s lim m p n = .ok v → p ≤ s.length → (p : Int) ≤ lim.b → p + m ≤ s.length ∧ ((p + m : Nat) : Int) ≤ lim.b ∧ v < (n + 1) * 256 ^ m
  | 0, p, n, v, h, hp, hb => by
    have : n = v := by simpa [D7.argN] using h
    subst this
    exact ⟨hp, by simpa using hb, by simp⟩
  | m + 1, p, n, v, h, hp, hb => by
    unfold D7.argN at h
    cases hw : D7.want s lim p with
    | error e => rw [hw] at h; cases h
    | ok c =>
      rw [hw] at h
      obtain ⟨q1, q2, q3⟩ := want_place hw
      obtain ⟨r1, r2, r3⟩ := argN_place m (p + 1) (n * 256 + c) v h (by omega) (by omega)
      refine ⟨by omega, by omega, Nat.lt_of_lt_of_le r3 ?_⟩
      rw [Nat.pow_succ, Nat.mul_comm (256 ^ m) 256, ← Nat.mul_assoc]
      exact Nat.mul_le_mul_right _ (by omega)
theorem head_place {s : Bytes} {lim : Lim} {o p k n q : Nat} (h : D7.head s lim o p = .ok (k, n, q)) : p < q ∧ q ≤ s.length ∧ (q : Int) ≤ lim.b ∧ n < 18446744073709551616 ∧ k < 8 := by
  obtain ⟨c, hc, hcb, hkc, _, h27, _, he, hqe⟩ := head_ok h
  obtain ⟨q1, q2, _⟩ := want_place hc
  unfold argD at he
  by_cases h24 : c % 32 < 24
  · rw [if_pos h24] at he hqe
    simp only [Except.ok.injEq] at he
    exact ⟨by omega, by omega, by omega, by omega, by omega⟩
  · rw [if_neg h24] at he hqe
    cases ha : D7.argN s lim (2 ^ (c % 32 - 24)) (p + 1) 0 with
    | error e => rw [ha] at he; cases he
    | ok v =>
      rw [ha] at he
      simp only at he
      obtain ⟨r1, r2, r3⟩ := argN_place _ _ _ _ ha (by omega) (by omega)
      by_cases h5 : v < Cf.least (c % 32)
      · rw [if_pos h5] at he; cases he
      · rw [if_neg h5] at he
        simp only [Except.ok.injEq] at he
        subst he
        obtain ⟨j, hj⟩ : ∃ j, j = c % 32 - 24 := ⟨_, rfl⟩
        have hj3 : j ≤ 3 := by omega
        rw [← hj] at r1 r2 r3 hqe
        have : v < 18446744073709551616 := by
          have : j = 0 ∨ j = 1 ∨ j = 2 ∨ j = 3 := by omega
          rcases this with rfl | rfl | rfl | rfl <;> exact Nat.lt_of_lt_of_le r3 (by decide)
        obtain ⟨u, hu⟩ : ∃ u, u = 2 ^ j := ⟨_, rfl⟩
        rw [← hu] at r1 r2 hqe
        clear r3 hu
        exact ⟨by omega, by omega, by omega, this, by omega⟩

theorem begin_any (s : Bytes) (lim : Lim) (hs : s.length ≤ 140737488355327) (hlb : 1 ≤ lim.b) (hlb2 : lim.b ≤ 262144) (b : Nat) (x : D7.Dx) (vs vo : Value) (w : World) (h : DrRep w b s lim x vs vo) (hx : x.at_ ≤ 262144) (hok : DOk s lim x) (hT : ∀ w2, Fr (dfoot b vs vo) w w2 → Tabs w2) :
    Calls Tryd.prog 51 #[.pointer (some ⟨b, 0, none⟩)] w fun r w' => BegPost w b s lim (dfoot b vs vo) (D7.beginD s lim x) r w' := by
  unfold D7.beginD
  cases hh : D7.head s lim x.out.length x.at_ with
  | error e =>
    simp only
    have hfin : (Calls Tryd.prog 51 #[.pointer (some ⟨b, 0, none⟩)] w fun r w' => r = panics e ∧ Fr (It b) w w') := by
      rcases head_bad hh with he | ⟨c, hc, hcb, ⟨hi, rfl⟩ | ⟨hi, ⟨h27, rfl⟩ | ⟨h27, ⟨h7, h2 | h2, rfl⟩ | ⟨h7, he⟩⟩⟩⟩
      · exact begin_want s lim b x vs vo w h e he
      · exact begin_full s lim b x vs vo w h c hc hi
      · exact begin_form s lim b x vs vo w h c hc hcb hi h27
      · exact begin_kind1 s lim b x vs vo w h c hc hcb hi h27 h7 h2
      · exact begin_kind2 s lim b x vs vo w h c hc hcb hi h27 h7 h2
      · exact begin_arg s lim hs b x vs vo w h hx c hc hcb hi h27 h7 e he
    exact hfin.mono fun r w' ⟨hr, hf⟩ => ⟨hr, It.dfoot hf⟩
  | ok v =>
    obtain ⟨k, n, q⟩ := v
    obtain ⟨hpq, hqs, hqb, hn, hk⟩ := head_place hh
    simp only
    by_cases h2 : k = 2
    · subst h2
      rw [if_pos (by rfl)]
      cases ht : D7.take s lim q n with
      | error e => exact begin_k2bad s lim hs hlb hlb2 b n q x vs vo w h hx hok hqs hqb hh e ht
      | ok t =>
        simp only
        rw [if_neg (by simp)]
        exact begin_k2 s lim hs hlb hlb2 b n q x vs vo w h hx hok hqs hqb hh t ht
    by_cases h3 : k = 3
    · subst h3
      rw [if_pos (by rfl)]
      cases ht : D7.take s lim q n with
      | error e => exact begin_k3bad s lim hs hlb hlb2 b n q x vs vo w h hx hok hqs hqb hh e ht
      | ok t =>
        simp only
        cases hv : Lib.validD t with
        | false =>
          rw [if_pos (by rfl)]
          exact begin_k3_inv s lim hs hlb hlb2 b n q x vs vo w h hx hok hqs hqb hh t ht hT hv
        | true =>
          rw [if_neg (by simp)]
          exact begin_k3 s lim hs hlb hlb2 b n q x vs vo w h hx hok hqs hqb hh t ht hT hv
    have hk23 : ¬ ((k == 2 || k == 3) = true) := by simp [h2, h3]
    rw [if_neg hk23]
    by_cases h4 : k = 4
    · subst h4
      rw [if_pos (by rfl)]
      unfold D7.push
      by_cases hd : (x.stack.length : Int) = lim.d
      · rw [if_pos hd]; exact begin_k4_full s lim hs b n q x vs vo w h hx hok hh hd
      · rw [if_neg hd]; exact begin_k4 s lim hs b n q x vs vo w h hx hok hh hd
    rw [if_neg (by simpa using h4)]
    by_cases h5 : k = 5
    · subst h5
      rw [if_pos (by rfl)]
      unfold D7.push
      by_cases hd : (x.stack.length : Int) = lim.d
      · rw [if_pos hd]; exact begin_k5_full s lim hs b n q x vs vo w h hx hok hh hd
      · rw [if_neg hd]; exact begin_k5 s lim hs b n q x vs vo w h hx hok hh hd
    rw [if_neg (by simpa using h5)]
    by_cases h6 : k = 6
    · subst h6
      rw [if_pos (by rfl)]
      unfold D7.push
      by_cases hd : (x.stack.length : Int) = lim.d
      · rw [if_pos hd]; exact begin_k6_full s lim hs b n q x vs vo w h hx hok hh hd
      · rw [if_neg hd]; exact begin_k6 s lim hs b n q x vs vo w h hx hok hh hd
    rw [if_neg (by simpa using h6)]
    have h017 : k = 0 ∨ k = 1 ∨ k = 7 := by omega
    rcases h017 with rfl | rfl | rfl
    · exact begin_k0 s lim hs b n q x vs vo w h hx hok hqs hh
    · exact begin_k1 s lim hs b n q x vs vo w h hx hok hqs hh
    · exact begin_k7 s lim hs b n q x vs vo w h hx hok hqs hh
end Go.Proofs.YtddiabaagpmkgaaDoor
