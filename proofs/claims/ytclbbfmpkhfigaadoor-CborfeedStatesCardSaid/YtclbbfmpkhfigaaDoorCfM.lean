/-
  Plain laws: a feed takes no more, and has no more begun, than its limits say. No program is named here.
-/
import Derived.Test.YtclbbfmpkhfigaaDoorCfL
namespace Go.Px.Cf

/-! Never more than the limits -/
def Deep (f : Feed) : Prop := (f.stack.length : Int) ≤ f.lim.d
theorem settle_deep {f : Feed} (h : Deep f) : Deep (settle f) := by
  have h1 := (settleN_keeps f.stack.length { f with next := 0 }).2.2.2
  have h2 := settle_lim f
  unfold Deep at h ⊢
  rw [h2]
  have : (settle f).stack.length ≤ f.stack.length := h1
  omega
theorem ended_deep {f : Feed} (h : Deep f) (p : Nat) : Deep (ended f p) := by
  have h1 := counted_len f p
  have h2 := counted_lim f p
  unfold ended
  cases hc : Cf.counted f p with
  | mk cb g =>
    rw [hc] at h1 h2
    have hg : Deep g := by unfold Deep at h ⊢; rw [h2, h1]; exact h
    cases cb
    · exact hg
    · exact settle_deep hg
theorem whole_deep {f : Feed} (h : Deep f) : Deep (whole f) := by
  unfold whole; simp only; split
  · exact h
  · refine ended_deep ?_ _; exact h
theorem opens_deep {f : Feed} (h : Deep f) (n : Nat) : Deep (opens f n) := by
  unfold opens
  by_cases hc : ((f.stack.length : Int) == f.lim.d) = true
  · rw [if_pos hc]; exact h
  · rw [if_neg hc]
    refine settle_deep ?_
    have hc' : ¬ (f.stack.length : Int) = f.lim.d := by simpa using hc
    unfold Deep at h ⊢
    show ((f.stack.length + 1 : Nat) : Int) ≤ f.lim.d
    omega
theorem known_deep {f : Feed} (h : Deep f) : Deep (known f) := by
  unfold known; simp only
  split
  · split
    · refine whole_deep ?_; exact h
    · exact h
  · split
    · exact opens_deep h _
    · split
      · exact opens_deep h _
      · split
        · exact opens_deep h _
        · refine ended_deep ?_ _; exact h
theorem argument_deep {f : Feed} (h : Deep f) (c : Nat) : Deep (argument f c) := by
  unfold argument; simp only
  split
  · exact h
  · split
    · exact h
    · refine known_deep ?_; exact h
theorem head_deep {f : Feed} (h : Deep f) (c : Nat) : Deep (head f c) := by
  unfold head headOn
  split
  · exact h
  · split
    · exact h
    · split
      · exact h
      · split
        · refine known_deep ?_; exact h
        · exact h
theorem byte_deep {f : Feed} (h : Deep f) (c : UInt8) : Deep (byte f c) := by
  unfold byte
  split
  · exact h
  · simp only
    split
    · refine head_deep ?_ _; exact h
    · split
      · refine argument_deep ?_ _; exact h
      · split
        · split
          · refine whole_deep ?_; exact h
          · exact h
        · exact h
theorem write_deep : ∀ (s : Bytes) (f : Feed), Deep f → (f.text.length : Int) ≤ f.lim.b → Deep (write f s) ∧ ((write f s).text.length : Int) ≤ (write f s).lim.b ∧ (write f s).lim = f.lim
  | [], f, h, ht => ⟨h, ht, rfl⟩
  | c :: s, f, h, ht => by
    unfold write
    split
    · obtain ⟨k1, k2⟩ := byte_keeps f c
      have hb : ((byte f c).text.length : Int) ≤ (byte f c).lim.b := by
        rw [k1, k2]
        split
        · exact ht
        · rename_i hne
          have hne' : ¬ (f.text.length : Int) = f.lim.b := by simpa using hne
          simp only [List.length_append, List.length_singleton]
          omega
      obtain ⟨a, b, d⟩ := write_deep s (byte f c) (byte_deep h c) hb
      exact ⟨a, b, d.trans k1⟩
    · exact ⟨h, ht, rfl⟩
theorem write_within (s : Bytes) (l : Lim) (hm : l.may = true) : ((Cf.write (Cf.init l) s).text.length : Int) ≤ l.b ∧ ((Cf.write (Cf.init l) s).stack.length : Int) ≤ l.d := by
  have hmay := may_of hm
  obtain ⟨a, b, c⟩ := write_deep s (Cf.init l) (by show ((0 : Nat) : Int) ≤ l.d; omega) (by show ((0 : Nat) : Int) ≤ l.b; omega)
  unfold Deep at a
  rw [c] at a b
  exact ⟨b, a⟩

end Go.Px.Cf
