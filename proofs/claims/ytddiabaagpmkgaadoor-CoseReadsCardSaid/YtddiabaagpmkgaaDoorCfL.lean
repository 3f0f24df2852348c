/-
  Plain laws on cborfeed's functions: what stays, and what holds between two bytes. No program is named here.
-/
import Derived.Test.YtddiabaagpmkgaaDoorCborM
namespace Go.Px.Cf

theorem counted_lim (f : Feed) (p : Nat) : (counted f p).2.lim = f.lim := by
  unfold counted; split
  · rfl
  · split
    · split <;> rfl
    · rfl
theorem counted_out (f : Feed) (p : Nat) : (counted f p).2.out = f.out := by
  unfold counted; split
  · rfl
  · split
    · split <;> rfl
    · rfl
theorem counted_next (f : Feed) (p : Nat) : (counted f p).2.next = f.next := by
  unfold counted; split
  · rfl
  · split
    · split <;> rfl
    · rfl
theorem counted_true (f : Feed) (p : Nat) : (counted f p).1 = true → (counted f p).2.err = f.err := by
  unfold counted; split
  · intro _; rfl
  · split
    · split
      · intro h; cases h
      · intro _; rfl
    · intro _; rfl
theorem counted_false (f : Feed) (p : Nat) : (counted f p).1 = false → (counted f p).2.err = 9 := by
  unfold counted; split
  · intro h; cases h
  · split
    · split
      · intro _; rfl
      · intro h; cases h
    · intro h; cases h

theorem settleN_keeps : ∀ (n : Nat) (f : Feed), (settleN n f).lim = f.lim ∧ (settleN n f).text = f.text ∧ (settleN n f).out = f.out ∧ (settleN n f).stack.length ≤ f.stack.length
  | 0, f => ⟨rfl, rfl, rfl, Nat.le_refl _⟩
  | n + 1, f => by
    unfold settleN
    split
    · rename_i h; exact ⟨rfl, rfl, rfl, Nat.le_refl _⟩
    · rename_i x rest hs
      split
      · exact ⟨rfl, rfl, rfl, Nat.le_refl _⟩
      · have h1 := counted_lim { f with stack := rest } x.at_
        have h2 := counted_text { f with stack := rest } x.at_
        have h3 := counted_out { f with stack := rest } x.at_
        have h4 := counted_len { f with stack := rest } x.at_
        split
        · rename_i g hg
          rw [hg] at h1 h2 h3 h4
          obtain ⟨a, b, c, d⟩ := settleN_keeps n g
          refine ⟨a.trans h1, b.trans h2, c.trans h3, ?_⟩
          rw [hs]; simp only [List.length_cons] at *; omega
        · rename_i g hg
          rw [hg] at h1 h2 h3 h4
          refine ⟨h1, h2, h3, ?_⟩
          rw [hs]; simp only [List.length_cons] at *; omega

/-- What holds between two bytes, while there is no fault. -/
structure Live (f : Feed) : Prop where
  may : f.lim.may = true
  err : f.err = 0
  len : (f.text.length : Int) ≤ f.lim.b
  each : ∀ x ∈ f.stack, x.left < 18446744073709551616 ∧ x.at_ < f.text.length ∧ 0 < x.left
  out : f.out.length ≤ f.text.length
  deep : (f.stack.length : Int) ≤ f.lim.d
  next : f.next = 0 ∨ (f.next = 1 ∧ 24 ≤ f.info ∧ f.info ≤ 27 ∧ 1 ≤ f.more ∧ f.more ≤ 2 ^ (f.info - 24) ∧ f.num < 256 ^ (2 ^ (f.info - 24) - f.more) ∧ f.hat < f.text.length) ∨
    (f.next = 2 ∧ (f.kind = 2 ∨ f.kind = 3) ∧ 1 ≤ f.more ∧ f.num ≤ f.text.length + f.more ∧ f.hat < f.text.length ∧ f.more < 18446744073709551616) ∨ (f.next = 3 ∧ f.stack = [] ∧ f.out ≠ [])

theorem may_of {l : Lim} (h : l.may = true) : 1 ≤ l.d ∧ l.d ≤ 32 ∧ 1 ≤ l.i ∧ l.i ≤ 4096 ∧ 1 ≤ l.b ∧ l.b ≤ 262144 ∧ 1 ≤ l.r ∧ l.r ≤ 4096 := by
  simp only [Lim.may, Bool.and_eq_true, decide_eq_true_eq] at h
  obtain ⟨⟨⟨⟨⟨⟨⟨a, b⟩, c⟩, d⟩, e⟩, f⟩, g⟩, h⟩ := h
  exact ⟨a, b, c, d, e, f, g, h⟩

/-- What must hold ahead of settle. -/
structure Pre (f : Feed) : Prop where
  may : f.lim.may = true
  len : (f.text.length : Int) ≤ f.lim.b
  each : ∀ x ∈ f.stack, x.left < 18446744073709551616 ∧ x.at_ < f.text.length
  tail : ∀ x ∈ f.stack.tail, 0 < x.left
  out : f.out.length ≤ f.text.length
  deep : (f.stack.length : Int) ≤ f.lim.d

theorem Pre.ok {f : Feed} (h : Pre f) : FOk f := by
  have hm := may_of h.may
  have := h.len; have := h.deep
  exact ⟨h.each, h.tail, by omega, by omega⟩
theorem Live.pre {f : Feed} (h : Live f) : Pre f := ⟨h.may, h.len, fun x hx => ⟨(h.each x hx).1, (h.each x hx).2.1⟩, fun x hx => (h.each x (List.mem_of_mem_tail hx)).2.2, h.out, h.deep⟩
theorem Live.pos {f : Feed} (h : Live f) : ∀ x ∈ f.stack, 0 < x.left := fun x hx => (h.each x hx).2.2

theorem Pre.counted {f : Feed} (h : Pre f) (p : Nat) : Pre (counted f p).2 := by
  have hg := h.ok.counted p
  exact ⟨by rw [counted_lim]; exact h.may, by rw [counted_text, counted_lim]; exact h.len, hg.each, hg.tail, by rw [counted_text, counted_out]; exact h.out,
    by rw [counted_len, counted_lim]; exact h.deep⟩
theorem Pre.pop {f : Feed} (h : Pre f) {x : Fm} {rest : List Fm} (hs : f.stack = x :: rest) : Pre { f with stack := rest } :=
  ⟨h.may, h.len, (h.ok.pop hs).each, (h.ok.pop hs).tail, h.out, by have := h.deep; rw [hs] at this; simp only [List.length_cons] at this; show (rest.length : Int) ≤ f.lim.d; omega⟩

theorem settleN_live : ∀ (n : Nat) (f : Feed), f.stack.length = n → Pre f → f.next = 0 → f.err = 0 → f.out ≠ [] → (settleN n f).err = 0 → Live (settleN n f)
  | 0, f, hn, h, _, he, hne, _ => by
    have hs : f.stack = [] := List.length_eq_zero_iff.1 hn
    exact ⟨h.may, he, h.len, fun x hx => by simp [settleN, hs] at hx, h.out, h.deep, .inr (.inr (.inr ⟨rfl, hs, hne⟩))⟩
  | n + 1, f, hn, h, h0, he, hne, hr => by
    unfold settleN at hr ⊢
    split at hr
    · rename_i hs; rw [hs] at hn; cases hn
    · rename_i x rest hs
      by_cases hl : 0 < x.left
      · rw [if_pos hl]
        refine ⟨h.may, he, h.len, fun y hy => ⟨(h.each y hy).1, (h.each y hy).2, ?_⟩, h.out, h.deep, .inl h0⟩
        rw [hs] at hy
        rcases List.mem_cons.1 hy with rfl | hy
        · exact hl
        · exact h.tail y (by rw [hs]; exact hy)
      · rw [if_neg hl] at hr ⊢
        have hp := (h.pop hs).counted x.at_
        have h4 := counted_len { f with stack := rest } x.at_
        have h5 := counted_next { f with stack := rest } x.at_
        have h6 := counted_out { f with stack := rest } x.at_
        rw [hs] at hn
        simp only [List.length_cons, Nat.add_right_cancel_iff] at hn
        cases hc : Cf.counted { f with stack := rest } x.at_ with
        | mk cb g =>
          rw [hc] at hp h4 h5 h6
          cases cb
          · have := counted_false { f with stack := rest } x.at_ (by rw [hc])
            rw [hc] at hr this
            simp only at hr this
            omega
          · have := counted_true { f with stack := rest } x.at_ (by rw [hc])
            rw [hc] at hr this
            exact settleN_live n g (by rw [h4]; exact hn) hp (h5.trans h0) (this.trans he) (by rw [h6]; exact hne) hr

theorem settle_live {f : Feed} (h : Pre f) (he : f.err = 0) (hne : f.out ≠ []) (hr : (settle f).err = 0) : Live (settle f) :=
  settleN_live _ _ rfl ⟨h.may, h.len, h.each, h.tail, h.out, h.deep⟩ rfl he hne hr

theorem ended_live {f : Feed} (h : Pre f) (p : Nat) (he : f.err = 0) (hne : f.out ≠ []) (hr : (ended f p).err = 0) : Live (ended f p) := by
  unfold ended at hr ⊢
  have hp := h.counted p
  have h6 := counted_out f p
  cases hc : Cf.counted f p with
  | mk cb g =>
    rw [hc] at hp h6
    cases cb
    · have := counted_false f p (by rw [hc])
      rw [hc] at hr this
      simp only at hr this
      omega
    · have := counted_true f p (by rw [hc])
      rw [hc] at hr this
      exact settle_live hp (this.trans he) (by rw [h6]; exact hne) hr

theorem Pre.putOut {f : Feed} (h : Pre f) (a : Atom) (ho : f.out.length < f.text.length) : Pre { f with out := f.out ++ [a] } :=
  ⟨h.may, h.len, h.each, h.tail, by simp; omega, h.deep⟩

theorem whole_live {f : Feed} (h : Pre f) (ho : f.out.length < f.text.length) (he : f.err = 0) (hr : (whole f).err = 0) : Live (whole f) := by
  unfold whole at hr ⊢
  simp only at hr ⊢
  split
  · rename_i hc
    rw [if_pos hc] at hr
    simp [wrong] at hr
  · rename_i hc
    rw [if_neg hc] at hr
    exact ended_live (h.putOut _ ho) _ he (by simp) hr

theorem opens_live {f : Feed} (h : Pre f) (hl : ∀ x ∈ f.stack, 0 < x.left) (ho : f.out.length < f.text.length) (hp : f.hat < f.text.length) (N : Nat) (hN : N < 18446744073709551616) (he : f.err = 0) (hr : (opens f N).err = 0) : Live (opens f N) := by
  unfold opens at hr ⊢
  split
  · rename_i hc
    rw [if_pos hc] at hr
    simp [wrong] at hr
  · rename_i hc
    rw [if_neg hc] at hr
    refine settle_live ⟨h.may, h.len, fun x hx => ?_, hl, by simp; omega, ?_⟩ he (by simp) hr
    · rcases List.mem_cons.1 hx with rfl | hx
      · exact ⟨hN, hp⟩
      · exact h.each x hx
    · have := h.deep
      have hc' : ¬ (f.stack.length : Int) = f.lim.d := by simpa using hc
      show ((f.stack.length + 1 : Nat) : Int) ≤ f.lim.d
      omega

theorem known_live {f : Feed} (h : Pre f) (hl : ∀ x ∈ f.stack, 0 < x.left) (ho : f.out.length < f.text.length) (hp : f.hat < f.text.length) (hn : f.num < 18446744073709551616) (he : f.err = 0) (hr : (known f).err = 0) : Live (known f) := by
  unfold known at hr ⊢
  simp only at hr ⊢
  by_cases h23 : (f.kind == 2 || f.kind == 3) = true
  · rw [if_pos h23] at hr ⊢
    by_cases h0 : (f.num == 0) = true
    · rw [if_pos h0] at hr ⊢
      exact whole_live ⟨h.may, h.len, h.each, h.tail, h.out, h.deep⟩ ho he hr
    · rw [if_neg h0]
      have h0' : ¬ f.num = 0 := by simpa using h0
      refine ⟨h.may, he, h.len, fun x hx => ⟨(h.each x hx).1, (h.each x hx).2, hl x hx⟩, h.out, h.deep, .inr (.inr (.inl ⟨rfl, by simpa using h23, ?_, ?_, hp, hn⟩))⟩
      · show 1 ≤ f.num; omega
      · show f.num ≤ f.text.length + f.num; omega
  · rw [if_neg h23] at hr ⊢
    by_cases h4 : (f.kind == 4) = true
    · rw [if_pos h4] at hr ⊢; exact opens_live h hl ho hp _ hn he hr
    · rw [if_neg h4] at hr ⊢
      by_cases h5 : (f.kind == 5) = true
      · rw [if_pos h5] at hr ⊢; exact opens_live h hl ho hp _ (by omega) he hr
      · rw [if_neg h5] at hr ⊢
        by_cases h6 : (f.kind == 6) = true
        · rw [if_pos h6] at hr ⊢; exact opens_live h hl ho hp _ (by omega) he hr
        · rw [if_neg h6] at hr ⊢; exact ended_live (h.putOut _ ho) _ he (by simp) hr

theorem pow256_le (k : Nat) (h : k ≤ 8) : 256 ^ k ≤ 18446744073709551616 := by
  have : 256 ^ k ≤ 256 ^ 8 := Nat.pow_le_pow_right (by omega) h
  simpa using this
theorem two_pow_le (k : Nat) (h : k ≤ 27) : 2 ^ (k - 24) ≤ 8 := by
  have : 2 ^ (k - 24) ≤ 2 ^ 3 := Nat.pow_le_pow_right (by omega) (by omega)
  simpa using this

/-- The number at hand takes a byte more. -/
theorem arg_step {num more width c : Nat} (h1 : 1 ≤ more) (h2 : more ≤ width) (hn : num < 256 ^ (width - more)) (hc : c < 256) : num * 256 + c < 256 ^ (width - (more - 1)) := by
  have e : width - (more - 1) = (width - more) + 1 := by omega
  rw [e, Nat.pow_succ]
  omega

theorem byte_live {f : Feed} (h : Live f) (c : UInt8) (hr : (byte f c).err = 0) : Live (byte f c) := by
  have hm := may_of h.may
  have hlen := h.len
  have hc := c.toNat_lt
  unfold byte at hr ⊢
  by_cases hb : ((f.text.length : Int) == f.lim.b) = true
  · rw [if_pos hb] at hr; simp [wrong] at hr
  · rw [if_neg hb] at hr ⊢
    have hb' : ¬ (f.text.length : Int) = f.lim.b := by simpa using hb
    have hg : Pre { f with text := f.text ++ [c] } := by
      refine ⟨h.may, ?_, fun x hx => ⟨(h.each x hx).1, ?_⟩, fun x hx => (h.each x (List.mem_of_mem_tail hx)).2.2, ?_, h.deep⟩
      · simp only [List.length_append, List.length_singleton]; omega
      · have := (h.each x hx).2.1; simp only [List.length_append, List.length_singleton]; omega
      · have := h.out; simp only [List.length_append, List.length_singleton]; omega
    have ho : ({ f with text := f.text ++ [c] } : Feed).out.length < ({ f with text := f.text ++ [c] } : Feed).text.length := by
      have := h.out; simp only [List.length_append, List.length_singleton]; omega
    simp only at hr ⊢
    by_cases n0 : (f.next == 0) = true
    · rw [if_pos n0] at hr ⊢
      unfold head headOn at hr ⊢
      split at hr
      · simp [wrong] at hr
      · rename_i hi; rw [if_neg hi]
        split at hr
        · simp [wrong] at hr
        · rename_i h27; rw [if_neg h27]
          split at hr
          · simp [wrong] at hr
          · rename_i h7; rw [if_neg h7]
            split at hr
            · rename_i h24; rw [if_pos h24]
              refine known_live ⟨hg.may, hg.len, hg.each, hg.tail, hg.out, hg.deep⟩ h.pos ho ?_ ?_ h.err hr
              · simp
              · show c.toNat % 32 < _; omega
            · rename_i h24; rw [if_neg h24]
              refine ⟨hg.may, h.err, hg.len, fun x hx => ⟨(hg.each x hx).1, (hg.each x hx).2, h.pos x hx⟩, hg.out, hg.deep, .inr (.inl ⟨rfl, ?_, ?_, ?_, ?_, ?_, ?_⟩)⟩
              · show 24 ≤ c.toNat % 32; omega
              · show c.toNat % 32 ≤ 27; omega
              · exact Nat.one_le_two_pow
              · exact Nat.le_refl _
              · simp
              · simp
    · rw [if_neg n0] at hr ⊢
      have n0' : ¬ f.next = 0 := by simpa using n0
      by_cases n1 : (f.next == 1) = true
      · rw [if_pos n1] at hr ⊢
        have n1' : f.next = 1 := by simpa using n1
        rcases h.next with hx | ⟨_, i1, i2, m1, m2, hn, hh⟩ | ⟨hx, _⟩ | ⟨hx, _⟩
        · omega
        · have w8 := two_pow_le f.info i2
          have hs := arg_step m1 m2 hn hc
          unfold argument at hr ⊢
          simp only at hr ⊢
          split
          · rename_i hmore
            refine ⟨hg.may, h.err, hg.len, fun x hx => ⟨(hg.each x hx).1, (hg.each x hx).2, h.pos x hx⟩, hg.out, hg.deep, .inr (.inl ⟨n1', i1, i2, ?_, ?_, ?_, ?_⟩)⟩
            · show 1 ≤ f.more - 1; omega
            · show f.more - 1 ≤ 2 ^ (f.info - 24); omega
            · exact hs
            · show f.hat < (f.text ++ [c]).length; simp; omega
          · rename_i hmore
            rw [if_neg hmore] at hr
            split
            · rename_i hl; rw [if_pos hl] at hr; simp [wrong] at hr
            · rename_i hl; rw [if_neg hl] at hr
              refine known_live ⟨hg.may, hg.len, hg.each, hg.tail, hg.out, hg.deep⟩ h.pos ho ?_ ?_ h.err hr
              · show f.hat < (f.text ++ [c]).length; simp; omega
              · exact Nat.lt_of_lt_of_le hs (pow256_le _ (by omega))
        · omega
        · omega
      · rw [if_neg n1] at hr ⊢
        have n1' : ¬ f.next = 1 := by simpa using n1
        by_cases n2 : (f.next == 2) = true
        · rw [if_pos n2] at hr ⊢
          have n2' : f.next = 2 := by simpa using n2
          rcases h.next with hx | ⟨hx, _⟩ | ⟨_, hk, m1, hn, hh, hmm⟩ | ⟨hx, _⟩
          · omega
          · omega
          · by_cases h0 : ((f.more - 1 == 0)) = true
            · rw [if_pos h0] at hr ⊢
              exact whole_live ⟨hg.may, hg.len, hg.each, hg.tail, hg.out, hg.deep⟩ ho h.err hr
            · rw [if_neg h0]
              have h0' : ¬ f.more - 1 = 0 := by simpa using h0
              refine ⟨hg.may, h.err, hg.len, fun x hx => ⟨(hg.each x hx).1, (hg.each x hx).2, h.pos x hx⟩, hg.out, hg.deep, .inr (.inr (.inl ⟨n2', hk, ?_, ?_, ?_, ?_⟩))⟩
              · show 1 ≤ f.more - 1; omega
              · show f.num ≤ (f.text ++ [c]).length + (f.more - 1); simp; omega
              · show f.hat < (f.text ++ [c]).length; simp; omega
              · exact Nat.lt_of_le_of_lt (Nat.sub_le _ _) hmm
          · omega
        · rw [if_neg n2] at hr; simp [wrong] at hr

/-! The limits stay, and the text but for one byte -/
theorem settle_lim (f : Feed) : (settle f).lim = f.lim := (settleN_keeps _ _).1
theorem settle_text (f : Feed) : (settle f).text = f.text := (settleN_keeps _ _).2.1
theorem ended_keeps (f : Feed) (p : Nat) : (ended f p).lim = f.lim ∧ (ended f p).text = f.text := by
  have h1 := counted_lim f p
  have h2 := counted_text f p
  unfold ended
  split
  · rename_i g hg; rw [hg] at h1 h2; exact ⟨(settle_lim g).trans h1, (settle_text g).trans h2⟩
  · rename_i g hg; rw [hg] at h1 h2; exact ⟨h1, h2⟩
theorem whole_keeps (f : Feed) : (whole f).lim = f.lim ∧ (whole f).text = f.text := by
  unfold whole; simp only; split
  · exact ⟨rfl, rfl⟩
  · exact ended_keeps _ _
theorem opens_keeps (f : Feed) (n : Nat) : (opens f n).lim = f.lim ∧ (opens f n).text = f.text := by
  unfold opens; split
  · exact ⟨rfl, rfl⟩
  · exact ⟨settle_lim _, settle_text _⟩
theorem known_keeps (f : Feed) : (known f).lim = f.lim ∧ (known f).text = f.text := by
  unfold known; simp only
  split
  · split
    · exact whole_keeps _
    · exact ⟨rfl, rfl⟩
  · split
    · exact opens_keeps _ _
    · split
      · exact opens_keeps _ _
      · split
        · exact opens_keeps _ _
        · exact ended_keeps _ _
theorem argument_keeps (f : Feed) (c : Nat) : (argument f c).lim = f.lim ∧ (argument f c).text = f.text := by
  unfold argument; simp only
  split
  · exact ⟨rfl, rfl⟩
  · split
    · exact ⟨rfl, rfl⟩
    · exact known_keeps _
theorem head_keeps (f : Feed) (c : Nat) : (head f c).lim = f.lim ∧ (head f c).text = f.text := by
  unfold head headOn
  split
  · exact ⟨rfl, rfl⟩
  · split
    · exact ⟨rfl, rfl⟩
    · split
      · exact ⟨rfl, rfl⟩
      · split
        · exact known_keeps _
        · exact ⟨rfl, rfl⟩
theorem byte_keeps (f : Feed) (c : UInt8) : (byte f c).lim = f.lim ∧ (byte f c).text = if (f.text.length : Int) == f.lim.b then f.text else f.text ++ [c] := by
  unfold byte
  split
  · exact ⟨rfl, rfl⟩
  · rename_i h
    simp only
    split
    · exact head_keeps _ _
    · split
      · exact argument_keeps _ _
      · split
        · split
          · exact whole_keeps _
          · exact ⟨rfl, rfl⟩
        · exact ⟨rfl, rfl⟩

/-- What a feed is between two writes. -/
def FeedOk (f : Feed) : Prop := f.lim.may = true ∧ (f.err = 0 → Live f)
theorem byte_ok {f : Feed} (h : FeedOk f) (he : f.err = 0) (c : UInt8) : FeedOk (byte f c) :=
  ⟨by rw [(byte_keeps f c).1]; exact h.1, fun hr => byte_live (h.2 he) c hr⟩
theorem write_err {f : Feed} (s : Bytes) (h : f.err ≠ 0) : write f s = f := by
  cases s with
  | nil => rfl
  | cons c s => simp [write, h]
theorem write_ok : ∀ {f : Feed} (s : Bytes), FeedOk f → FeedOk (write f s)
  | f, [], h => h
  | f, c :: s, h => by
    unfold write
    split
    · rename_i he; exact write_ok s (byte_ok h (by simpa using he) c)
    · exact h
theorem write_append (f : Feed) : ∀ (s t : Bytes), write f (s ++ t) = write (write f s) t
  | [], t => rfl
  | c :: s, t => by
    by_cases he : f.err = 0
    · simp only [List.cons_append, write, he]
      exact write_append (byte f c) s t
    · rw [write_err _ he, write_err _ he, write_err _ he]
theorem write_drop (f : Feed) (s : Bytes) (k : Nat) (hk : k < s.length) (he : f.err = 0) : write f (s.drop k) = write (byte f s[k]) (s.drop (k + 1)) := by
  rw [List.drop_eq_getElem_cons hk]
  simp [write, he]
end Go.Px.Cf
