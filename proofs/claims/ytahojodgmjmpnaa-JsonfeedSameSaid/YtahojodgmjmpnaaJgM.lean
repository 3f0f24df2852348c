/-
  What holds of a feed of layer 19 between two bytes (plain).
-/
import Derived.Test.YtahojodgmjmpnaaWnJ
namespace Go.Px.J6
open Go.Proofs.Ytahojodgmjmpnaa
open R6 (digit blank numNext numEnd bump setText)

/-- How long a string's text may be, at most. -/
def pot (t : Txt) : Nat := t.out.length + (if t.mode == 1 then 2 else if t.mode == 2 || t.mode == 3 || t.mode == 4 then 4 else 0)
theorem sign8_len (n : Nat) : (R6.sign8 n).length ≤ 4 := by
  unfold R6.sign8
  split
  · simp
  · split
    · simp
    · split <;> simp
theorem pot_two {t : Txt} (hm : t.mode = 2) (a b c d : Nat) : pot { t with code := a, count := b, high := c, out := t.out ++ R6.sign8 d, mode := 0 } ≤ pot t + 2 := by
  have := sign8_len d
  simp [pot, hm]
  omega
theorem pot_fourth {t : Txt} (hm : t.mode = 2) (n : Nat) (hr : (fourth t n).1 = .takes) : pot (fourth t n).2 ≤ pot t + 2 := by
  by_cases h1 : (decide (56320 ≤ n) && decide (n < 57344)) = !(t.high != 0)
  · rw [fourth_bad t n h1] at hr; cases hr
  · by_cases h2 : 56320 ≤ n ∧ n < 57344
    · have h3 : t.high ≠ 0 := fun e => h1 (by rw [e]; simp [h2])
      rw [fourth_pair t n h2.1 h2.2 h3]
      exact pot_two hm _ _ _ _
    · have h3 : t.high = 0 := by
        by_cases e : t.high = 0
        · exact e
        · exact absurd (by have : ¬ ((decide (56320 ≤ n) && decide (n < 57344)) = true) := by simpa using h2
                           simp only [Bool.not_eq_true] at this
                           rw [this]; simp [e]) h1
      by_cases h4 : 55296 ≤ n ∧ n < 56320
      · rw [fourth_half t n h4.1 h4.2 h3]
        simp [pot, hm]
      · rw [fourth_one t n (by omega) h3]
        have := pot_two hm n 0 t.high n
        exact this
theorem pot_take {t : Txt} (h : OkTxt t) (c : UInt8) (hr : (txtTake t c).1 = .takes) : pot (txtTake t c).2 ≤ pot t + 2 := by
  have hmode := h.mode
  rcases (show t.mode = 0 ∨ t.mode = 1 ∨ t.mode = 2 ∨ t.mode = 3 ∨ t.mode = 4 ∨ t.mode = 5 by omega) with hm | hm | hm | hm | hm | hm
  · rw [txt_m0 t c hm] at hr ⊢
    by_cases h1 : (c == 34) = true
    · rw [if_pos h1] at hr; cases hr
    rw [if_neg h1] at hr ⊢
    by_cases h2 : c < 32
    · rw [if_pos h2] at hr; cases hr
    rw [if_neg h2] at hr ⊢
    by_cases h3 : (c == 92) = true
    · rw [if_pos h3]
      simp [pot, hm]
    rw [if_neg h3] at hr ⊢
    by_cases h4 : 128 ≤ c
    · rw [if_pos h4] at hr ⊢
      unfold signBegin at hr ⊢
      generalize (if decide (194 ≤ c.toNat) && decide (c.toNat < 224) then 1 else if decide (224 ≤ c.toNat) && decide (c.toNat < 240) then 2 else if decide (240 ≤ c.toNat) && decide (c.toNat < 245) then 3 else 0) = n at hr ⊢
      by_cases h5 : (n == 0) = true
      · simp only [if_pos h5] at hr; cases hr
      simp only [if_neg h5]
      simp [pot, hm]
    · rw [if_neg h4]
      simp [pot, hm]
  · have e : txtTake t c = escaped t c.toNat := by unfold txtTake; simp [hm]
    rw [e] at hr ⊢
    unfold escaped at hr ⊢
    cases hl : R6.letter c.toNat with
    | some b => simp [pot, hm]
    | none =>
      rw [hl] at hr
      by_cases h1 : (c.toNat == 117) = true
      · simp only [if_pos h1]
        simp [pot, hm]
      · simp only [if_neg h1] at hr; cases hr
  · have e : txtTake t c = digitTake t c.toNat := by unfold txtTake; simp [hm]
    rw [e] at hr ⊢
    unfold digitTake at hr ⊢
    cases hh : R6.hex c.toNat with
    | none => rw [hh] at hr; cases hr
    | some x =>
      rw [hh] at hr
      by_cases h1 : 1 < t.count
      · simp only [if_pos h1]
        simp [pot, hm]
      · simp only [if_neg h1] at hr ⊢
        exact pot_fourth hm _ hr
  · have e : txtTake t c = (if c != 92 then .refuses else .takes, { t with mode := 4 }) := by unfold txtTake; simp [hm]
    rw [e]
    simp [pot, hm]
  · have e : txtTake t c = (if c != 117 then .refuses else .takes, { t with mode := 2, code := 0, count := 4 }) := by unfold txtTake; simp [hm]
    rw [e]
    simp [pot, hm]
  · rw [txt_m5 t c hm] at hr ⊢
    by_cases h1 : (decide (c < t.least) || decide (t.most < c)) = true
    · rw [if_pos h1] at hr; cases hr
    rw [if_neg h1]
    by_cases hc : (t.count - 1 == 0) = true
    · simp [pot, hm, hc]
    · simp [pot, hm, hc]
/-- What holds of the token at hand: so many bytes were taken, so many more will be. -/
def TokOk (k n : Nat) : Tok → Prop
  | .none => True
  | .word r => r ≠ []
  | .num q t => q ≤ 8 ∧ t.length + k ≤ n
  | .str t => OkTxt t ∧ pot t + 2 * k ≤ 2 * n
structure OkK (k : Nat) (f : Feed) : Prop where
  may : f.lim.may = true
  nb : (f.n : Int) ≤ f.lim.b
  ol : (f.out.length : Int) ≤ f.lim.i
  sd : (f.stack.length : Int) ≤ f.lim.d
  each : ∀ x ∈ f.stack, x.no < f.out.length ∧ x.names.length + k ≤ f.n
  kids : ∀ a ∈ f.out, 0 ≤ a.kids ∧ a.kids ≤ f.out.length
  nx : f.next ≤ 6
  st : 1 ≤ f.next → f.next ≤ 5 → f.stack ≠ []
  kn : k ≤ f.n
  tk : TokOk k f.n f.now
  ne : f.now ≠ .none → f.out ≠ []
theorem may_parts6 {lim : Lim} (hm : lim.may = true) : 1 ≤ lim.d ∧ lim.d ≤ 32 ∧ 1 ≤ lim.i ∧ lim.i ≤ 4096 ∧ 1 ≤ lim.b ∧ lim.b ≤ 262144 := by
  unfold Lim.may at hm
  simp only [Bool.and_eq_true, decide_eq_true_eq] at hm
  omega
variable {f : Feed}
theorem OkK.less {k j : Nat} (h : OkK k f) (hj : j ≤ k) : OkK j f := by
  refine ⟨h.may, h.nb, h.ol, h.sd, fun x hx => ⟨(h.each x hx).1, by have := (h.each x hx).2; omega⟩, h.kids, h.nx, h.st, by have := h.kn; omega, ?_, h.ne⟩
  have := h.tk
  revert this
  cases f.now with
  | none => exact fun _ => trivial
  | word r => exact id
  | num q t => exact fun ⟨a, b⟩ => ⟨a, by omega⟩
  | str t => exact fun ⟨a, b⟩ => ⟨a, by omega⟩
theorem OkK.wrong {k : Nat} (h : OkK k f) (p e : Int) : OkK k (J6.wrong f p e) := ⟨h.may, h.nb, h.ol, h.sd, h.each, h.kids, h.nx, h.st, h.kn, h.tk, h.ne⟩
theorem OkK.over {k : Nat} (h : OkK k f) : OkK k (J6.over f) := by
  refine ⟨h.may, h.nb, h.ol, h.sd, h.each, h.kids, ?_, ?_, h.kn, h.tk, h.ne⟩
  · show (if f.stack.isEmpty then 6 else 5) ≤ 6
    split <;> omega
  · show 1 ≤ (if f.stack.isEmpty then 6 else 5) → (if f.stack.isEmpty then 6 else 5) ≤ 5 → f.stack ≠ []
    cases f.stack with
    | nil => intro _ h; simp at h
    | cons x r => intro _ _ h; cases h
theorem OkK.over_of {k : Nat} (h : OkK k { f with next := 6 }) : OkK k (J6.over f) := h.over
/-- A byte comes. -/
theorem OkK.more (h : OkK 0 f) (hn : ¬ (f.n : Int) = f.lim.b) : OkK 1 { f with n := f.n + 1 } := by
  have h0 := h.nb
  refine ⟨h.may, (by show ((f.n + 1 : Nat) : Int) ≤ f.lim.b; omega), h.ol, h.sd, fun x hx => ⟨(h.each x hx).1, ?_⟩, h.kids, h.nx, h.st, (by show 1 ≤ f.n + 1; omega), ?_, h.ne⟩
  · have := (h.each x hx).2
    show x.names.length + 1 ≤ f.n + 1
    omega
  · have := h.tk
    show TokOk 1 (f.n + 1) f.now
    revert this
    cases f.now with
    | none => exact fun _ => trivial
    | word r => exact id
    | num q t => exact fun ⟨a, b⟩ => ⟨a, by omega⟩
    | str t => exact fun ⟨a, b⟩ => ⟨a, by omega⟩
theorem kids_modify {l : List Val} {i : Nat} {g : Val → Val} {N : Int} (hg : ∀ a, (g a).kids = a.kids) (h : ∀ a ∈ l, 0 ≤ a.kids ∧ a.kids ≤ N) : ∀ a ∈ l.modify i g, 0 ≤ a.kids ∧ a.kids ≤ N := by
  intro a ha
  obtain ⟨j, hj⟩ := List.mem_iff_getElem?.1 ha
  rw [List.getElem?_modify] at hj
  cases hl : l[j]? with
  | none => rw [hl] at hj; simp at hj
  | some x =>
    rw [hl] at hj
    replace hj : some (if i = j then _ else _) = some a := hj
    have hx := h x (List.mem_of_getElem? hl)
    by_cases e : i = j
    · rw [if_pos e] at hj
      simp only [Option.some.injEq] at hj
      rw [← hj, hg]
      exact hx
    · rw [if_neg e] at hj
      simp only [Option.some.injEq] at hj
      rw [← hj]
      exact hx
theorem kids_bump {l : List Val} {i : Nat} {N : Int} (h : ∀ a ∈ l, 0 ≤ a.kids ∧ a.kids ≤ N) : ∀ a ∈ bump l i 1, 0 ≤ a.kids ∧ a.kids ≤ N + 1 := by
  intro a ha
  unfold bump at ha
  obtain ⟨j, hj⟩ := List.mem_iff_getElem?.1 ha
  rw [List.getElem?_modify] at hj
  cases hl : l[j]? with
  | none => rw [hl] at hj; simp at hj
  | some x =>
    rw [hl] at hj
    replace hj : some (if i = j then _ else _) = some a := hj
    have hx := h x (List.mem_of_getElem? hl)
    by_cases e : i = j
    · rw [if_pos e] at hj
      simp only [Option.some.injEq] at hj
      rw [← hj]
      show 0 ≤ x.kids + 1 ∧ x.kids + 1 ≤ N + 1
      omega
    · rw [if_neg e] at hj
      simp only [Option.some.injEq] at hj
      rw [← hj]
      omega
theorem bump_len (l : List Val) (i : Nat) (k : Int) : (bump l i k).length = l.length := by simp [bump]
theorem setText_len (l : List Val) (i : Nat) (t : Bytes) : (setText l i t).length = l.length := by simp [setText]
/-- A value is counted. -/
theorem OkK.one {k : Nat} (h : OkK k f) (v : Val) (hv : v.kids = 0) : OkK k (one f v).2 ∧ (one f v).2.next = f.next ∧ (one f v).2.now = f.now ∧ (one f v).2.lim = f.lim ∧ (one f v).2.n = f.n ∧ (one f v).2.stack = f.stack ∧
    ((one f v).1 = true → (one f v).2.out.length = f.out.length + 1) := by
  unfold J6.one
  by_cases hl : ((f.out.length : Int) == f.lim.i) = true
  · rw [if_pos hl]
    exact ⟨h.wrong _ _, rfl, rfl, rfl, rfl, rfl, (fun e => by cases e)⟩
  · rw [if_neg hl]
    have hl' : (f.out.length : Int) ≠ f.lim.i := by simpa using hl
    have h0 := h.ol
    obtain hs | ⟨x, rest, hs⟩ : f.stack = [] ∨ ∃ x rest, f.stack = x :: rest := by
      cases f.stack with
      | nil => exact .inl rfl
      | cons x r => exact .inr ⟨x, r, rfl⟩
    · have e : J6.one f v = (true, { f with out := f.out ++ [v] }) := by unfold J6.one; rw [if_neg hl, hs]
      unfold J6.one at e
      rw [if_neg hl] at e
      rw [e]
      refine ⟨⟨h.may, h.nb, ?_, h.sd, fun x hx => ?_, ?_, h.nx, h.st, h.kn, h.tk, (fun _ e => by simp at e)⟩, rfl, rfl, rfl, rfl, rfl, fun _ => by simp⟩
      · show ((f.out ++ [v]).length : Int) ≤ f.lim.i
        simp; omega
      · have hx : x ∈ f.stack := hx
        rw [hs] at hx
        cases hx
      · intro a ha
        show 0 ≤ a.kids ∧ a.kids ≤ ((f.out ++ [v]).length : Int)
        simp only [List.length_append, List.length_singleton]
        rcases List.mem_append.1 ha with ha | ha
        · have := h.kids a ha; omega
        · rw [List.mem_singleton.1 ha, hv]; omega
    · have e : J6.one f v = (true, { f with out := bump f.out x.no 1 ++ [v] }) := by unfold J6.one; rw [if_neg hl, hs]
      unfold J6.one at e
      rw [if_neg hl] at e
      rw [e]
      refine ⟨⟨h.may, h.nb, ?_, h.sd, fun y hy => ⟨?_, (h.each y hy).2⟩, ?_, h.nx, h.st, h.kn, h.tk, (fun _ e => by simp at e)⟩, rfl, rfl, rfl, rfl, rfl, fun _ => by simp [bump_len]⟩
      · show ((bump f.out x.no 1 ++ [v]).length : Int) ≤ f.lim.i
        simp [bump_len]; omega
      · have := (h.each y hy).1
        show y.no < (bump f.out x.no 1 ++ [v]).length
        simp [bump_len]; omega
      · intro a ha
        show 0 ≤ a.kids ∧ a.kids ≤ ((bump f.out x.no 1 ++ [v]).length : Int)
        simp only [List.length_append, List.length_singleton, bump_len]
        rcases List.mem_append.1 ha with ha | ha
        · have := kids_bump h.kids a ha
          omega
        · rw [List.mem_singleton.1 ha, hv]; omega
theorem OkK.valueOn (h : OkK 0 f) (c : Nat) (v : Val) (hv : v.kids = 0) (t : Tok) (ht : TokOk 0 f.n t) : OkK 0 (J6.valueOn f c v t) := by
  obtain ⟨h1, h2, h3, h4, h5, h6, h7⟩ := h.one v hv
  cases t with
  | none =>
    have e : J6.valueOn f c v .none = if ((f.stack.length : Int) == f.lim.d) = true then J6.wrong f (f.n - 1 : Nat) 10 else
      match J6.one f v with
      | (false, g) => g
      | (true, g) => { g with now := .none, stack := ⟨f.out.length, 0, []⟩ :: g.stack, next := if c == 123 then 3 else 1 } := rfl
    rw [e]
    by_cases hd : ((f.stack.length : Int) == f.lim.d) = true
    · rw [if_pos hd]
      exact h.wrong _ _
    rw [if_neg hd]
    clear e
    generalize hr : J6.one f v = r at h1 h2 h3 h4 h5 h6 h7 ⊢
    obtain ⟨r1, r2⟩ := r
    cases r1 with
    | false => exact h1
    | true =>
      simp only at h1 h2 h3 h4 h5 h6 h7 ⊢
      have h7 := h7 trivial
      refine ⟨h1.may, h1.nb, h1.ol, ?_, fun x hx => ?_, h1.kids, ?_, (fun _ _ e => by cases e), h1.kn, trivial, fun e => absurd rfl e⟩
      · have h0 := h.sd
        show (((_ :: r2.stack).length : Nat) : Int) ≤ r2.lim.d
        simp only [List.length_cons, h4, h6]
        simp at hd
        omega
      · rcases List.mem_cons.1 hx with rfl | hx
        · exact ⟨(by show f.out.length < r2.out.length; omega), (by show 0 + 0 ≤ r2.n; omega)⟩
        · exact h1.each x hx
      · show (if c == 123 then 3 else 1) ≤ 6
        split <;> omega
  | word r =>
    have e : J6.valueOn f c v (.word r) = match J6.one f v with
      | (false, g) => g
      | (true, g) => { g with now := .word r } := rfl
    rw [e]
    clear e
    generalize hr : J6.one f v = r at h1 h2 h3 h4 h5 h6 h7 ⊢
    obtain ⟨r1, r2⟩ := r
    cases r1 with
    | false => exact h1
    | true =>
      simp only at h1 h2 h3 h4 h5 h6 h7 ⊢
      have h7 := h7 trivial
      exact ⟨h1.may, h1.nb, h1.ol, h1.sd, h1.each, h1.kids, h1.nx, h1.st, h1.kn, (by show TokOk 0 r2.n _; rw [h5]; exact ht), (fun _ e => by have e : r2.out = [] := e; rw [e] at h7; simp at h7)⟩
  | num q tx =>
    have e : J6.valueOn f c v (.num q tx) = match J6.one f v with
      | (false, g) => g
      | (true, g) => { g with now := .num q tx } := rfl
    rw [e]
    clear e
    generalize hr : J6.one f v = r at h1 h2 h3 h4 h5 h6 h7 ⊢
    obtain ⟨r1, r2⟩ := r
    cases r1 with
    | false => exact h1
    | true =>
      simp only at h1 h2 h3 h4 h5 h6 h7 ⊢
      have h7 := h7 trivial
      exact ⟨h1.may, h1.nb, h1.ol, h1.sd, h1.each, h1.kids, h1.nx, h1.st, h1.kn, (by show TokOk 0 r2.n _; rw [h5]; exact ht), (fun _ e => by have e : r2.out = [] := e; rw [e] at h7; simp at h7)⟩
  | str tx =>
    have e : J6.valueOn f c v (.str tx) = match J6.one f v with
      | (false, g) => g
      | (true, g) => { g with now := .str tx } := rfl
    rw [e]
    clear e
    generalize hr : J6.one f v = r at h1 h2 h3 h4 h5 h6 h7 ⊢
    obtain ⟨r1, r2⟩ := r
    cases r1 with
    | false => exact h1
    | true =>
      simp only at h1 h2 h3 h4 h5 h6 h7 ⊢
      have h7 := h7 trivial
      exact ⟨h1.may, h1.nb, h1.ol, h1.sd, h1.each, h1.kids, h1.nx, h1.st, h1.kn, (by show TokOk 0 r2.n _; rw [h5]; exact ht), (fun _ e => by have e : r2.out = [] := e; rw [e] at h7; simp at h7)⟩
theorem num_first {c : UInt8} (h : (c == 45 || digit c.toNat) = true) : ∃ k, R6.numNext 0 c.toNat = some k ∧ numTake 0 [] c = (.takes, k, [c]) ∧ k ≤ 8 := by
  have hex : ∃ k, R6.numNext 0 c.toNat = some k := by
    unfold R6.numNext
    by_cases h1 : c.toNat = 45
    · exact ⟨1, by simp [h1]⟩
    · have hd : digit c.toNat = true := by
        rcases (by simpa using h : c = 45 ∨ digit c.toNat = true) with e | e
        · exact absurd (by rw [e]; rfl) h1
        · exact e
      by_cases h2 : c.toNat = 48
      · exact ⟨2, by simp [h2]⟩
      · exact ⟨3, by simp [h1, h2, hd]⟩
  obtain ⟨k, hk⟩ := hex
  exact ⟨k, hk, by unfold numTake; rw [hk]; rfl, numNext_le hk⟩
theorem OkK.value (h : OkK 0 f) (hn : 1 ≤ f.n) (c : UInt8) : OkK 0 (J6.value f c) := by
  unfold J6.value
  have h0 : TokOk 0 f.n (.str txt0) := ⟨ok0, by simp [pot, txt0]⟩
  split
  · exact h.valueOn _ _ rfl _ trivial
  split
  · exact h.valueOn _ _ rfl _ trivial
  split
  · exact h.valueOn _ _ rfl _ h0
  split
  · exact h.valueOn _ _ rfl _ (fun e => by cases e)
  split
  · exact h.valueOn _ _ rfl _ (fun e => by cases e)
  split
  · exact h.valueOn _ _ rfl _ (fun e => by cases e)
  split
  · rename_i hc
    obtain ⟨k, hk, hnt, hk8⟩ := num_first hc
    refine h.valueOn _ _ rfl _ ?_
    rw [hnt]
    exact ⟨hk8, by simp; omega⟩
  · exact h.wrong _ _
theorem OkK.structure (h : OkK 0 f) (hn : 1 ≤ f.n) (c : UInt8) : OkK 0 (structure_ f c) := by
  unfold structure_
  split
  · exact h
  simp only
  generalize (if J6.object f = true then (125 : UInt8) else 93) = ee
  split
  · refine OkK.over_of (f := { f with stack := f.stack.tail }) ⟨h.may, h.nb, h.ol, ?_, fun x hx => h.each x (List.mem_of_mem_tail hx), h.kids, (by show 6 ≤ 6; omega), (fun _ e => by have e : 6 ≤ 5 := e; omega), h.kn, h.tk, h.ne⟩
    have := h.sd
    show ((f.stack.tail.length : Nat) : Int) ≤ f.lim.d
    simp; omega
  split
  · exact h.value hn c
  split
  · rename_i hc
    obtain ⟨h1, h2, h3, h4, h5, h6, h7⟩ := h.one ⟨4, 0, []⟩ rfl
    generalize hr : J6.one f ⟨4, 0, []⟩ = r at h1 h2 h3 h4 h5 h6 h7 ⊢
    obtain ⟨r1, r2⟩ := r
    cases r1 with
    | false => exact h1
    | true =>
      simp only at h1 h2 h3 h4 h5 h6 h7 ⊢
      have h7 := h7 trivial
      cases hs : r2.stack with
      | nil => exact h1
      | cons x rest =>
        refine ⟨h1.may, h1.nb, h1.ol, ?_, fun y hy => ?_, h1.kids, (by show 2 ≤ 6; omega), (fun _ _ e => by cases e), h1.kn, ?_, (fun _ e => by have e : r2.out = [] := e; rw [e] at h7; simp at h7)⟩
        · have := h1.sd
          rw [hs] at this
          exact this
        · rcases List.mem_cons.1 hy with rfl | hy
          · exact h1.each x (by rw [hs]; exact List.mem_cons_self ..)
          · exact h1.each y (by rw [hs]; exact List.mem_cons_of_mem _ hy)
        · exact ⟨ok0, by simp [pot, txt0]⟩
  split
  · exact ⟨h.may, h.nb, h.ol, h.sd, h.each, h.kids, (by show 0 ≤ 6; omega), (fun e => by have e : 1 ≤ 0 := e; omega), h.kn, h.tk, h.ne⟩
  split
  · rename_i hc
    refine ⟨h.may, h.nb, h.ol, h.sd, h.each, h.kids, ?_, fun _ _ => h.st ?_ ?_, h.kn, h.tk, h.ne⟩
    · show (if object f then 2 else 0) ≤ 6
      split <;> omega
    · simp at hc; omega
    · simp at hc; omega
  · exact h.wrong _ _
/-- The token at hand ended. -/
theorem OkK.finish (h : OkK 1 { f with now := .none }) : OkK 0 (J6.finish f) := by
  have h0 := h.less (Nat.zero_le 1)
  unfold J6.finish
  have key : ∀ t : Bytes, OkK 0 { f with now := .none, out := setText f.out (f.out.length - 1) t } := fun t => by
    refine ⟨h.may, h.nb, ?_, h.sd, fun x hx => ?_, ?_, h.nx, h.st, Nat.zero_le _, trivial, fun e => absurd rfl e⟩
    · show ((setText f.out (f.out.length - 1) t).length : Int) ≤ f.lim.i
      rw [setText_len]; exact h.ol
    · have := h0.each x hx
      exact ⟨(by show x.no < (setText f.out (f.out.length - 1) t).length; rw [setText_len]; exact this.1), this.2⟩
    · show ∀ a ∈ setText f.out (f.out.length - 1) t, 0 ≤ a.kids ∧ a.kids ≤ ((setText f.out (f.out.length - 1) t).length : Int)
      rw [setText_len]
      exact kids_modify (fun _ => rfl) h.kids
  split
  · exact (key _).over
  · rename_i t hnow
    simp only
    split
    · rename_i hn
      split
      · exact key _
      · rename_i x rest hs
        split
        · exact (key _).wrong _ _
        · have hk := key t.out
          refine ⟨h.may, h.nb, hk.ol, ?_, fun y hy => ?_, hk.kids, (by show 4 ≤ 6; omega), (fun _ _ e => by cases e), Nat.zero_le _, trivial, fun e => absurd rfl e⟩
          · have := h.sd
            rw [hs] at this
            exact this
          · rcases List.mem_cons.1 hy with rfl | hy
            · have h1 := h.each x (by rw [hs]; exact List.mem_cons_self ..)
              refine ⟨?_, ?_⟩
              · show x.no < (setText f.out (f.out.length - 1) t.out).length
                rw [setText_len]; exact h1.1
              · show (x.names ++ [t.out]).length + 0 ≤ f.n
                have := h1.2
                simp; omega
            · exact hk.each y (by show y ∈ f.stack; rw [hs]; exact List.mem_cons_of_mem _ hy)
    · exact (key _).over
  · exact OkK.over ⟨h.may, h.nb, h.ol, h.sd, h0.each, h.kids, h.nx, h.st, Nat.zero_le _, trivial, fun e => absurd rfl e⟩
theorem one_lim (f : Feed) (v : Val) : (J6.one f v).2.lim = f.lim := by
  unfold J6.one
  split
  · rfl
  · split <;> rfl
theorem valueOn_lim (f : Feed) (c : Nat) (v : Val) (t : Tok) : (valueOn f c v t).lim = f.lim := by
  have h := one_lim f v
  cases t with
  | none =>
    have e : J6.valueOn f c v .none = if ((f.stack.length : Int) == f.lim.d) = true then J6.wrong f (f.n - 1 : Nat) 10 else
      match J6.one f v with
      | (false, g) => g
      | (true, g) => { g with now := .none, stack := ⟨f.out.length, 0, []⟩ :: g.stack, next := if c == 123 then 3 else 1 } := rfl
    rw [e]
    clear e
    split
    · rfl
    · generalize J6.one f v = r at h ⊢
      obtain ⟨r1, r2⟩ := r
      cases r1 <;> exact h
  | word r =>
    have e : J6.valueOn f c v (.word r) = match J6.one f v with
      | (false, g) => g
      | (true, g) => { g with now := .word r } := rfl
    rw [e]
    clear e
    generalize J6.one f v = r at h ⊢
    obtain ⟨r1, r2⟩ := r
    cases r1 <;> exact h
  | num q tx =>
    have e : J6.valueOn f c v (.num q tx) = match J6.one f v with
      | (false, g) => g
      | (true, g) => { g with now := .num q tx } := rfl
    rw [e]
    clear e
    generalize J6.one f v = r at h ⊢
    obtain ⟨r1, r2⟩ := r
    cases r1 <;> exact h
  | str tx =>
    have e : J6.valueOn f c v (.str tx) = match J6.one f v with
      | (false, g) => g
      | (true, g) => { g with now := .str tx } := rfl
    rw [e]
    clear e
    generalize J6.one f v = r at h ⊢
    obtain ⟨r1, r2⟩ := r
    cases r1 <;> exact h
theorem value_lim (f : Feed) (c : UInt8) : (value f c).lim = f.lim := by
  unfold J6.value
  repeat' split
  all_goals first | exact valueOn_lim .. | rfl
theorem structure_lim (f : Feed) (c : UInt8) : (structure_ f c).lim = f.lim := by
  unfold structure_
  split
  · rfl
  simp only
  generalize (if J6.object f = true then (125 : UInt8) else 93) = ee
  split
  · rfl
  split
  · exact value_lim f c
  split
  · have h := one_lim f ⟨4, 0, []⟩
    generalize J6.one f ⟨4, 0, []⟩ = r at h ⊢
    obtain ⟨r1, r2⟩ := r
    cases r1
    · exact h
    · show (match r2.stack with | [] => r2 | x :: rest => _ : Feed).lim = f.lim
      split <;> exact h
  split
  · rfl
  split <;> rfl
theorem finish_keeps (f : Feed) : (finish f).lim = f.lim ∧ (finish f).n = f.n ∧ (finish f).now = .none := by
  unfold J6.finish
  split
  · exact ⟨rfl, rfl, rfl⟩
  · simp only
    split
    · split
      · exact ⟨rfl, rfl, rfl⟩
      · split <;> exact ⟨rfl, rfl, rfl⟩
    · exact ⟨rfl, rfl, rfl⟩
  · exact ⟨rfl, rfl, rfl⟩
theorem byte_lim (f : Feed) (c : UInt8) : (byte f c).lim = f.lim := by
  unfold byte
  split
  · rfl
  · unfold takeC
    simp only
    split
    · exact structure_lim _ c
    · split
      · rfl
      · exact (finish_keeps _).1
      · rfl
      · rw [structure_lim]; exact (finish_keeps _).1
theorem write_lim : ∀ (s : Bytes) (f : Feed), (write f s).lim = f.lim
  | [], _ => rfl
  | c :: s, f => by
    rw [write_cons]
    split
    · rw [write_lim s, byte_lim]
    · rfl
theorem tok_take {n : Nat} {t : Tok} (h : TokOk 1 n t) (c : UInt8) (hr : (tokTake t c).1 = .takes) : TokOk 0 n (tokTake t c).2 := by
  cases t with
  | none => cases hr
  | word r =>
    show (wordTake r c).2 ≠ []
    have hr : (wordTake r c).1 = .takes := hr
    cases r with
    | nil => cases hr
    | cons b r =>
      have e : wordTake (b :: r) c = if c != b then (.refuses, b :: r) else if r.isEmpty then (.ends, r) else (.takes, r) := rfl
      rw [e] at hr ⊢
      by_cases h1 : (c != b) = true
      · rw [if_pos h1] at hr; cases hr
      · rw [if_neg h1] at hr ⊢
        by_cases h2 : r.isEmpty = true
        · rw [if_pos h2] at hr; cases hr
        · rw [if_neg h2]
          intro e
          have e : r = [] := e
          rw [e] at h2
          exact h2 rfl
  | num q t =>
    obtain ⟨h1, h2⟩ := h
    show (numTake q t c).2.1 ≤ 8 ∧ (numTake q t c).2.2.length + 0 ≤ n
    have hr : (numTake q t c).1 = .takes := hr
    unfold numTake at hr ⊢
    cases hq : R6.numNext q c.toNat with
    | some k => exact ⟨numNext_le hq, by simp; omega⟩
    | none =>
      rw [hq] at hr
      by_cases h3 : numEnd q = true
      · simp only [if_pos h3] at hr; cases hr
      · simp only [if_neg h3] at hr; cases hr
  | str t =>
    obtain ⟨h1, h2⟩ := h
    have hr : (txtTake t c).1 = .takes := hr
    have := pot_take h1 c hr
    exact ⟨h1.take c hr, by omega⟩
theorem OkK.byte (h : OkK 0 f) (c : UInt8) (he : (byte f c).err = 0) : OkK 0 (byte f c) := by
  revert he
  unfold J6.byte
  split
  · intro e; cases e
  rename_i hn
  have hm := h.more (by simpa using hn)
  have hm0 := hm.less (Nat.zero_le 1)
  unfold takeC
  simp only
  split
  · rename_i hnow
    intro _
    exact hm0.structure (by show 1 ≤ f.n + 1; omega) c
  · rename_i hnow
    have hfin : ∀ t, OkK 0 (J6.finish { f with n := f.n + 1, now := t }) := fun t => OkK.finish (f := { f with n := f.n + 1, now := t }) ⟨hm.may, hm.nb, hm.ol, hm.sd, hm.each, hm.kids, hm.nx, hm.st, hm.kn, trivial, fun e => absurd rfl e⟩
    split
    · rename_i hr
      intro _
      exact ⟨hm0.may, hm0.nb, hm0.ol, hm0.sd, hm0.each, hm0.kids, hm0.nx, hm0.st, hm0.kn, tok_take hm.tk c hr, fun _ => hm0.ne hnow⟩
    · intro _; exact hfin _
    · intro e; cases e
    · intro _
      have hk := finish_keeps { f with n := f.n + 1, now := (tokTake f.now c).2 }
      exact (hfin _).structure (by rw [hk.2.1]; show 1 ≤ f.n + 1; omega) c
structure Fits (f : Feed) : Prop where
  may : f.lim.may = true
  ok : f.err = 0 → OkK 0 f
theorem Fits.byte (h : Fits f) (he : f.err = 0) (c : UInt8) : Fits (byte f c) := ⟨by rw [byte_lim]; exact h.may, fun e => (h.ok he).byte c e⟩
theorem Fits.write : ∀ (s : Bytes) (f : Feed), Fits f → Fits (write f s)
  | [], _, h => h
  | c :: s, f, h => by
    rw [write_cons]
    split
    · rename_i he
      exact Fits.write s _ (h.byte (by simpa using he) c)
    · exact h
theorem fits0 {lim : Lim} (hm : lim.may = true) : Fits (init lim) := by
  have := may_parts6 hm
  exact ⟨hm, fun _ => ⟨hm, (by show (0 : Int) ≤ lim.b; omega), (by show (0 : Int) ≤ lim.i; omega), (by show (0 : Int) ≤ lim.d; omega), (fun x hx => by cases hx), (fun a ha => by cases ha), (by show 0 ≤ 6; omega), (fun e => by have e : 1 ≤ 0 := e; omega), Nat.le_refl _, trivial, fun e => absurd rfl e⟩⟩
end Go.Px.J6
