/-
  The feed, byte by byte, does what the reference's reader does: items, lists and pairs of them, and the whole (plain law). No program is named here.
-/
import Derived.Test.YtddiabaagpmkgaaDoorR7E
namespace Go.Px.R7
open Cf

section
variable {s : Bytes} {lim : Lim} {x y z : St} {p q k : Nat} {f g : Feed}

/-! Bytes and texts -/
theorem text_sim : ∀ (m : Nat) (x : St) (p : Nat) (f : Feed), At s lim x p f → f.next = 2 → f.more = m + 1 →
    match wantN s lim (m + 1) x p with
    | (true, y) => Moved s lim x p y (p + m + 1) ∧ y.out = x.out ∧ write f (s.drop p) = write (whole { f with text := s.take (p + m + 1), more := 0 }) (s.drop (p + m + 1))
    | (false, y) => Stuck s y (write f (s.drop p)) := by
  intro m
  induction m with
  | zero =>
    intro x p f h hn hm
    unfold wantN
    cases hw : want s lim x p with
    | mk b y =>
      cases b
      · exact want_no h (by omega) hw
      · obtain ⟨hp, hb, ey, hat, hwr, hget⟩ := want_yes h hw
        simp only [wantN]
        refine ⟨⟨by omega, hat.ps, hat.pb, hat.xerr, hat.taken, by rw [ey], by rw [ey]; exact h.ended, by rw [ey]⟩, by rw [ey], ?_⟩
        rw [hwr]
        unfold byteOn
        simp only [hn, hm]
        rw [if_neg (by simp), if_neg (by simp), if_pos (by simp), if_pos (by simp), ← hat.text]
  | succ m ih =>
    intro x p f h hn hm
    unfold wantN
    cases hw : want s lim x p with
    | mk b y =>
      cases b
      · exact want_no h (by omega) hw
      · obtain ⟨hp, hb, ey, hat, hwr, hget⟩ := want_yes h hw
        simp only
        have hby : byteOn { f with text := f.text ++ [s[p]] } s[p] = { f with text := f.text ++ [s[p]], more := f.more - 1 } := by
          unfold byteOn
          simp only [hn]
          rw [if_neg (by simp), if_neg (by simp), if_pos (by simp), if_neg (by simp; omega)]
        rw [hby] at hwr
        have hat' : At s lim y (p + 1) { f with text := f.text ++ [s[p]], more := f.more - 1 } := ⟨hat.fl, hat.text, hat.ps, hat.pb, hat.err, hat.xerr, hat.taken, hat.frames, hat.ended⟩
        have := ih y (p + 1) { f with text := f.text ++ [s[p]], more := f.more - 1 } hat' hn (by show f.more - 1 = m + 1; omega)
        have ep : p + 1 + m + 1 = p + (m + 1) + 1 := by omega
        rw [ep] at this
        cases ha : wantN s lim (m + 1) y (p + 1) with
        | mk o z =>
          rw [ha] at this
          cases o with
          | false =>
            simp only at this ⊢
            rw [hwr]; exact this
          | true =>
            simp only at this ⊢
            obtain ⟨t1, t2, t4⟩ := this
            have hmv : Moved s lim x p y (p + 1) := ⟨by omega, hat.ps, hat.pb, hat.xerr, hat.taken, by rw [ey], by rw [ey]; exact h.ended, by rw [ey]⟩
            exact ⟨hmv.trans t1, by rw [t2, ey], by rw [hwr, t4]⟩

/-- An item ended at its place p; now the reader is at q. -/
def Item (s : Bytes) (lim : Lim) (x : St) (p : Nat) (f : Feed) (r : Option Nat × St) : Prop :=
  match r with
  | (some q, y) => Moved s lim x p y q ∧ x.out.length < y.out.length ∧ (y.out.length : Int) ≤ lim.i ∧ p < q ∧ ∃ g v, write f (s.drop p) = write g (s.drop q) ∧ norm g = norm (ended { f with text := s.take q, out := y.out, next := v } p)
  | (none, y) => Stuck s y (write f (s.drop p))

theorem textN_sim {n p0 i : Nat} (hx : Moved s lim x p0 y p) (hp : p0 < p) (hf : x.frames = f.stack.length) (hfl : f.lim = lim) (hfe : f.err = 0) (ho : f.out = x.out) (hyo : y.out = x.out) (hol : (x.out.length : Int) < lim.i) (m : Nat) (v : Int) (hk : k = 2 ∨ k = 3)
    (hw : write f (s.drop p0) = write (known { f with text := s.take p, kind := (k : Nat), hat := p0, info := i, num := n, more := m, next := v }) (s.drop p)) :
    Item s lim x p0 f (textN s lim k n y p0 p) := by
  have hkn : known { f with text := s.take p, kind := (k : Nat), hat := p0, info := i, num := n, more := m, next := v } = (if n == 0 then whole { f with text := s.take p, kind := (k : Nat), hat := p0, info := i, num := n, more := n, next := 2 } else { f with text := s.take p, kind := (k : Nat), hat := p0, info := i, num := n, more := n, next := 2 }) := by
    unfold known
    rw [if_pos (by simp; omega)]
  rw [hkn] at hw
  have key : ∀ z, Moved s lim x p0 z (p + n) → z.out = x.out → write f (s.drop p0) = write (whole { f with text := s.take (p + n), kind := (k : Nat), hat := p0, info := i, num := n, more := 0, next := 2 }) (s.drop (p + n)) →
      Item s lim x p0 f (let t := (s.take (p + n)).drop p
        if k == 3 && !Lib.validD t then (none, fault z p0 9) else (some (p + n), { z with out := z.out ++ [⟨k, 0, t⟩] })) := by
    intro z hz hzo hwz
    have hlen : (s.take (p + n)).length - n = p := by rw [List.length_take, Nat.min_eq_left hz.qs]; omega
    unfold whole at hwz
    simp only at hwz ⊢
    rw [hlen] at hwz
    have hk3 : ((k : Int) == 3) = (k == 3) := by
      rcases hk with rfl | rfl <;> rfl
    rw [hk3] at hwz
    by_cases hv : (k == 3 && !Lib.validD ((s.take (p + n)).drop p)) = true
    · rw [if_pos hv] at hwz ⊢
      show Stuck _ _ _
      rw [hwz]
      exact (hz.at { f with text := s.take (p + n), kind := (k : Nat), hat := p0, info := i, num := n, more := 0, next := 2 } hfl rfl hfe hf).stuck_wrong p0 9 (by omega) _
    · rw [if_neg hv] at hwz ⊢
      refine ⟨⟨hz.le, hz.qs, hz.qb, hz.err, hz.taken, hz.frames, hz.ended, hz.place⟩, by simp [hzo], by simp [hzo]; omega, by omega, _, 2, hwz, ?_⟩
      refine ended_congr ?_ p0
      simp [norm, hand, ho, hzo]
  unfold textN
  by_cases h0 : n = 0
  · subst h0
    rw [if_pos (by simp)] at hw
    simp only [wantN]
    exact key y hx hyo hw
  · rw [if_neg (by simpa using h0)] at hw
    obtain ⟨j, rfl⟩ : ∃ j, n = j + 1 := ⟨n - 1, by omega⟩
    have := text_sim j y p { f with text := s.take p, kind := (k : Nat), hat := p0, info := i, num := j + 1, more := j + 1, next := 2 } (hx.at _ hfl rfl hfe hf) rfl rfl
    cases ha : wantN s lim (j + 1) y p with
    | mk o z =>
      rw [ha] at this
      cases o with
      | false =>
        simp only at this ⊢
        show Stuck _ _ _
        rw [hw]; exact this
      | true =>
        simp only at this
        obtain ⟨t1, t2, t3⟩ := this
        exact key z (hx.trans t1) (t2.trans hyo) (hw.trans t3)

/-- The feed's state where its innermost one is y, at a place. -/
def base (s : Bytes) (f0 : Feed) (at_ : Nat) (o : List Atom) (st : List Fm) : Feed := { f0 with text := s.take at_, out := o, stack := st }
def Items (s : Bytes) (lim : Lim) (x : St) (at_ : Nat) (f : Feed) (c : Nat) (E : Nat → List Atom → Feed) (r : Option Nat × St) : Prop :=
  match r with
  | (some q, y) => Moved s lim x at_ y q ∧ x.out.length + c ≤ y.out.length ∧ (y.out.length : Int) ≤ lim.i ∧ ∃ g, write f (s.drop at_) = write g (s.drop q) ∧ norm g = norm (E q y.out)
  | (none, y) => Stuck s y (write f (s.drop at_))

theorem settle_pos {f : Feed} {x : Fm} {st : List Fm} (hs : f.stack = x :: st) (hl : 0 < x.left) : settle f = { f with next := 0 } := by
  unfold settle
  rw [hs]
  simp only [List.length_cons]
  unfold settleN
  simp only
  rw [if_pos hl]
theorem ended_plain {f : Feed} {x : Fm} {st : List Fm} (hs : f.stack = x :: st) (hk : isKey x = false) (p : Nat) : ended f p = settle { f with stack := countedTop x :: st } := by
  unfold ended counted
  rw [hs]
  simp only [hk]
  rfl

theorem settle_zero {f : Feed} {x : Fm} {st : List Fm} (hs : f.stack = x :: st) (hl : x.left = 0) : settle f = ended { f with stack := st, next := 0 } x.at_ := by
  unfold settle
  rw [hs]
  simp only [List.length_cons]
  unfold settleN
  simp only
  rw [if_neg (by omega)]
  unfold ended
  have h1 := counted_len { f with stack := st, next := 0 } x.at_
  have h2 := counted_next { f with stack := st, next := 0 } x.at_
  cases hc : Cf.counted { f with stack := st, next := 0 } x.at_ with
  | mk cb g =>
    rw [hc] at h1 h2
    cases cb
    · rfl
    · simp only at h1 h2 ⊢
      unfold settle
      rw [h1]
      congr 1
      rw [← h2]
theorem ended_key {f : Feed} {x : Fm} {st : List Fm} (hs : f.stack = x :: st) (hk : isKey x = true) (p : Nat) :
    ended f p = if x.any && leB (f.text.drop p) x.key then wrong f p 9 else settle { f with stack := countedKey x (f.text.drop p) :: st } := by
  unfold ended counted
  rw [hs]
  simp only [hk]
  by_cases h : (x.any && leB (f.text.drop p) x.key) = true
  · rw [if_pos h]; simp only [h]; rfl
  · rw [if_neg h]; simp only [h]; rfl

theorem items_sim (rc : St → Nat → Option Nat × St) (d : Nat) (hrc : ∀ x p f, Sim s lim x p f d → (x.out.length : Int) ≤ lim.i → Item s lim x p f (rc x p)) (f0 : Feed) (hl0 : f0.lim = lim) (he0 : f0.err = 0) (y : Fm) (st : List Fm) (hy : y.kind ≠ 5) (hd : ((st.length + 1 + d : Nat) : Int) = lim.d) :
    ∀ (m : Nat) (x : St) (at_ : Nat) (f : Feed), at_ ≤ s.length → (at_ : Int) ≤ lim.b → x.err = 0 → x.taken = at_ → x.frames = st.length + 1 → x.ended = false → (x.out.length : Int) ≤ lim.i →
      norm f = norm (settle (base s f0 at_ x.out ({ y with left := m } :: st))) →
      Items s lim x at_ f m (fun q o => ended { base s f0 q o st with next := 0 } y.at_) (itemsN rc m x at_) := by
  intro m
  induction m with
  | zero =>
    intro x at_ f h1 h2 h3 h4 h5 h6 h7 hn
    rw [settle_zero (x := { y with left := 0 }) rfl rfl] at hn
    exact ⟨⟨Nat.le_refl _, h1, h2, h3, h4, rfl, h6, rfl⟩, Nat.le_refl _, h7, f, rfl, hn⟩
  | succ m ih =>
    intro x at_ f h1 h2 h3 h4 h5 h6 h7 hn
    rw [settle_pos (x := { y with left := m + 1 }) rfl (Nat.succ_pos m)] at hn
    have hsim : Sim s lim x at_ { base s f0 at_ x.out ({ y with left := m + 1 } :: st) with next := 0 } d := ⟨⟨hl0, rfl, h1, h2, he0, h3, h4, h5, h6⟩, rfl, rfl, hd⟩
    have hi := hrc x at_ f (hsim.norm hn.symm) h7
    unfold itemsN
    cases hr : rc x at_ with
    | mk o z =>
      rw [hr] at hi
      cases o with
      | none => exact hi
      | some q =>
        simp only
        obtain ⟨i1, i2, i3, i4, g, v, i5, i6⟩ := hi
        have hg : norm g = norm (settle (base s f0 q z.out ({ y with left := m } :: st))) := by
          rw [i6]
          have e : norm { f with text := s.take q, out := z.out, next := v } = norm { base s f0 q z.out ({ y with left := m + 1 } :: st) with next := v } := by
            rw [hand_of_norm hn.symm]
            rfl
          rw [ended_congr e, ended_plain (x := { y with left := m + 1 }) rfl (by unfold isKey; simp [hy])]
          rfl
        have := ih z q g i1.qs i1.qb i1.err i1.taken (i1.frames.trans h5) i1.ended i3 hg
        cases hr2 : itemsN rc m z q with
        | mk o2 z2 =>
          rw [hr2] at this
          cases o2 with
          | none =>
            show Stuck _ _ _
            rw [i5]; exact this
          | some r =>
            obtain ⟨j1, j2, j3, g2, j5, j6⟩ := this
            exact ⟨i1.trans j1, by omega, j3, g2, i5.trans j5, j6⟩

/-- A list's key so far. -/
def keyFm (y : Fm) (left : Nat) (last : Option Bytes) : Fm := { y with left := left, key := last.getD [], any := last.isSome }

theorem pairs_sim (rc : St → Nat → Option Nat × St) (d : Nat) (hrc : ∀ x p f, Sim s lim x p f d → (x.out.length : Int) ≤ lim.i → Item s lim x p f (rc x p)) (f0 : Feed) (hl0 : f0.lim = lim) (he0 : f0.err = 0) (y : Fm) (st : List Fm) (hy : y.kind = 5) (hd : ((st.length + 1 + d : Nat) : Int) = lim.d) :
    ∀ (m : Nat) (last : Option Bytes) (x : St) (at_ : Nat) (f : Feed), at_ ≤ s.length → (at_ : Int) ≤ lim.b → x.err = 0 → x.taken = at_ → x.frames = st.length + 1 → x.ended = false → (x.out.length : Int) ≤ lim.i →
      norm f = norm (settle (base s f0 at_ x.out (keyFm y (2 * m) last :: st))) →
      Items s lim x at_ f m (fun q o => ended { base s f0 q o st with next := 0 } y.at_) (pairsN s rc m last x at_) := by
  intro m
  induction m with
  | zero =>
    intro last x at_ f h1 h2 h3 h4 h5 h6 h7 hn
    rw [settle_zero (x := keyFm y (2 * 0) last) rfl rfl] at hn
    exact ⟨⟨Nat.le_refl _, h1, h2, h3, h4, rfl, h6, rfl⟩, Nat.le_refl _, h7, f, rfl, hn⟩
  | succ m ih =>
    intro last x at_ f h1 h2 h3 h4 h5 h6 h7 hn
    rw [settle_pos (x := keyFm y (2 * (m + 1)) last) rfl (by show 0 < 2 * (m + 1); omega)] at hn
    have hsim : Sim s lim x at_ { base s f0 at_ x.out (keyFm y (2 * (m + 1)) last :: st) with next := 0 } d := ⟨⟨hl0, rfl, h1, h2, he0, h3, h4, h5, h6⟩, rfl, rfl, hd⟩
    have hi := hrc x at_ f (hsim.norm hn.symm) h7
    unfold pairsN
    cases hr : rc x at_ with
    | mk o z =>
      rw [hr] at hi
      cases o with
      | none => exact hi
      | some q =>
        simp only
        obtain ⟨i1, i2, i3, i4, g, v, i5, i6⟩ := hi
        have e : norm { f with text := s.take q, out := z.out, next := v } = norm { base s f0 q z.out (keyFm y (2 * (m + 1)) last :: st) with next := v } := by
          rw [hand_of_norm hn.symm]
          rfl
        rw [ended_congr e, ended_key (x := keyFm y (2 * (m + 1)) last) rfl (by unfold isKey; simp [keyFm, hy])] at i6
        have i6 : norm g = norm (if ((keyFm y (2 * (m + 1)) last).any && leB ((s.take q).drop at_) (keyFm y (2 * (m + 1)) last).key) = true then wrong { base s f0 q z.out (keyFm y (2 * (m + 1)) last :: st) with next := v } at_ 9
            else settle { base s f0 q z.out (countedKey (keyFm y (2 * (m + 1)) last) ((s.take q).drop at_) :: st) with next := v }) := i6
        have hany : (last.any fun l => leB ((s.take q).drop at_) l) = ((keyFm y (2 * (m + 1)) last).any && leB ((s.take q).drop at_) (keyFm y (2 * (m + 1)) last).key) := by
          cases last <;> simp [keyFm]
        rw [hany]
        by_cases hb : ((keyFm y (2 * (m + 1)) last).any && leB ((s.take q).drop at_) (keyFm y (2 * (m + 1)) last).key) = true
        · rw [if_pos hb]
          rw [if_pos hb] at i6
          show Stuck _ _ _
          rw [i5]
          have hat : At s lim z q { base s f0 q z.out (keyFm y (2 * (m + 1)) last :: st) with next := v } := i1.at _ hl0 rfl he0 h5
          exact (hat.stuck_wrong at_ 9 (by omega) (s.drop q)).norm (write_norm _ _ _ i6.symm (.inr (.inr (by simp [wrong]))))
        · rw [if_neg hb]
          rw [if_neg hb] at i6
          have i7 : norm g = norm { base s f0 q z.out (keyFm y (2 * m + 1) (some ((s.take q).drop at_)) :: st) with next := 0 } := by
            rw [i6, settle_pos (x := countedKey (keyFm y (2 * (m + 1)) last) ((s.take q).drop at_)) rfl (by show 0 < 2 * (m + 1) - 1; omega)]
            rfl
          have hsim2 : Sim s lim z q { base s f0 q z.out (keyFm y (2 * m + 1) (some ((s.take q).drop at_)) :: st) with next := 0 } d :=
            ⟨⟨hl0, rfl, i1.qs, i1.qb, he0, i1.err, i1.taken, i1.frames.trans h5, i1.ended⟩, rfl, rfl, hd⟩
          have hj := hrc z q g (hsim2.norm i7.symm) i3
          cases hr2 : rc z q with
          | mk o2 z2 =>
            rw [hr2] at hj
            cases o2 with
            | none =>
              show Stuck _ _ _
              rw [i5]; exact hj
            | some r =>
              simp only
              obtain ⟨j1, j2, j3, j4, g2, v2, j5, j6⟩ := hj
              have e2 : norm { g with text := s.take r, out := z2.out, next := v2 } = norm { base s f0 r z2.out (keyFm y (2 * m + 1) (some ((s.take q).drop at_)) :: st) with next := v2 } := by
                rw [hand_of_norm i7.symm]
                rfl
              have hg : norm g2 = norm (settle (base s f0 r z2.out (keyFm y (2 * m) (some ((s.take q).drop at_)) :: st))) := by
                rw [j6, ended_congr e2, ended_plain (x := keyFm y (2 * m + 1) (some ((s.take q).drop at_))) rfl (by unfold isKey; simp [keyFm])]
                rfl
              have := ih (some ((s.take q).drop at_)) z2 r g2 j1.qs j1.qb j1.err j1.taken (j1.frames.trans (i1.frames.trans h5)) j1.ended j3 hg
              cases hr3 : pairsN s rc m (some ((s.take q).drop at_)) z2 r with
              | mk o3 z3 =>
                rw [hr3] at this
                cases o3 with
                | none =>
                  show Stuck _ _ _
                  rw [i5, j5]; exact this
                | some t =>
                  obtain ⟨k1, k2, k3, g3, k5, k6⟩ := this
                  exact ⟨(i1.trans j1).trans k1, by omega, k3, g3, (i5.trans j5).trans k5, k6⟩

/-! So many pairs that the reader never comes to their end -/
theorem pairsN_more (rc : St → Nat → Option Nat × St) : ∀ (m j : Nat) (last : Option Bytes) (x : St) (p : Nat) (y : St), pairsN s rc m last x p = (none, y) → pairsN s rc (m + j) last x p = (none, y) := by
  intro m
  induction m with
  | zero => intro j last x p y h; unfold pairsN at h; simp at h
  | succ m ih =>
    intro j last x p y h
    rw [show m + 1 + j = (m + j) + 1 by omega]
    unfold pairsN at h ⊢
    cases hr : rc x p with
    | mk o z =>
      rw [hr] at h
      cases o with
      | none => exact h
      | some q =>
        simp only at h ⊢
        split
        · rename_i hc; rw [if_pos hc] at h; exact h
        · rename_i hc; rw [if_neg hc] at h
          cases hr2 : rc z q with
          | mk o2 z2 =>
            rw [hr2] at h
            cases o2 with
            | none => exact h
            | some r => exact ih j _ z2 r y h

/-! An item; the whole -/
theorem hold_fin {k n : Nat} {F f : Feed} {p q c : Nat} {rc : St → Nat → Option Nat × St} (hmv : Moved s lim x p y q) (hyo : y.out = x.out) (hpq : p < q) (hw : write f (s.drop p) = write F (s.drop q)) (r : Option Nat × St)
    (hi : Items s lim { y with out := y.out ++ [⟨k, n, []⟩], frames := y.frames + 1 } q F c (fun q o => ended { base s f q o f.stack with next := 0 } p) r)
    (hr : (if k == 4 then itemsN rc n { y with out := y.out ++ [⟨k, n, []⟩], frames := y.frames + 1 } q else if k == 5 then pairsN s rc n none { y with out := y.out ++ [⟨k, n, []⟩], frames := y.frames + 1 } q else rc { y with out := y.out ++ [⟨k, n, []⟩], frames := y.frames + 1 } q) = r) :
    Item s lim x p f (holdN s rc k n y q) := by
  unfold holdN
  simp only [hr]
  obtain ⟨o, z⟩ := r
  cases o with
  | none =>
    show Stuck _ _ _
    rw [hw]; exact hi
  | some t =>
    obtain ⟨j1, j2, j3, g, j5, j6⟩ := hi
    have hf : z.frames - 1 = x.frames := by rw [j1.frames]; show y.frames + 1 - 1 = x.frames; rw [hmv.frames]; omega
    refine ⟨⟨Nat.le_trans hmv.le j1.le, j1.qs, j1.qb, j1.err, j1.taken, hf, j1.ended, j1.place.trans hmv.place⟩, ?_, j3, ?_, g, 0, hw.trans j5, j6⟩
    · simp only [hyo, List.length_append, List.length_singleton] at j2
      show x.out.length < z.out.length
      omega
    · have := j1.le; omega
theorem itemsN_one (rc : St → Nat → Option Nat × St) (x : St) (p : Nat) : itemsN rc 1 x p = rc x p := by
  unfold itemsN
  cases h : rc x p with
  | mk o y => cases o <;> rfl
theorem item_sim (hm : lim.may = true) : ∀ (d : Nat) (x : St) (p : Nat) (f : Feed), Sim s lim x p f d → (x.out.length : Int) ≤ lim.i → Item s lim x p f (item s lim d x p) := by
  have hmay := may_of hm
  have plain : ∀ (d : Nat) (x : St) (p : Nat) (f : Feed) (kk n q : Nat) (y : St) (i m : Nat) (v : Int), Sim s lim x p f d → Moved s lim x p y q → p < q → y.out = x.out → (x.out.length : Int) < lim.i → kk < 8 → ¬ (kk == 2 || kk == 3) = true → ¬ (kk == 4 || kk == 5 || kk == 6) = true →
      write f (s.drop p) = write (known { f with text := s.take q, kind := (kk : Nat), hat := p, info := i, num := n, more := m, next := v }) (s.drop q) →
      Item s lim x p f (some q, { y with out := y.out ++ [⟨kk, n, []⟩] }) := by
    intro d x p f kk n q y i m v h hmv hpq hyo hlt h8 h23 h456 hw
    simp only [Bool.or_eq_true, beq_iff_eq, not_or] at h23 h456
    have hkn : known { f with text := s.take q, kind := (kk : Nat), hat := p, info := i, num := n, more := m, next := v } = ended { f with text := s.take q, kind := (kk : Nat), hat := p, info := i, num := n, more := m, next := v, out := f.out ++ [⟨kk, n, []⟩] } p := by
      unfold known
      rw [if_neg (by simp; omega), if_neg (by simp; omega), if_neg (by simp; omega), if_neg (by simp; omega)]
    rw [hkn] at hw
    refine ⟨⟨hmv.le, hmv.qs, hmv.qb, hmv.err, hmv.taken, hmv.frames, hmv.ended, hmv.place⟩, by simp [hyo], by simp [hyo]; omega, hpq, _, v, hw, ?_⟩
    refine ended_congr ?_ p
    simp [norm, hand, h.out, hyo]
  intro d
  induction d with
  | zero =>
    intro x p f h hol
    unfold item
    have hh := head_sim h.toAt h.next h.out hol
    cases hr : R7.head s lim x p with
    | mk o y =>
      rw [hr] at hh
      cases o with
      | none => exact hh
      | some t =>
        obtain ⟨kk, n, q⟩ := t
        simp only at hh ⊢
        obtain ⟨hmv, hpq, hyo, hn, h8, hlt, i, m, v, hw⟩ := hh
        by_cases h23 : (kk == 2 || kk == 3) = true
        · rw [if_pos h23]
          exact textN_sim hmv hpq h.frames h.fl h.err h.out hyo hlt m v (by simpa using h23) hw
        · rw [if_neg h23]
          by_cases h456 : (kk == 4 || kk == 5 || kk == 6) = true
          · rw [if_pos h456]
            have hdeep : ((f.stack.length : Int) == f.lim.d) = true := by
              have := h.deep
              rw [h.fl]
              simpa using this
            have hop : ∀ N, opens { f with text := s.take q, kind := (kk : Nat), hat := p, info := i, num := n, more := m, next := v } N = wrong { f with text := s.take q, kind := (kk : Nat), hat := p, info := i, num := n, more := m, next := v } p 10 := fun N => by
              unfold opens
              exact if_pos hdeep
            have hkn : known { f with text := s.take q, kind := (kk : Nat), hat := p, info := i, num := n, more := m, next := v } = wrong { f with text := s.take q, kind := (kk : Nat), hat := p, info := i, num := n, more := m, next := v } p 10 := by
              simp only [Bool.or_eq_true, beq_iff_eq, not_or] at h23 h456
              unfold known
              rw [if_neg (by simp; omega)]
              rcases h456 with (rfl | rfl) | rfl
              · rw [if_pos (by simp), hop]
              · rw [if_neg (by simp), if_pos (by simp), hop]
              · rw [if_neg (by simp), if_neg (by simp), if_pos (by simp), hop]
            show Stuck _ _ _
            rw [hw, hkn]
            exact (hmv.at { f with text := s.take q, kind := (kk : Nat), hat := p, info := i, num := n, more := m, next := v } h.fl rfl h.err h.frames).stuck_wrong p 10 (by omega) _
          · rw [if_neg h456]
            exact plain 0 x p f kk n q y i m v h hmv hpq hyo hlt h8 h23 h456 hw
  | succ d ih =>
    intro x p f h hol
    unfold item
    have hh := head_sim h.toAt h.next h.out hol
    cases hr : R7.head s lim x p with
    | mk o y =>
      rw [hr] at hh
      cases o with
      | none => exact hh
      | some t =>
        obtain ⟨kk, n, q⟩ := t
        simp only at hh ⊢
        obtain ⟨hmv, hpq, hyo, hn, h8, hlt, i, m, v, hw⟩ := hh
        by_cases h23 : (kk == 2 || kk == 3) = true
        · rw [if_pos h23]
          exact textN_sim hmv hpq h.frames h.fl h.err h.out hyo hlt m v (by simpa using h23) hw
        · rw [if_neg h23]
          by_cases h456 : (kk == 4 || kk == 5 || kk == 6) = true
          · rw [if_pos h456]
            have hdeep : ((f.stack.length : Int) == f.lim.d) = false := by
              have := h.deep
              rw [h.fl]
              simp
              omega
            have hd : ((f.stack.length + 1 + d : Nat) : Int) = lim.d := by have := h.deep; omega
            have hop : ∀ N, opens { f with text := s.take q, kind := (kk : Nat), hat := p, info := i, num := n, more := m, next := v } N
                = settle (base s { f with kind := (kk : Nat), hat := p, info := i, num := n, more := m } q (f.out ++ [⟨kk, n, []⟩]) (⟨kk, p, i, n, m, N, [], false⟩ :: f.stack)) := fun N => by
              unfold opens
              exact if_neg (by simpa using hdeep)
            have hout : f.out ++ [⟨(kk : Int), n, []⟩] = ({ y with out := y.out ++ [⟨kk, n, []⟩], frames := y.frames + 1 } : St).out := by rw [h.out, ← hyo]
            have hol2 : (({ y with out := y.out ++ [⟨kk, n, []⟩], frames := y.frames + 1 } : St).out.length : Int) ≤ lim.i := by simp [hyo]; omega
            have hfr : ({ y with out := y.out ++ [⟨kk, n, []⟩], frames := y.frames + 1 } : St).frames = f.stack.length + 1 := by show y.frames + 1 = _; rw [hmv.frames, h.frames]
            simp only [Bool.or_eq_true, beq_iff_eq, not_or] at h23 h456
            rcases h456 with (rfl | rfl) | rfl
            · have hkn : known { f with text := s.take q, kind := ((4 : Nat) : Int), hat := p, info := i, num := n, more := m, next := v } = opens { f with text := s.take q, kind := ((4 : Nat) : Int), hat := p, info := i, num := n, more := m, next := v } n := by
                unfold known
                rw [if_neg (by simp), if_pos (by simp)]
              rw [hkn, hop] at hw
              refine hold_fin (F := settle (base s { f with kind := ((4 : Nat) : Int), hat := p, info := i, num := n, more := m } q (f.out ++ [⟨(4 : Nat), n, []⟩]) (⟨(4 : Nat), p, i, n, m, n, [], false⟩ :: f.stack))) (c := n) hmv hyo hpq hw _ ?_ (if_pos (by rfl))
              have := items_sim (s := s) (lim := lim) (item s lim d) d (fun x p f => ih x p f) f h.fl h.err ⟨(4 : Nat), p, i, n, m, n, [], false⟩ f.stack (by simp) hd n { y with out := y.out ++ [⟨(4 : Nat), n, []⟩], frames := y.frames + 1 } q
                (settle (base s { f with kind := ((4 : Nat) : Int), hat := p, info := i, num := n, more := m } q (f.out ++ [⟨(4 : Nat), n, []⟩]) (⟨(4 : Nat), p, i, n, m, n, [], false⟩ :: f.stack))) hmv.qs hmv.qb hmv.err hmv.taken hfr hmv.ended hol2 (settle_congr (by rw [hout]; rfl))
              exact this
            · have hkn : known { f with text := s.take q, kind := ((5 : Nat) : Int), hat := p, info := i, num := n, more := m, next := v } = opens { f with text := s.take q, kind := ((5 : Nat) : Int), hat := p, info := i, num := n, more := m, next := v } (2 * min n 1099511627776) := by
                unfold known
                rw [if_neg (by simp), if_neg (by simp), if_pos (by simp)]
              rw [hkn, hop] at hw
              have hps := pairs_sim (s := s) (lim := lim) (item s lim d) d (fun x p f => ih x p f) f h.fl h.err ⟨(5 : Nat), p, i, n, m, 0, [], false⟩ f.stack (by simp) hd (min n 1099511627776) none { y with out := y.out ++ [⟨(5 : Nat), n, []⟩], frames := y.frames + 1 } q
                (settle (base s { f with kind := ((5 : Nat) : Int), hat := p, info := i, num := n, more := m } q (f.out ++ [⟨(5 : Nat), n, []⟩]) (⟨(5 : Nat), p, i, n, m, 2 * min n 1099511627776, [], false⟩ :: f.stack))) hmv.qs hmv.qb hmv.err hmv.taken hfr hmv.ended hol2 (settle_congr (by rw [hout]; rfl))
              have hsame : pairsN s (item s lim d) n none { y with out := y.out ++ [⟨(5 : Nat), n, []⟩], frames := y.frames + 1 } q = pairsN s (item s lim d) (min n 1099511627776) none { y with out := y.out ++ [⟨(5 : Nat), n, []⟩], frames := y.frames + 1 } q := by
                by_cases hle : n ≤ 1099511627776
                · rw [Nat.min_eq_left hle]
                · have hmin : min n 1099511627776 = 1099511627776 := Nat.min_eq_right (by omega)
                  rw [hmin] at hps ⊢
                  cases hr2 : pairsN s (item s lim d) 1099511627776 none { y with out := y.out ++ [⟨(5 : Nat), n, []⟩], frames := y.frames + 1 } q with
                  | mk o z =>
                    rw [hr2] at hps
                    cases o with
                    | none =>
                      have := pairsN_more (s := s) (item s lim d) 1099511627776 (n - 1099511627776) none _ q z hr2
                      rw [show 1099511627776 + (n - 1099511627776) = n by omega] at this
                      exact this
                    | some t =>
                      obtain ⟨_, j2, j3, _⟩ := hps
                      exfalso
                      have : z.out.length ≤ 4096 := by have := hmay; omega
                      omega
              refine hold_fin (F := settle (base s { f with kind := ((5 : Nat) : Int), hat := p, info := i, num := n, more := m } q (f.out ++ [⟨(5 : Nat), n, []⟩]) (⟨(5 : Nat), p, i, n, m, 2 * min n 1099511627776, [], false⟩ :: f.stack))) (c := min n 1099511627776) hmv hyo hpq hw _ hps ?_
              rw [if_neg (by simp), if_pos (by simp)]
              exact hsame
            · have hkn : known { f with text := s.take q, kind := ((6 : Nat) : Int), hat := p, info := i, num := n, more := m, next := v } = opens { f with text := s.take q, kind := ((6 : Nat) : Int), hat := p, info := i, num := n, more := m, next := v } 1 := by
                unfold known
                rw [if_neg (by simp), if_neg (by simp), if_neg (by simp), if_pos (by simp)]
              rw [hkn, hop] at hw
              refine hold_fin (F := settle (base s { f with kind := ((6 : Nat) : Int), hat := p, info := i, num := n, more := m } q (f.out ++ [⟨(6 : Nat), n, []⟩]) (⟨(6 : Nat), p, i, n, m, 1, [], false⟩ :: f.stack))) (c := 1) hmv hyo hpq hw _ ?_ ((if_neg (by simp)).trans ((if_neg (by simp)).trans (itemsN_one _ _ _).symm))
              have := items_sim (s := s) (lim := lim) (item s lim d) d (fun x p f => ih x p f) f h.fl h.err ⟨(6 : Nat), p, i, n, m, 1, [], false⟩ f.stack (by simp) hd 1 { y with out := y.out ++ [⟨(6 : Nat), n, []⟩], frames := y.frames + 1 } q
                (settle (base s { f with kind := ((6 : Nat) : Int), hat := p, info := i, num := n, more := m } q (f.out ++ [⟨(6 : Nat), n, []⟩]) (⟨(6 : Nat), p, i, n, m, 1, [], false⟩ :: f.stack))) hmv.qs hmv.qb hmv.err hmv.taken hfr hmv.ended hol2 (settle_congr (by rw [hout]; rfl))
              exact this
          · rw [if_neg h456]
            exact plain (d + 1) x p f kk n q y i m v h hmv hpq hyo hlt h8 h23 h456 hw
end

/-- The feed tells what the reference's reader tells. -/
theorem feed_ref (s : Bytes) (lim : Lim) (hm : lim.may = true) :
    (write (init lim) s).err = (if (read s lim).ended then 0 else (read s lim).err) ∧ Cf.End (write (init lim) s) = (list (read s lim), (read s lim).place, (read s lim).err) ∧
      (write (init lim) s).text.length = (read s lim).taken ∧ (write (init lim) s).stack.length = (read s lim).frames := by
  have hmay := may_of hm
  have hsim : Sim s lim start 0 (init lim) lim.d.toNat := ⟨⟨rfl, by simp [init], Nat.zero_le _, by omega, rfl, rfl, rfl, rfl, rfl⟩, rfl, rfl, by show ((0 + lim.d.toNat : Nat) : Int) = lim.d; omega⟩
  have hi := item_sim (s := s) hm lim.d.toNat start 0 (init lim) hsim (by show ((0 : Nat) : Int) ≤ lim.i; omega)
  have fin : ∀ (x : St) (g : Feed), Stuck s x g → g.err = (if x.ended then 0 else x.err) ∧ Cf.End g = (list x, x.place, x.err) ∧ g.text.length = x.taken ∧ g.stack.length = x.frames := by
    intro x g h
    refine ⟨?_, ?_, h.taken, h.frames⟩
    · cases he : x.ended
      · simpa using (h.told he).1
      · simpa using (h.ended he).1
    · have hl : list x = [] := by
        unfold list
        rw [if_neg (by simpa using h.xerr)]
      rw [hl]
      unfold Cf.End
      cases he : x.ended
      · have ht := h.told he
        rw [if_pos (by rw [ht.1]; simpa using h.xerr), ht.1, ht.2]
      · obtain ⟨h1, h2, h3, h4, h5⟩ := h.ended he
        rw [if_neg (by simp [h1]), if_pos (by simpa using h2), h3, h4, h5]
  unfold read
  cases hr : item s lim lim.d.toNat start 0 with
  | mk o x =>
    rw [hr] at hi
    cases o with
    | none => exact fin x _ hi
    | some q =>
      obtain ⟨i1, i2, i3, i4, g, v, i5, i6⟩ := hi
      rw [show s.drop 0 = s from rfl] at i5
      have e6 : ended { init lim with text := s.take q, out := x.out, next := v } 0 = { init lim with text := s.take q, out := x.out, next := 3 } := rfl
      rw [e6] at i6
      have hat : At s lim x q { init lim with text := s.take q, out := x.out, next := 3 } := i1.at _ rfl rfl rfl rfl
      simp only
      by_cases hq : q < s.length
      · rw [if_pos hq]
        have hnw := write_norm (s.drop q) _ _ i6.symm (.inr (.inl rfl))
        rw [i5]
        cases hw : want s lim x q with
        | mk b y =>
          cases b with
          | false =>
            simp only
            refine fin y _ (Stuck.norm ?_ hnw)
            have hps := hat.ps
            have hpb := hat.pb
            unfold want at hw
            by_cases h1 : q < s.length ∧ (q : Int) < lim.b
            · rw [if_pos h1] at hw; simp at hw
            · rw [if_neg h1, if_pos (by omega)] at hw
              simp only [Prod.mk.injEq, true_and] at hw
              subst hw
              have hp : (q : Int) = lim.b := by omega
              rw [write_drop _ s q hq rfl]
              have hb : byte { init lim with text := s.take q, out := x.out, next := 3 } s[q] = wrong { init lim with text := s.take q, out := x.out, next := 3 } lim.b 10 := by
                unfold byte
                rw [if_pos (by rw [hat.len]; show ((q : Int) == lim.b) = true; simpa using hp)]
                rfl
              rw [hb, write_err _ (by simp [wrong])]
              refine ⟨fun w => ?_, fun _ => ⟨rfl, rfl⟩, by simp [fault], ?_, hat.frames.symm⟩
              · rw [show (fault (take x lim.b.toNat) lim.b 10).ended = x.ended from rfl, hat.ended] at w; cases w
              · show (s.take q).length = max x.taken lim.b.toNat
                rw [hat.taken, List.length_take, Nat.min_eq_left (by omega)]; omega
          | true =>
            simp only
            refine fin _ _ (Stuck.norm ?_ hnw)
            obtain ⟨hp, hb, ey, hat2, hwr, hget⟩ := want_yes hat hw
            rw [hwr]
            have hby : byteOn { init lim with text := s.take q ++ [s[q]], out := x.out, next := 3 } s[q] = wrong { init lim with text := s.take q ++ [s[q]], out := x.out, next := 3 } q 9 := by
              unfold byteOn
              simp only
              rw [if_neg (by simp), if_neg (by simp), if_neg (by simp)]
              congr 1
              simp
              omega
            rw [hby]
            exact hat2.stuck_wrong q 9 (by omega) _
      · rw [if_neg hq]
        have hqe : q = s.length := by have := hat.ps; omega
        subst hqe
        rw [i5, List.drop_length]
        rw [hand_of_norm i6.symm]
        refine ⟨?_, ?_, ?_, ?_⟩
        · rw [hat.ended]; exact hat.xerr.symm
        · have hl : list x = x.out := by
            unfold list
            rw [if_pos (by simpa using hat.xerr)]
          rw [hl]
          show (x.out, (0 : Int), (0 : Int)) = (x.out, x.place, x.err)
          rw [hat.xerr, i1.place]
          rfl
        · show (s.take s.length).length = x.taken
          rw [hat.taken, List.take_length]
        · exact hat.frames.symm
end Go.Px.R7
