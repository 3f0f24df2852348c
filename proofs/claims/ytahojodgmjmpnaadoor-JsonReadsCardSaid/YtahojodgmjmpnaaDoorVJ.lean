/-
  Several texts in one: What the reference's value of layer 16 does, case by case; the list behind the beginning of a value. The walk over the reference's value, layer 16: what opens. The walk over the reference's value, layer 16: words and strings. The walk over the reference's value, layer 16: numbers. The walk over the reference's value, layer 16: limits and faults. The walk over the reference's value, layer 16, at every level. The walk over the reference's Read, layer 16.
-/
import Derived.Test.YtahojodgmjmpnaaDoorVD
import Derived.Deep.DeepCutAuto
import Derived.Test.YtahojodgmjmpnaaDoorZjJ
import Derived.Test.YtahojodgmjmpnaaDoorVI
import Derived.Test.YtahojodgmjmpnaaDoorGdJ
/-! What the reference's value of layer 16 does, case by case; the list behind the beginning of a value. -/
namespace Go.Proofs.YtahojodgmjmpnaaDoor
open Go.RowKit Go.Px

section
variable {s : Bytes} {lim : Lim} {x y : R6.St} {p d : Nat}
theorem v_no (h : R6.want s lim x p = (false, y)) : R6.value s lim d x p = (none, y) := by
  cases d <;> (unfold R6.value; rw [h])
theorem v_first (h : R6.want s lim x p = (true, y)) (hf : R6.firsts (R6.at_ s p) = false) : R6.value s lim d x p = (none, R6.fault y p 9) := by
  cases d <;> (unfold R6.value; rw [h]; simp only; rw [if_pos (by rw [hf]; rfl)])
theorem v_lim (h : R6.want s lim x p = (true, y)) (hf : R6.firsts (R6.at_ s p) = true) (hl : lim.i ≤ y.out.length ∨ (d = 0 ∧ (R6.at_ s p = 123 ∨ R6.at_ s p = 91))) : R6.value s lim d x p = (none, R6.fault y p 10) := by
  cases d with
  | zero =>
    unfold R6.value; rw [h]; simp only; rw [if_neg (by rw [hf]; simp), if_pos]
    simp only [Bool.or_eq_true, decide_eq_true_eq, beq_iff_eq]
    rcases hl with e | ⟨_, e⟩
    · exact .inl e
    · exact .inr e
  | succ d =>
    unfold R6.value; rw [h]; simp only; rw [if_neg (by rw [hf]; simp), if_pos]
    rcases hl with e | ⟨e, _⟩
    · exact e
    · omega
theorem v_obj (h : R6.want s lim x p = (true, y)) (hc : R6.at_ s p = 123) (hl : ¬ lim.i ≤ y.out.length) : R6.value s lim (d + 1) x p = R6.object s lim (R6.value s lim d) y.out.length { y with out := y.out ++ [⟨6, 0, []⟩] } (p + 1) := by
  have hk := R6.setKind_mid y.out [] ⟨0, 0, []⟩ 6
  conv => lhs; unfold R6.value
  rw [h]
  simp only
  rw [if_neg (by rw [hc]; decide), if_neg hl, if_pos (by rw [hc]; decide), hk]
theorem v_arr (h : R6.want s lim x p = (true, y)) (hc : R6.at_ s p = 91) (hl : ¬ lim.i ≤ y.out.length) : R6.value s lim (d + 1) x p = R6.array s lim (R6.value s lim d) y.out.length { y with out := y.out ++ [⟨5, 0, []⟩] } (p + 1) := by
  have hk := R6.setKind_mid y.out [] ⟨0, 0, []⟩ 5
  conv => lhs; unfold R6.value
  rw [h]
  simp only
  rw [if_neg (by rw [hc]; decide), if_neg hl, if_neg (by rw [hc]; decide), if_pos (by rw [hc]; decide), hk]
theorem v_plain (h : R6.want s lim x p = (true, y)) (hf : R6.firsts (R6.at_ s p) = true) (h1 : R6.at_ s p ≠ 123) (h2 : R6.at_ s p ≠ 91) (hl : ¬ lim.i ≤ y.out.length) : R6.value s lim d x p = R6.plainV s lim { y with out := y.out ++ [⟨0, 0, []⟩] } (R6.at_ s p) p y.out.length := by
  have e1 : (R6.at_ s p == 123) = false := by simpa using h1
  have e2 : (R6.at_ s p == 91) = false := by simpa using h2
  cases d with
  | zero =>
    unfold R6.value; rw [h]; simp only; rw [if_neg (by rw [hf]; simp), if_neg]
    rw [e1, e2]
    simpa using hl
  | succ d =>
    unfold R6.value; rw [h]; simp only; rw [if_neg (by rw [hf]; simp), if_neg hl, if_neg (by rw [e1]; simp), if_neg (by rw [e2]; simp)]
theorem plain_str (u : List Val) : R6.plainV s lim { y with out := u ++ [⟨0, 0, []⟩] } 34 p u.length = match R6.text s lim { y with out := u ++ [⟨4, 0, []⟩] } p with
    | (none, z) => (none, z)
    | (some (b, q), z) => (some q, { z with out := R6.setText z.out u.length b }) := by
  have hk := R6.setKind_mid u [] ⟨0, 0, []⟩ 4
  unfold R6.plainV
  rw [if_pos (by decide), hk]
  rfl
theorem plain_true (u : List Val) : R6.plainV s lim { y with out := u ++ [⟨0, 0, []⟩] } 116 p u.length = R6.wordN s lim [116, 114, 117, 101] { y with out := u ++ [⟨2, 0, []⟩] } p := by
  have hk := R6.setKind_mid u [] ⟨0, 0, []⟩ 2
  unfold R6.plainV
  rw [if_neg (by decide), if_pos (by decide), hk]
theorem plain_false (u : List Val) : R6.plainV s lim { y with out := u ++ [⟨0, 0, []⟩] } 102 p u.length = R6.wordN s lim [102, 97, 108, 115, 101] { y with out := u ++ [⟨1, 0, []⟩] } p := by
  have hk := R6.setKind_mid u [] ⟨0, 0, []⟩ 1
  unfold R6.plainV
  rw [if_neg (by decide), if_neg (by decide), if_pos (by decide), hk]
theorem plain_null (u : List Val) : R6.plainV s lim { y with out := u ++ [⟨0, 0, []⟩] } 110 p u.length = R6.wordN s lim [110, 117, 108, 108] { y with out := u ++ [⟨0, 0, []⟩] } p := by
  unfold R6.plainV
  rw [if_neg (by decide), if_neg (by decide), if_neg (by decide), if_pos (by decide)]
theorem plain_num {c : Nat} (u : List Val) (h1 : c ≠ 34) (h2 : c ≠ 116) (h3 : c ≠ 102) (h4 : c ≠ 110) : R6.plainV s lim { y with out := u ++ [⟨0, 0, []⟩] } c p u.length = R6.numVal s lim { y with out := u ++ [⟨3, 0, []⟩] } p u.length := by
  have hk := R6.setKind_mid u [] ⟨0, 0, []⟩ 3
  have e1 : (c == 34) = false := by simpa using h1
  have e2 : (c == 116) = false := by simpa using h2
  have e3 : (c == 102) = false := by simpa using h3
  have e4 : (c == 110) = false := by simpa using h4
  unfold R6.plainV
  rw [if_neg (by rw [e1]; simp), if_neg (by rw [e2]; simp), if_neg (by rw [e3]; simp), if_neg (by rw [e4]; simp), hk]
end
/-- Behind the beginning of a value: it stands in the list. -/
structure Bgn (w : World) (b : Nat) (s : Bytes) (lim : Lim) (vo : Value) (y : R6.St) (w4 : World) (g cap : Nat) : Prop where
  run : Run6 w b s lim vo { y with out := y.out ++ [⟨0, 0, []⟩] } w4 (.slice (some ⟨g, 0, none⟩) (y.out.length + 1) cap)
section
variable {w w4 : World} {b : Nat} {s : Bytes} {lim : Lim} {vo : Value} {y : R6.St} {g cap : Nat}
theorem Bgn.kind (h : Bgn w b s lim vo y w4 g cap) (k : Int) : Run6 w b s lim vo { y with out := y.out ++ [⟨k, 0, []⟩] } (w4.setCell ⟨g, y.out.length * 3, none⟩ (.int .i64 k)) (.slice (some ⟨g, 0, none⟩) (y.out.length + 1) cap) := by
  have h1 := h.run.x.setVal (j := y.out.length) (a := ⟨0, 0, []⟩) (a' := ⟨k, 0, []⟩) (by simp) 0 (by decide) (.int .i64 k) rfl
  have h2 := h.run.trans h1
  have e : (y.out ++ [(⟨0, 0, []⟩ : Val)]).set y.out.length ⟨k, 0, []⟩ = y.out ++ [⟨k, 0, []⟩] := by simp
  simp only [e] at h2
  exact h2
theorem Bgn.cells (h : Bgn w b s lim vo y w4 g cap) : w4.cell? ⟨b, 11, none⟩ = some (.slice (some ⟨g, 0, none⟩) (y.out.length + 1) cap) ∧ y.out.length + 1 ≤ cap ∧ cap ≤ maxLen ∧ w4.cell? ⟨g, y.out.length * 3, none⟩ = some (.int .i64 0) ∧ (∀ i, w4.frozen? ⟨g, i, none⟩ = false) := by
  obtain ⟨g', cap', h1, h2, h3, h4, h5, h6, h7⟩ := h.run.x.val (j := y.out.length) (a := ⟨0, 0, []⟩) (by simp)
  simp only [Value.slice.injEq, Option.some.injEq, Addr.mk.injEq, and_true] at h1
  obtain ⟨rfl, _, rfl⟩ := h1
  exact ⟨h.run.x.cell11, by simpa using h2, h3, h4, h7⟩
end
/-- Its last value. -/
theorem Run6.last {w w6 : World} {b : Nat} {s : Bytes} {lim : Lim} {vo : Value} {z : R6.St} {u : List Val} {a : Val} {g cap n : Nat} (h : Run6 w b s lim vo z w6 (.slice (some ⟨g, 0, none⟩) n cap)) (ho : z.out = u ++ [a]) :
    n = u.length + 1 ∧ w6.cell? ⟨b, 11, none⟩ = some (.slice (some ⟨g, 0, none⟩) n cap) ∧ n ≤ cap ∧ cap ≤ maxLen ∧ w6.cell? ⟨g, u.length * 3 + 2, none⟩ = some (S a.text) ∧ (∀ i, w6.frozen? ⟨g, i, none⟩ = false) ∧
    ∀ t, Run6 w b s lim vo { z with out := u ++ [{ a with text := t }] } (w6.setCell ⟨g, u.length * 3 + 2, none⟩ (S t)) (.slice (some ⟨g, 0, none⟩) n cap) := by
  have hj : z.out[u.length]? = some a := by rw [ho]; simp
  obtain ⟨g', cap', h1, h2, h3, h4, h5, h6, h7⟩ := h.x.val hj
  simp only [Value.slice.injEq, Option.some.injEq, Addr.mk.injEq, and_true] at h1
  obtain ⟨rfl, hn, rfl⟩ := h1
  rw [ho] at h2 hn
  refine ⟨by simpa using hn, h.x.cell11, by rw [hn]; exact h2, h3, h6, h7, fun t => ?_⟩
  have k := h.trans (h.x.setVal hj (a' := { a with text := t }) 2 (by decide) (S t) rfl)
  rw [show z.out.set u.length { a with text := t } = u ++ [{ a with text := t }] by rw [ho]; simp] at k
  exact k
section
variable {w w2 w3 : World} {b : Nat} {s : Bytes} {lim : Lim} {y : R6.St} {vo vo2 : Value}
/-- The list has one more, and its slice is known. -/
theorem Run6.push (h : Run6 w b s lim vo y w2 vo2) {g cap : Nat} {a : Val}
    (hown : w3.ownsRow 0 58 3 (.slice (some ⟨g, 0, none⟩) (y.out.length + 1) cap) (y.out.length + 1) (y.out.flatMap cVal ++ cVal a))
    (hg : w2.grownBy w3 vo2.ownBlock) (hat : vo2.ownBlock = some g ∨ w2.heap.size ≤ g) :
    Run6 w b s lim vo { y with out := y.out ++ [a] } (w3.setCell ⟨b, 11, none⟩ (.slice (some ⟨g, 0, none⟩) (y.out.length + 1) cap)) (.slice (some ⟨g, 0, none⟩) (y.out.length + 1) cap) := by
  refine h.trans ?_
  have hx := h.x
  have hgb : g ≠ b := by rcases hat with e | e; exact fun x => hx.ob g e (by rw [x]); have := hx.rd.lt; omega
  have hb' : Rd w3 b 82 s lim y.r (.slice none 0 0) [vo2] := hx.rd.keep (hg.block b hx.rd.lt (fun e => hx.ob b e.symm rfl))
  refine ⟨⟨hb'.set 11 _ y.r _ _ (by simp [rdCells]), ?_, ?_⟩, ((Fr.refl _ w2).grown hg (fun k e => .inl (.inr e))).setCell (.inl (.inl rfl)) _, ?_⟩
  · exact (owns_append hown).setCell (p := ⟨b, 11, none⟩) (by simpa [Value.ownBlock] using hgb) _
  · intro k hk; simp [Value.ownBlock] at hk; subst hk; simpa using Ne.symm hgb
  · rintro k (rfl | hk)
    · exact .inl (.inl rfl)
    · simp only [Value.ownBlock, Option.some.injEq] at hk
      subst hk
      rcases hat with e | e
      · exact .inl (.inr e)
      · exact .inr e
end
/-! The list stays, whatever comes of a string. -/
section
variable {s : Bytes} {lim : Lim}
theorem fourN_out : ∀ (m : Nat) (x : R6.St) (p n : Nat), (R6.fourN s lim m x p n).2.out = x.out
  | 0, _, _, _ => rfl
  | m + 1, x, p, n => by
    unfold R6.fourN
    have hk := (R6.want_kept s lim x p).1
    cases hw : R6.want s lim x p with
    | mk q y =>
      rw [hw] at hk
      cases q with
      | false => exact hk
      | true =>
        simp only
        split
        · exact hk
        · exact (fourN_out m y _ _).trans hk
theorem second_out (x : R6.St) (p n : Nat) : (R6.second s lim x p n).2.out = x.out := by
  unfold R6.second
  have hk := (R6.is_kept s lim x p 92).1
  cases hw : R6.is s lim x p 92 with
  | mk q y =>
    rw [hw] at hk
    cases q with
    | false => exact hk
    | true =>
      have hk2 := (R6.is_kept s lim y (p + 1) 117).1
      simp only
      cases hw : R6.is s lim y (p + 1) 117 with
      | mk q z =>
        rw [hw] at hk2
        cases q with
        | false => exact hk2.trans hk
        | true =>
          have hk3 := fourN_out (s := s) (lim := lim) 4 z (p + 2) 0
          simp only
          unfold R6.four
          cases hw : R6.fourN s lim 4 z (p + 2) 0 with
          | mk q u =>
            rw [hw] at hk3
            cases q with
            | none => exact hk3.trans (hk2.trans hk)
            | some m =>
              simp only
              split <;> exact hk3.trans (hk2.trans hk)
theorem escape_out (x : R6.St) (p : Nat) : (R6.escape s lim x p).2.out = x.out := by
  unfold R6.escape
  have hk := (R6.want_kept s lim x p).1
  cases hw : R6.want s lim x p with
  | mk q y =>
    rw [hw] at hk
    cases q with
    | false => exact hk
    | true =>
      simp only
      split
      · exact hk
      · split
        · exact hk
        · have hk3 := fourN_out (s := s) (lim := lim) 4 y (p + 1) 0
          unfold R6.four
          cases hw : R6.fourN s lim 4 y (p + 1) 0 with
          | mk q z =>
            rw [hw] at hk3
            cases q with
            | none => exact hk3.trans hk
            | some n =>
              simp only
              split
              · exact hk3.trans hk
              · split
                · exact hk3.trans hk
                · exact (second_out z _ _).trans (hk3.trans hk)
theorem signN_out (p : Nat) : ∀ (m : Nat) (x : R6.St) (q : Nat), (R6.signN s lim p m x q).2.out = x.out
  | 0, _, _ => rfl
  | m + 1, x, q => by
    unfold R6.signN
    have hk := (R6.want_kept s lim x q).1
    cases hw : R6.want s lim x q with
    | mk c y =>
      rw [hw] at hk
      cases c with
      | false => exact hk
      | true =>
        simp only
        split
        · exact hk
        · split
          · exact hk
          · exact (signN_out p m y _).trans hk
theorem textN_out : ∀ (m : Nat) (x : R6.St) (p : Nat) (o : Bytes), (R6.textN s lim m x p o).2.out = x.out
  | 0, _, _, _ => rfl
  | m + 1, x, p, o => by
    unfold R6.textN
    have hk := (R6.want_kept s lim x p).1
    cases hw : R6.want s lim x p with
    | mk c y =>
      rw [hw] at hk
      cases c with
      | false => exact hk
      | true =>
        simp only
        split
        · exact hk
        · split
          · exact hk
          · split
            · have h3 := escape_out (s := s) (lim := lim) y (p + 1)
              cases hw : R6.escape s lim y (p + 1) with
              | mk q z =>
                rw [hw] at h3
                cases q with
                | none => exact h3.trans hk
                | some v => exact (textN_out m z _ _).trans (h3.trans hk)
            · split
              · have h3 := signN_out (s := s) (lim := lim) p (s.length + 1 - p) y p
                unfold R6.sign
                cases hw : R6.signN s lim p (s.length + 1 - p) y p with
                | mk q z =>
                  rw [hw] at h3
                  cases q with
                  | none => exact h3.trans hk
                  | some v => exact (textN_out m z _ _).trans (h3.trans hk)
              · exact (textN_out m y _ _).trans hk
theorem text_out {x y : R6.St} {p : Nat} {o : Option (Bytes × Nat)} (h : R6.text s lim x p = (o, y)) : y.out = x.out := by
  have := textN_out (s := s) (lim := lim) (s.length + 1 - p) x (p + 1) []
  unfold R6.text at h
  rw [h] at this
  exact this
end
end Go.Proofs.YtahojodgmjmpnaaDoor

/-! The walk over the reference's value, layer 16: what opens. -/
namespace Go.Proofs.YtahojodgmjmpnaaDoor
open Go.RowKit Go.Px


set_option maxRecDepth 100000 in
set_option maxHeartbeats 8000000 in
theorem val_obj (b p dp d : Nat) (s : Bytes) (lim : Lim) (x y : R6.St) (vo : Value) (hc : Ctx s lim) (hw : R6.want s lim x p = (true, y)) (hcc : R6.at_ s p = 123) (hl : ¬ lim.i ≤ (y.out.length : Int)) (hfr : x.r.frames = dp) (hdl : ((dp + (d + 1) : Nat) : Int) = lim.d) (hO : ObjectC s lim d) (w : World) (h : X6 w b s lim x vo) :
    Calls Tryd.prog 35 #[.pointer (some ⟨b, 0, none⟩), .int .i64 (p : Nat), .int .i64 (dp : Nat)] w fun r w' => r = .returned (tupV (R6.value s lim ((d + 1)) x p).1) ∧ Did6 w b s lim vo (R6.value s lim ((d + 1)) x p).2 w' := by
  obtain ⟨R, hR⟩ : ∃ R, R = R6.value s lim ((d + 1)) x p := ⟨_, rfl⟩
  rw [← hR]
  have hmay := J6.may_of hc.may
  have hlen := hc.len
  obtain ⟨hkk, hps, hpb⟩ := R6.want_ok hw
  have hp2 : p ≤ 140737488355327 := by omega
  have hdp : dp ≤ 32 := by omega
  have hol : y.out.length ≤ 4096 := by omega
  have hix := idx6 s p hps
  have hci := want6 b p s lim x vo hc (by omega) w h
  rw [hw] at hci
  obtain ⟨oa, oc, hov, _⟩ := h.out.len
  rw [← hkk.1] at hov
  subst hov
  have hge : decide (lim.i ≤ (y.out.length : Int)) = false := decide_eq_false hl
  have hgd : decide (lim.d ≤ (dp : Int)) = false := by simp; omega
  have hwp := wrap1 p hp2
  have hwd := wrap1 dp (by omega)
  have hst := v_obj (d := d) hw hcc hl
  rw [← hR] at hst
  have HST := Px.hid hst
  have HO := Px.hid (fun (w : World) (vo : Value) (h : X6 w b s lim { y with out := y.out ++ [⟨6, 0, []⟩] } vo) => hO b (p + 1) (dp + 1) y.out { y with out := y.out ++ [⟨6, 0, []⟩] } vo w h rfl hol hps (by rw [← hfr, ← hkk.2]) (by omega))
  clear hst
  simp only [hcc] at hix
  have HI := Px.hid hci
  have HH := Px.hid (Run6.refl h)
  clear hci h hw hcc hl hfr hdl hkk hps hpb hR hc hmay hlen hdp hO
  go_enter Tryd.func35, Tryd.ntmps35
  go_wp2_with fail
  refine HI.out.mono ?_
  rintro e w1 ⟨rfl, h1, h2⟩
  have c0 := h1.c0
  obtain ⟨_, c1, c2, _⟩ := h1.rd.cells
  have c11 := h1.cell11
  have H1 := Px.hid (HH.out.it h1 h2)
  clear h1 h2
  go_wp2_with fail
  go_quiet (fail)
  obtain ⟨w2, hw2⟩ : ∃ w2, w2 = w1.drewN nq := ⟨_, rfl⟩
  rw [← hw2]
  have H2 := Px.hid (show Run6 w b s lim (.slice oa y.out.length oc) y w2 (.slice oa y.out.length oc) from by rw [hw2]; exact H1.out.drewN nq)
  clear c0 c1 c2 c11 hw2 H1 hge hgd
  have c11 := H2.out.x.cell11
  have f11 := H2.out.x.rd.free 11
  have hbl := H2.out.x.lt
  have HOB := Px.hid H2.out.x.ob.ne
  obtain ⟨i0, hi0, hz0, hzz1, hz2⟩ := info_parts Tryd.infoVal
  go_wp2_with (at_builtin; go_must (refine wpList_append_lies _ rfl _ _ _ rfl 0 58 i0 _ 3 32 Tryd.underlying25 hi0 hz0 hzz1 hz2 rfl (by omega) _ y.out.length (y.out.flatMap cVal) rfl (H2.out.x.out.alloc _) ⟨w2.heap.size, 0, none⟩ 1 1 (cVal ⟨0, 0, []⟩) rfl rfl (World.news_of_block (cs := #[.int .i64 0, .int .i64 0, S []]) (t := 58) (fr := (0, 0)) (heap_alloc_new w2 _)) (by simp [cVal, Value.oneCell']) (by omega) (by unfold maxLen; omega) (by omega) (by omega) (w2.heap.size + 1) (by simp) ?_))
  intro gg cap w3 hown1 hgrow hat hltg
  have k11 := grown_cell1 hgrow c11 HOB.out
  have e11 := grown_free1 hgrow c11 f11 HOB.out
  have hd3 := H2.out.push hown1 (grown_alloc1 hgrow) (hat.elim .inl (fun e => .inr (by omega)))
  have H3 := Px.hid hd3
  clear hown1 hgrow hat hltg hd3 c11 f11 hi0 hz0 hzz1 hz2 hbl
  go_upto_region 12 with fail
  obtain ⟨w4, hw4⟩ : ∃ w4, w4 = w3.setCell ⟨b, 11, none⟩ (.slice (some ⟨gg, 0, none⟩) (y.out.length + 1) cap) := ⟨_, rfl⟩
  rw [← hw4]
  have HB := Px.hid (show Bgn w b s lim (.slice oa y.out.length oc) y w4 gg cap from ⟨by rw [hw4]; exact H3.out⟩)
  clear hw4 k11 e11 H3 H2 HOB
  obtain ⟨b11, b1, b2, bk, bf⟩ := HB.out.cells
  have H4 := Px.hid (HB.out.kind 6)
  clear HB
  go_wp2_with fail
  refine (HO.out _ _ H4.out.x).mono ?_
  rintro e w5 ⟨rfl, hd⟩
  have H5 := Px.hid (H4.out.andThen hd)
  clear hd
  obtain ⟨⟨o, z⟩, hres⟩ : ∃ r, R6.object s lim (R6.value s lim d) y.out.length { y with out := y.out ++ [⟨6, 0, []⟩] } (p + 1) = r := ⟨_, rfl⟩
  have HS := Px.hid (HST.out.trans hres)
  have H6 := Px.hid (show Did6 w b s lim (.slice oa y.out.length oc) z w5 from by have := H5.out; rw [hres] at this; exact this)
  rw [hres]
  clear hres H5 HST
  cases o with
  | none =>
    unfold tupV
    go_wp2
    go_ret2
    rw [HS.out]
    exact ⟨rfl, H6.out⟩
  | some q =>
    unfold tupV
    go_wp2
    go_ret2
    rw [HS.out]
    exact ⟨rfl, H6.out⟩

set_option maxRecDepth 100000 in
set_option maxHeartbeats 8000000 in
theorem val_arr (b p dp d : Nat) (s : Bytes) (lim : Lim) (x y : R6.St) (vo : Value) (hc : Ctx s lim) (hw : R6.want s lim x p = (true, y)) (hcc : R6.at_ s p = 91) (hl : ¬ lim.i ≤ (y.out.length : Int)) (hfr : x.r.frames = dp) (hdl : ((dp + (d + 1) : Nat) : Int) = lim.d) (hO : ArrayC s lim d) (w : World) (h : X6 w b s lim x vo) :
    Calls Tryd.prog 35 #[.pointer (some ⟨b, 0, none⟩), .int .i64 (p : Nat), .int .i64 (dp : Nat)] w fun r w' => r = .returned (tupV (R6.value s lim ((d + 1)) x p).1) ∧ Did6 w b s lim vo (R6.value s lim ((d + 1)) x p).2 w' := by
  obtain ⟨R, hR⟩ : ∃ R, R = R6.value s lim ((d + 1)) x p := ⟨_, rfl⟩
  rw [← hR]
  have hmay := J6.may_of hc.may
  have hlen := hc.len
  obtain ⟨hkk, hps, hpb⟩ := R6.want_ok hw
  have hp2 : p ≤ 140737488355327 := by omega
  have hdp : dp ≤ 32 := by omega
  have hol : y.out.length ≤ 4096 := by omega
  have hix := idx6 s p hps
  have hci := want6 b p s lim x vo hc (by omega) w h
  rw [hw] at hci
  obtain ⟨oa, oc, hov, _⟩ := h.out.len
  rw [← hkk.1] at hov
  subst hov
  have hge : decide (lim.i ≤ (y.out.length : Int)) = false := decide_eq_false hl
  have hgd : decide (lim.d ≤ (dp : Int)) = false := by simp; omega
  have hwp := wrap1 p hp2
  have hwd := wrap1 dp (by omega)
  have hst := v_arr (d := d) hw hcc hl
  rw [← hR] at hst
  have HST := Px.hid hst
  have HO := Px.hid (fun (w : World) (vo : Value) (h : X6 w b s lim { y with out := y.out ++ [⟨5, 0, []⟩] } vo) => hO b (p + 1) (dp + 1) y.out { y with out := y.out ++ [⟨5, 0, []⟩] } vo w h rfl hol hps (by rw [← hfr, ← hkk.2]) (by omega))
  clear hst
  simp only [hcc] at hix
  have HI := Px.hid hci
  have HH := Px.hid (Run6.refl h)
  clear hci h hw hcc hl hfr hdl hkk hps hpb hR hc hmay hlen hdp hO
  go_enter Tryd.func35, Tryd.ntmps35
  go_wp2_with fail
  refine HI.out.mono ?_
  rintro e w1 ⟨rfl, h1, h2⟩
  have c0 := h1.c0
  obtain ⟨_, c1, c2, _⟩ := h1.rd.cells
  have c11 := h1.cell11
  have H1 := Px.hid (HH.out.it h1 h2)
  clear h1 h2
  go_wp2_with fail
  go_quiet (fail)
  obtain ⟨w2, hw2⟩ : ∃ w2, w2 = w1.drewN nq := ⟨_, rfl⟩
  rw [← hw2]
  have H2 := Px.hid (show Run6 w b s lim (.slice oa y.out.length oc) y w2 (.slice oa y.out.length oc) from by rw [hw2]; exact H1.out.drewN nq)
  clear c0 c1 c2 c11 hw2 H1 hge hgd
  have c11 := H2.out.x.cell11
  have f11 := H2.out.x.rd.free 11
  have hbl := H2.out.x.lt
  have HOB := Px.hid H2.out.x.ob.ne
  obtain ⟨i0, hi0, hz0, hzz1, hz2⟩ := info_parts Tryd.infoVal
  go_wp2_with (at_builtin; go_must (refine wpList_append_lies _ rfl _ _ _ rfl 0 58 i0 _ 3 32 Tryd.underlying25 hi0 hz0 hzz1 hz2 rfl (by omega) _ y.out.length (y.out.flatMap cVal) rfl (H2.out.x.out.alloc _) ⟨w2.heap.size, 0, none⟩ 1 1 (cVal ⟨0, 0, []⟩) rfl rfl (World.news_of_block (cs := #[.int .i64 0, .int .i64 0, S []]) (t := 58) (fr := (0, 0)) (heap_alloc_new w2 _)) (by simp [cVal, Value.oneCell']) (by omega) (by unfold maxLen; omega) (by omega) (by omega) (w2.heap.size + 1) (by simp) ?_))
  intro gg cap w3 hown1 hgrow hat hltg
  have k11 := grown_cell1 hgrow c11 HOB.out
  have e11 := grown_free1 hgrow c11 f11 HOB.out
  have hd3 := H2.out.push hown1 (grown_alloc1 hgrow) (hat.elim .inl (fun e => .inr (by omega)))
  have H3 := Px.hid hd3
  clear hown1 hgrow hat hltg hd3 c11 f11 hi0 hz0 hzz1 hz2 hbl
  go_upto_region 15 with fail
  obtain ⟨w4, hw4⟩ : ∃ w4, w4 = w3.setCell ⟨b, 11, none⟩ (.slice (some ⟨gg, 0, none⟩) (y.out.length + 1) cap) := ⟨_, rfl⟩
  rw [← hw4]
  have HB := Px.hid (show Bgn w b s lim (.slice oa y.out.length oc) y w4 gg cap from ⟨by rw [hw4]; exact H3.out⟩)
  clear hw4 k11 e11 H3 H2 HOB
  obtain ⟨b11, b1, b2, bk, bf⟩ := HB.out.cells
  have H4 := Px.hid (HB.out.kind 5)
  clear HB
  go_wp2_with fail
  refine (HO.out _ _ H4.out.x).mono ?_
  rintro e w5 ⟨rfl, hd⟩
  have H5 := Px.hid (H4.out.andThen hd)
  clear hd
  obtain ⟨⟨o, z⟩, hres⟩ : ∃ r, R6.array s lim (R6.value s lim d) y.out.length { y with out := y.out ++ [⟨5, 0, []⟩] } (p + 1) = r := ⟨_, rfl⟩
  have HS := Px.hid (HST.out.trans hres)
  have H6 := Px.hid (show Did6 w b s lim (.slice oa y.out.length oc) z w5 from by have := H5.out; rw [hres] at this; exact this)
  rw [hres]
  clear hres H5 HST
  cases o with
  | none =>
    unfold tupV
    go_wp2
    go_ret2
    rw [HS.out]
    exact ⟨rfl, H6.out⟩
  | some q =>
    unfold tupV
    go_wp2
    go_ret2
    rw [HS.out]
    exact ⟨rfl, H6.out⟩

end Go.Proofs.YtahojodgmjmpnaaDoor

/-! The walk over the reference's value, layer 16: words and strings. -/
namespace Go.Proofs.YtahojodgmjmpnaaDoor
open Go.RowKit Go.Px


set_option maxRecDepth 100000 in
set_option maxHeartbeats 8000000 in
theorem val_true (b p dp d : Nat) (s : Bytes) (lim : Lim) (x y : R6.St) (vo : Value) (hc : Ctx s lim) (hw : R6.want s lim x p = (true, y)) (hcc : R6.at_ s p = 116) (hl : ¬ lim.i ≤ (y.out.length : Int)) (hfr : x.r.frames = dp) (hdl : ((dp + d : Nat) : Int) = lim.d) (w : World) (h : X6 w b s lim x vo) :
    Calls Tryd.prog 35 #[.pointer (some ⟨b, 0, none⟩), .int .i64 (p : Nat), .int .i64 (dp : Nat)] w fun r w' => r = .returned (tupV (R6.value s lim (d) x p).1) ∧ Did6 w b s lim vo (R6.value s lim (d) x p).2 w' := by
  obtain ⟨R, hR⟩ : ∃ R, R = R6.value s lim (d) x p := ⟨_, rfl⟩
  rw [← hR]
  have hmay := J6.may_of hc.may
  have hlen := hc.len
  obtain ⟨hkk, hps, hpb⟩ := R6.want_ok hw
  have hp2 : p ≤ 140737488355327 := by omega
  have hdp : dp ≤ 32 := by omega
  have hol : y.out.length ≤ 4096 := by omega
  have hix := idx6 s p hps
  have hci := want6 b p s lim x vo hc (by omega) w h
  rw [hw] at hci
  obtain ⟨oa, oc, hov, _⟩ := h.out.len
  rw [← hkk.1] at hov
  subst hov
  have hge : decide (lim.i ≤ (y.out.length : Int)) = false := decide_eq_false hl
  have hwp := wrap1 p hp2
  have hwd := wrap1 dp (by omega)
  have hst := v_plain (d := d) hw (by rw [hcc]; decide) (by rw [hcc]; decide) (by rw [hcc]; decide) hl
  rw [hcc, plain_true, ← hR] at hst
  have HST := Px.hid hst
  have HO := Px.hid (fun (w : World) (vo : Value) (h : X6 w b s lim { y with out := y.out ++ [⟨2, 0, []⟩] } vo) => word6 b p s [116, 114, 117, 101] lim { y with out := y.out ++ [⟨2, 0, []⟩] } vo hc (Nat.le_of_lt hps) (by decide) w h)
  clear hst
  simp only [hcc] at hix
  have HI := Px.hid hci
  have HH := Px.hid (Run6.refl h)
  clear hci h hw hcc hl hfr hdl hkk hps hpb hR hc hmay hlen hdp
  go_enter Tryd.func35, Tryd.ntmps35
  go_wp2_with fail
  refine HI.out.mono ?_
  rintro e w1 ⟨rfl, h1, h2⟩
  have c0 := h1.c0
  obtain ⟨_, c1, c2, _⟩ := h1.rd.cells
  have c11 := h1.cell11
  have H1 := Px.hid (HH.out.it h1 h2)
  clear h1 h2
  go_wp2_with fail
  go_quiet (fail)
  obtain ⟨w2, hw2⟩ : ∃ w2, w2 = w1.drewN nq := ⟨_, rfl⟩
  rw [← hw2]
  have H2 := Px.hid (show Run6 w b s lim (.slice oa y.out.length oc) y w2 (.slice oa y.out.length oc) from by rw [hw2]; exact H1.out.drewN nq)
  clear c0 c1 c2 c11 hw2 H1 hge
  have c11 := H2.out.x.cell11
  have f11 := H2.out.x.rd.free 11
  have hbl := H2.out.x.lt
  have HOB := Px.hid H2.out.x.ob.ne
  obtain ⟨i0, hi0, hz0, hzz1, hz2⟩ := info_parts Tryd.infoVal
  go_wp2_with (at_builtin; go_must (refine wpList_append_lies _ rfl _ _ _ rfl 0 58 i0 _ 3 32 Tryd.underlying25 hi0 hz0 hzz1 hz2 rfl (by omega) _ y.out.length (y.out.flatMap cVal) rfl (H2.out.x.out.alloc _) ⟨w2.heap.size, 0, none⟩ 1 1 (cVal ⟨0, 0, []⟩) rfl rfl (World.news_of_block (cs := #[.int .i64 0, .int .i64 0, S []]) (t := 58) (fr := (0, 0)) (heap_alloc_new w2 _)) (by simp [cVal, Value.oneCell']) (by omega) (by unfold maxLen; omega) (by omega) (by omega) (w2.heap.size + 1) (by simp) ?_))
  intro gg cap w3 hown1 hgrow hat hltg
  have k11 := grown_cell1 hgrow c11 HOB.out
  have e11 := grown_free1 hgrow c11 f11 HOB.out
  have hd3 := H2.out.push hown1 (grown_alloc1 hgrow) (hat.elim .inl (fun e => .inr (by omega)))
  have H3 := Px.hid hd3
  clear hown1 hgrow hat hltg hd3 c11 f11 hi0 hz0 hzz1 hz2 hbl
  go_upto_region 23 with fail
  obtain ⟨w4, hw4⟩ : ∃ w4, w4 = w3.setCell ⟨b, 11, none⟩ (.slice (some ⟨gg, 0, none⟩) (y.out.length + 1) cap) := ⟨_, rfl⟩
  rw [← hw4]
  have HB := Px.hid (show Bgn w b s lim (.slice oa y.out.length oc) y w4 gg cap from ⟨by rw [hw4]; exact H3.out⟩)
  clear hw4 k11 e11 H3 H2 HOB
  obtain ⟨b11, b1, b2, bk, bf⟩ := HB.out.cells
  have H4 := Px.hid (HB.out.kind 2)
  clear HB
  go_wp2_with fail
  refine (HO.out _ _ H4.out.x).mono ?_
  rintro e w5 ⟨rfl, h1, h2, _⟩
  have H5 := Px.hid (H4.out.it h1 h2)
  clear h1 h2
  obtain ⟨⟨o, z⟩, hres⟩ : ∃ r, R6.wordN s lim [116, 114, 117, 101] { y with out := y.out ++ [⟨2, 0, []⟩] } p = r := ⟨_, rfl⟩
  have HS := Px.hid (HST.out.trans hres)
  have H6 := Px.hid (show Did6 w b s lim (.slice oa y.out.length oc) z w5 from by have := H5.out; rw [hres] at this; exact this.did)
  rw [hres]
  clear hres H5 HST
  cases o with
  | none =>
    unfold tupV
    go_wp2
    go_ret2
    rw [HS.out]
    exact ⟨rfl, H6.out⟩
  | some q =>
    unfold tupV
    go_wp2
    go_ret2
    rw [HS.out]
    exact ⟨rfl, H6.out⟩

set_option maxRecDepth 100000 in
set_option maxHeartbeats 8000000 in
theorem val_false (b p dp d : Nat) (s : Bytes) (lim : Lim) (x y : R6.St) (vo : Value) (hc : Ctx s lim) (hw : R6.want s lim x p = (true, y)) (hcc : R6.at_ s p = 102) (hl : ¬ lim.i ≤ (y.out.length : Int)) (hfr : x.r.frames = dp) (hdl : ((dp + d : Nat) : Int) = lim.d) (w : World) (h : X6 w b s lim x vo) :
    Calls Tryd.prog 35 #[.pointer (some ⟨b, 0, none⟩), .int .i64 (p : Nat), .int .i64 (dp : Nat)] w fun r w' => r = .returned (tupV (R6.value s lim (d) x p).1) ∧ Did6 w b s lim vo (R6.value s lim (d) x p).2 w' := by
  obtain ⟨R, hR⟩ : ∃ R, R = R6.value s lim (d) x p := ⟨_, rfl⟩
  rw [← hR]
  have hmay := J6.may_of hc.may
  have hlen := hc.len
  obtain ⟨hkk, hps, hpb⟩ := R6.want_ok hw
  have hp2 : p ≤ 140737488355327 := by omega
  have hdp : dp ≤ 32 := by omega
  have hol : y.out.length ≤ 4096 := by omega
  have hix := idx6 s p hps
  have hci := want6 b p s lim x vo hc (by omega) w h
  rw [hw] at hci
  obtain ⟨oa, oc, hov, _⟩ := h.out.len
  rw [← hkk.1] at hov
  subst hov
  have hge : decide (lim.i ≤ (y.out.length : Int)) = false := decide_eq_false hl
  have hwp := wrap1 p hp2
  have hwd := wrap1 dp (by omega)
  have hst := v_plain (d := d) hw (by rw [hcc]; decide) (by rw [hcc]; decide) (by rw [hcc]; decide) hl
  rw [hcc, plain_false, ← hR] at hst
  have HST := Px.hid hst
  have HO := Px.hid (fun (w : World) (vo : Value) (h : X6 w b s lim { y with out := y.out ++ [⟨1, 0, []⟩] } vo) => word6 b p s [102, 97, 108, 115, 101] lim { y with out := y.out ++ [⟨1, 0, []⟩] } vo hc (Nat.le_of_lt hps) (by decide) w h)
  clear hst
  simp only [hcc] at hix
  have HI := Px.hid hci
  have HH := Px.hid (Run6.refl h)
  clear hci h hw hcc hl hfr hdl hkk hps hpb hR hc hmay hlen hdp
  go_enter Tryd.func35, Tryd.ntmps35
  go_wp2_with fail
  refine HI.out.mono ?_
  rintro e w1 ⟨rfl, h1, h2⟩
  have c0 := h1.c0
  obtain ⟨_, c1, c2, _⟩ := h1.rd.cells
  have c11 := h1.cell11
  have H1 := Px.hid (HH.out.it h1 h2)
  clear h1 h2
  go_wp2_with fail
  go_quiet (fail)
  obtain ⟨w2, hw2⟩ : ∃ w2, w2 = w1.drewN nq := ⟨_, rfl⟩
  rw [← hw2]
  have H2 := Px.hid (show Run6 w b s lim (.slice oa y.out.length oc) y w2 (.slice oa y.out.length oc) from by rw [hw2]; exact H1.out.drewN nq)
  clear c0 c1 c2 c11 hw2 H1 hge
  have c11 := H2.out.x.cell11
  have f11 := H2.out.x.rd.free 11
  have hbl := H2.out.x.lt
  have HOB := Px.hid H2.out.x.ob.ne
  obtain ⟨i0, hi0, hz0, hzz1, hz2⟩ := info_parts Tryd.infoVal
  go_wp2_with (at_builtin; go_must (refine wpList_append_lies _ rfl _ _ _ rfl 0 58 i0 _ 3 32 Tryd.underlying25 hi0 hz0 hzz1 hz2 rfl (by omega) _ y.out.length (y.out.flatMap cVal) rfl (H2.out.x.out.alloc _) ⟨w2.heap.size, 0, none⟩ 1 1 (cVal ⟨0, 0, []⟩) rfl rfl (World.news_of_block (cs := #[.int .i64 0, .int .i64 0, S []]) (t := 58) (fr := (0, 0)) (heap_alloc_new w2 _)) (by simp [cVal, Value.oneCell']) (by omega) (by unfold maxLen; omega) (by omega) (by omega) (w2.heap.size + 1) (by simp) ?_))
  intro gg cap w3 hown1 hgrow hat hltg
  have k11 := grown_cell1 hgrow c11 HOB.out
  have e11 := grown_free1 hgrow c11 f11 HOB.out
  have hd3 := H2.out.push hown1 (grown_alloc1 hgrow) (hat.elim .inl (fun e => .inr (by omega)))
  have H3 := Px.hid hd3
  clear hown1 hgrow hat hltg hd3 c11 f11 hi0 hz0 hzz1 hz2 hbl
  go_upto_region 26 with fail
  obtain ⟨w4, hw4⟩ : ∃ w4, w4 = w3.setCell ⟨b, 11, none⟩ (.slice (some ⟨gg, 0, none⟩) (y.out.length + 1) cap) := ⟨_, rfl⟩
  rw [← hw4]
  have HB := Px.hid (show Bgn w b s lim (.slice oa y.out.length oc) y w4 gg cap from ⟨by rw [hw4]; exact H3.out⟩)
  clear hw4 k11 e11 H3 H2 HOB
  obtain ⟨b11, b1, b2, bk, bf⟩ := HB.out.cells
  have H4 := Px.hid (HB.out.kind 1)
  clear HB
  go_wp2_with fail
  refine (HO.out _ _ H4.out.x).mono ?_
  rintro e w5 ⟨rfl, h1, h2, _⟩
  have H5 := Px.hid (H4.out.it h1 h2)
  clear h1 h2
  obtain ⟨⟨o, z⟩, hres⟩ : ∃ r, R6.wordN s lim [102, 97, 108, 115, 101] { y with out := y.out ++ [⟨1, 0, []⟩] } p = r := ⟨_, rfl⟩
  have HS := Px.hid (HST.out.trans hres)
  have H6 := Px.hid (show Did6 w b s lim (.slice oa y.out.length oc) z w5 from by have := H5.out; rw [hres] at this; exact this.did)
  rw [hres]
  clear hres H5 HST
  cases o with
  | none =>
    unfold tupV
    go_wp2
    go_ret2
    rw [HS.out]
    exact ⟨rfl, H6.out⟩
  | some q =>
    unfold tupV
    go_wp2
    go_ret2
    rw [HS.out]
    exact ⟨rfl, H6.out⟩

set_option maxRecDepth 100000 in
set_option maxHeartbeats 8000000 in
theorem val_null (b p dp d : Nat) (s : Bytes) (lim : Lim) (x y : R6.St) (vo : Value) (hc : Ctx s lim) (hw : R6.want s lim x p = (true, y)) (hcc : R6.at_ s p = 110) (hl : ¬ lim.i ≤ (y.out.length : Int)) (hfr : x.r.frames = dp) (hdl : ((dp + d : Nat) : Int) = lim.d) (w : World) (h : X6 w b s lim x vo) :
    Calls Tryd.prog 35 #[.pointer (some ⟨b, 0, none⟩), .int .i64 (p : Nat), .int .i64 (dp : Nat)] w fun r w' => r = .returned (tupV (R6.value s lim (d) x p).1) ∧ Did6 w b s lim vo (R6.value s lim (d) x p).2 w' := by
  obtain ⟨R, hR⟩ : ∃ R, R = R6.value s lim (d) x p := ⟨_, rfl⟩
  rw [← hR]
  have hmay := J6.may_of hc.may
  have hlen := hc.len
  obtain ⟨hkk, hps, hpb⟩ := R6.want_ok hw
  have hp2 : p ≤ 140737488355327 := by omega
  have hdp : dp ≤ 32 := by omega
  have hol : y.out.length ≤ 4096 := by omega
  have hix := idx6 s p hps
  have hci := want6 b p s lim x vo hc (by omega) w h
  rw [hw] at hci
  obtain ⟨oa, oc, hov, _⟩ := h.out.len
  rw [← hkk.1] at hov
  subst hov
  have hge : decide (lim.i ≤ (y.out.length : Int)) = false := decide_eq_false hl
  have hwp := wrap1 p hp2
  have hwd := wrap1 dp (by omega)
  have hst := v_plain (d := d) hw (by rw [hcc]; decide) (by rw [hcc]; decide) (by rw [hcc]; decide) hl
  rw [hcc, plain_null, ← hR] at hst
  have HST := Px.hid hst
  have HO := Px.hid (fun (w : World) (vo : Value) (h : X6 w b s lim { y with out := y.out ++ [⟨0, 0, []⟩] } vo) => word6 b p s [110, 117, 108, 108] lim { y with out := y.out ++ [⟨0, 0, []⟩] } vo hc (Nat.le_of_lt hps) (by decide) w h)
  clear hst
  simp only [hcc] at hix
  have HI := Px.hid hci
  have HH := Px.hid (Run6.refl h)
  clear hci h hw hcc hl hfr hdl hkk hps hpb hR hc hmay hlen hdp
  go_enter Tryd.func35, Tryd.ntmps35
  go_wp2_with fail
  refine HI.out.mono ?_
  rintro e w1 ⟨rfl, h1, h2⟩
  have c0 := h1.c0
  obtain ⟨_, c1, c2, _⟩ := h1.rd.cells
  have c11 := h1.cell11
  have H1 := Px.hid (HH.out.it h1 h2)
  clear h1 h2
  go_wp2_with fail
  go_quiet (fail)
  obtain ⟨w2, hw2⟩ : ∃ w2, w2 = w1.drewN nq := ⟨_, rfl⟩
  rw [← hw2]
  have H2 := Px.hid (show Run6 w b s lim (.slice oa y.out.length oc) y w2 (.slice oa y.out.length oc) from by rw [hw2]; exact H1.out.drewN nq)
  clear c0 c1 c2 c11 hw2 H1 hge
  have c11 := H2.out.x.cell11
  have f11 := H2.out.x.rd.free 11
  have hbl := H2.out.x.lt
  have HOB := Px.hid H2.out.x.ob.ne
  obtain ⟨i0, hi0, hz0, hzz1, hz2⟩ := info_parts Tryd.infoVal
  go_wp2_with (at_builtin; go_must (refine wpList_append_lies _ rfl _ _ _ rfl 0 58 i0 _ 3 32 Tryd.underlying25 hi0 hz0 hzz1 hz2 rfl (by omega) _ y.out.length (y.out.flatMap cVal) rfl (H2.out.x.out.alloc _) ⟨w2.heap.size, 0, none⟩ 1 1 (cVal ⟨0, 0, []⟩) rfl rfl (World.news_of_block (cs := #[.int .i64 0, .int .i64 0, S []]) (t := 58) (fr := (0, 0)) (heap_alloc_new w2 _)) (by simp [cVal, Value.oneCell']) (by omega) (by unfold maxLen; omega) (by omega) (by omega) (w2.heap.size + 1) (by simp) ?_))
  intro gg cap w3 hown1 hgrow hat hltg
  have k11 := grown_cell1 hgrow c11 HOB.out
  have e11 := grown_free1 hgrow c11 f11 HOB.out
  have hd3 := H2.out.push hown1 (grown_alloc1 hgrow) (hat.elim .inl (fun e => .inr (by omega)))
  have H3 := Px.hid hd3
  clear hown1 hgrow hat hltg hd3 c11 f11 hi0 hz0 hzz1 hz2 hbl
  go_upto_region 29 with fail
  obtain ⟨w4, hw4⟩ : ∃ w4, w4 = w3.setCell ⟨b, 11, none⟩ (.slice (some ⟨gg, 0, none⟩) (y.out.length + 1) cap) := ⟨_, rfl⟩
  rw [← hw4]
  have HB := Px.hid (show Bgn w b s lim (.slice oa y.out.length oc) y w4 gg cap from ⟨by rw [hw4]; exact H3.out⟩)
  clear hw4 k11 e11 H3 H2 HOB
  obtain ⟨b11, b1, b2, bk, bf⟩ := HB.out.cells
  have H4 := Px.hid (HB.out.run)
  clear HB
  go_wp2_with fail
  refine (HO.out _ _ H4.out.x).mono ?_
  rintro e w5 ⟨rfl, h1, h2, _⟩
  have H5 := Px.hid (H4.out.it h1 h2)
  clear h1 h2
  obtain ⟨⟨o, z⟩, hres⟩ : ∃ r, R6.wordN s lim [110, 117, 108, 108] { y with out := y.out ++ [⟨0, 0, []⟩] } p = r := ⟨_, rfl⟩
  have HS := Px.hid (HST.out.trans hres)
  have H6 := Px.hid (show Did6 w b s lim (.slice oa y.out.length oc) z w5 from by have := H5.out; rw [hres] at this; exact this.did)
  rw [hres]
  clear hres H5 HST
  cases o with
  | none =>
    unfold tupV
    go_wp2
    go_ret2
    rw [HS.out]
    exact ⟨rfl, H6.out⟩
  | some q =>
    unfold tupV
    go_wp2
    go_ret2
    rw [HS.out]
    exact ⟨rfl, H6.out⟩

set_option maxRecDepth 100000 in
set_option maxHeartbeats 8000000 in
theorem val_str (b p dp d : Nat) (s : Bytes) (lim : Lim) (x y : R6.St) (vo : Value) (hc : Ctx s lim) (hw : R6.want s lim x p = (true, y)) (hcc : R6.at_ s p = 34) (hl : ¬ lim.i ≤ (y.out.length : Int)) (hfr : x.r.frames = dp) (hdl : ((dp + d : Nat) : Int) = lim.d) (w : World) (h : X6 w b s lim x vo) :
    Calls Tryd.prog 35 #[.pointer (some ⟨b, 0, none⟩), .int .i64 (p : Nat), .int .i64 (dp : Nat)] w fun r w' => r = .returned (tupV (R6.value s lim (d) x p).1) ∧ Did6 w b s lim vo (R6.value s lim (d) x p).2 w' := by
  obtain ⟨R, hR⟩ : ∃ R, R = R6.value s lim (d) x p := ⟨_, rfl⟩
  rw [← hR]
  have hmay := J6.may_of hc.may
  have hlen := hc.len
  obtain ⟨hkk, hps, hpb⟩ := R6.want_ok hw
  have hp2 : p ≤ 140737488355327 := by omega
  have hdp : dp ≤ 32 := by omega
  have hol : y.out.length ≤ 4096 := by omega
  have hix := idx6 s p hps
  have hci := want6 b p s lim x vo hc (by omega) w h
  rw [hw] at hci
  obtain ⟨oa, oc, hov, _⟩ := h.out.len
  rw [← hkk.1] at hov
  subst hov
  have hge : decide (lim.i ≤ (y.out.length : Int)) = false := decide_eq_false hl
  have hwp := wrap1 p hp2
  have hwd := wrap1 dp (by omega)
  have hst := v_plain (d := d) hw (by rw [hcc]; decide) (by rw [hcc]; decide) (by rw [hcc]; decide) hl
  rw [hcc, plain_str, ← hR] at hst
  have HO := Px.hid (fun (w : World) (vo : Value) (h : X6 w b s lim { y with out := y.out ++ [⟨4, 0, []⟩] } vo) => text6 b p s lim { y with out := y.out ++ [⟨4, 0, []⟩] } vo hc hps w h)
  have hto := fun o z => text_out (s := s) (lim := lim) (x := { y with out := y.out ++ [⟨4, 0, []⟩] }) (p := p) (o := o) (y := z)
  obtain ⟨⟨o, z⟩, hres⟩ : ∃ r, R6.text s lim { y with out := y.out ++ [⟨4, 0, []⟩] } p = r := ⟨_, rfl⟩
  have hto := hto o z hres
  rw [hres] at hst
  simp only [hres] at HO
  have HST := Px.hid hst
  have HZO := Px.hid hto
  clear hst hres hto
  simp only [hcc] at hix
  have HI := Px.hid hci
  have HH := Px.hid (Run6.refl h)
  clear hci h hw hcc hl hfr hdl hkk hps hpb hR hc hmay hlen hdp
  go_enter Tryd.func35, Tryd.ntmps35
  go_wp2_with fail
  refine HI.out.mono ?_
  rintro e w1 ⟨rfl, h1, h2⟩
  have c0 := h1.c0
  obtain ⟨_, c1, c2, _⟩ := h1.rd.cells
  have c11 := h1.cell11
  have H1 := Px.hid (HH.out.it h1 h2)
  clear h1 h2
  go_wp2_with fail
  go_quiet (fail)
  obtain ⟨w2, hw2⟩ : ∃ w2, w2 = w1.drewN nq := ⟨_, rfl⟩
  rw [← hw2]
  have H2 := Px.hid (show Run6 w b s lim (.slice oa y.out.length oc) y w2 (.slice oa y.out.length oc) from by rw [hw2]; exact H1.out.drewN nq)
  clear c0 c1 c2 c11 hw2 H1 hge
  have c11 := H2.out.x.cell11
  have f11 := H2.out.x.rd.free 11
  have hbl := H2.out.x.lt
  have HOB := Px.hid H2.out.x.ob.ne
  obtain ⟨i0, hi0, hz0, hzz1, hz2⟩ := info_parts Tryd.infoVal
  go_wp2_with (at_builtin; go_must (refine wpList_append_lies _ rfl _ _ _ rfl 0 58 i0 _ 3 32 Tryd.underlying25 hi0 hz0 hzz1 hz2 rfl (by omega) _ y.out.length (y.out.flatMap cVal) rfl (H2.out.x.out.alloc _) ⟨w2.heap.size, 0, none⟩ 1 1 (cVal ⟨0, 0, []⟩) rfl rfl (World.news_of_block (cs := #[.int .i64 0, .int .i64 0, S []]) (t := 58) (fr := (0, 0)) (heap_alloc_new w2 _)) (by simp [cVal, Value.oneCell']) (by omega) (by unfold maxLen; omega) (by omega) (by omega) (w2.heap.size + 1) (by simp) ?_))
  intro gg cap w3 hown1 hgrow hat hltg
  have k11 := grown_cell1 hgrow c11 HOB.out
  have e11 := grown_free1 hgrow c11 f11 HOB.out
  have hd3 := H2.out.push hown1 (grown_alloc1 hgrow) (hat.elim .inl (fun e => .inr (by omega)))
  have H3 := Px.hid hd3
  clear hown1 hgrow hat hltg hd3 c11 f11 hi0 hz0 hzz1 hz2 hbl
  go_upto_region 18 with fail
  obtain ⟨w4, hw4⟩ : ∃ w4, w4 = w3.setCell ⟨b, 11, none⟩ (.slice (some ⟨gg, 0, none⟩) (y.out.length + 1) cap) := ⟨_, rfl⟩
  rw [← hw4]
  have HB := Px.hid (show Bgn w b s lim (.slice oa y.out.length oc) y w4 gg cap from ⟨by rw [hw4]; exact H3.out⟩)
  clear hw4 k11 e11 H3 H2 HOB
  obtain ⟨b11, b1, b2, bk, bf⟩ := HB.out.cells
  have H4 := Px.hid (HB.out.kind 4)
  clear HB
  go_wp2_with fail
  refine (HO.out _ _ H4.out.x).mono ?_
  rintro e w5 ⟨rfl, h1, h2, _⟩
  have H5 := Px.hid (H4.out.it h1 h2)
  clear h1 h2
  clear b11 b1 b2 bk bf
  obtain ⟨_, b11, b1, b2, bk, bf, hput⟩ := H5.out.last HZO.out
  have HP := Px.hid hput
  clear hput H4
  cases o with
  | none =>
    have HS := Px.hid (show R = (none, z) from HST.out)
    have HQ := Px.hid (show Did6 w b s lim (.slice oa y.out.length oc) z (w5.setCell ⟨gg, y.out.length * 3 + 2, none⟩ (S [])) from by
      have := (HP.out []).did
      rw [show ({ z with out := y.out ++ [{ (⟨4, 0, []⟩ : Val) with text := [] }] } : R6.St) = z by rw [← HZO.out]] at this
      exact this)
    unfold escV
    go_wp2
    go_ret2
    rw [HS.out]
    exact ⟨rfl, HQ.out⟩
  | some v =>
    obtain ⟨t, q⟩ := v
    have HS := Px.hid (show R = (some q, { z with out := y.out ++ [⟨4, 0, t⟩] }) from by
      have := HST.out
      simp only at this
      rw [this, HZO.out, R6.setText_mid])
    have HQ := Px.hid (HP.out t).did
    unfold escV
    go_wp2
    go_ret2
    rw [HS.out]
    exact ⟨rfl, HQ.out⟩

end Go.Proofs.YtahojodgmjmpnaaDoor

/-! The walk over the reference's value, layer 16: numbers. -/
namespace Go.Proofs.YtahojodgmjmpnaaDoor
open Go.RowKit Go.Px


set_option maxRecDepth 100000 in
set_option maxHeartbeats 8000000 in
theorem val_min (b p dp d : Nat) (s : Bytes) (lim : Lim) (x y : R6.St) (vo : Value) (hc : Ctx s lim) (hw : R6.want s lim x p = (true, y)) (hcc : R6.at_ s p = 45) (hl : ¬ lim.i ≤ (y.out.length : Int)) (hfr : x.r.frames = dp) (hdl : ((dp + d : Nat) : Int) = lim.d) (w : World) (h : X6 w b s lim x vo) :
    Calls Tryd.prog 35 #[.pointer (some ⟨b, 0, none⟩), .int .i64 (p : Nat), .int .i64 (dp : Nat)] w fun r w' => r = .returned (tupV (R6.value s lim (d) x p).1) ∧ Did6 w b s lim vo (R6.value s lim (d) x p).2 w' := by
  obtain ⟨R, hR⟩ : ∃ R, R = R6.value s lim (d) x p := ⟨_, rfl⟩
  rw [← hR]
  have hmay := J6.may_of hc.may
  have hlen := hc.len
  obtain ⟨hkk, hps, hpb⟩ := R6.want_ok hw
  have hp2 : p ≤ 140737488355327 := by omega
  have hdp : dp ≤ 32 := by omega
  have hol : y.out.length ≤ 4096 := by omega
  have hix := idx6 s p hps
  have hci := want6 b p s lim x vo hc (by omega) w h
  rw [hw] at hci
  obtain ⟨oa, oc, hov, _⟩ := h.out.len
  rw [← hkk.1] at hov
  subst hov
  have hge : decide (lim.i ≤ (y.out.length : Int)) = false := decide_eq_false hl
  have hwp := wrap1 p hp2
  have hwd := wrap1 dp (by omega)
  have hst := v_plain (d := d) hw (by rw [hcc]; decide) (by rw [hcc]; decide) (by rw [hcc]; decide) hl
  rw [hcc, plain_num _ (by decide) (by decide) (by decide) (by decide), ← hR] at hst
  unfold R6.numVal at hst
  simp only at hst
  have hmb := hc.b
  obtain ⟨e, he⟩ : ∃ e, e = min s.length lim.b.toNat := ⟨_, rfl⟩
  rw [← he] at hst
  have hnl : p + (R6.number ((s.take e).drop p)).1 ≤ e := R6.number_le (by omega) (by omega)
  have hes : e ≤ s.length := by omega
  obtain ⟨sub, hsub⟩ : ∃ sub, sub = (s.take e).drop p := ⟨_, rfl⟩
  have hsl : ∀ w, (Instr.slice 9 (S s) (some (.int .i64 (p : Int))) (some (.int .i64 (e : Nat))) none).run Tryd.prog w = .ok (S sub) w := fun w => by rw [hsub]; exact slice_S s p e (by omega) hes w
  rw [← hsub] at hst hnl
  have hsubl : sub.length ≤ 140737488355327 := by rw [hsub, List.length_drop, List.length_take]; omega
  have HN := Px.hid (fun w => number6 sub hsubl w)
  obtain ⟨⟨n, wh⟩, hnum⟩ : ∃ r, R6.number sub = r := ⟨_, rfl⟩
  rw [hnum] at hst hnl
  simp only [hnum] at HN
  simp only at hst hnl
  have hsl2 : ∀ w, (Instr.slice 9 (S s) (some (.int .i64 (p : Int))) (some (.int .i64 ((p : Int) + (n : Int)))) none).run Tryd.prog w = .ok (S ((s.take (p + n)).drop p)) w := fun w => by
    have := slice_S s p (p + n) (by omega) (by omega) w
    rw [show ((p + n : Nat) : Int) = (p : Int) + (n : Int) by omega] at this
    exact this
  have hpn : p + n ≤ 140737488355327 := by omega
  have hwn : IntKind.i64.wrap ((p : Int) + (n : Int)) = (p : Int) + (n : Int) := IntWalk.i64_in _ ⟨by omega, by omega⟩
  have HE := Px.hid (And.intro he (And.intro hmb (And.intro hc (And.intro hes hpn))))
  have HST := Px.hid hst
  clear hst hnum hsub hsubl hnl he hes
  simp only [hcc] at hix
  have HI := Px.hid hci
  have HH := Px.hid (Run6.refl h)
  clear hci h hw hcc hl hfr hdl hkk hps hpb hR hc hmay hlen hdp hmb
  go_enter Tryd.func35, Tryd.ntmps35
  go_wp2_with fail
  refine HI.out.mono ?_
  rintro e w1 ⟨rfl, h1, h2⟩
  have c0 := h1.c0
  obtain ⟨_, c1, c2, _⟩ := h1.rd.cells
  have c11 := h1.cell11
  have H1 := Px.hid (HH.out.it h1 h2)
  clear h1 h2
  go_wp2_with fail
  go_quiet (fail)
  obtain ⟨w2, hw2⟩ : ∃ w2, w2 = w1.drewN nq := ⟨_, rfl⟩
  rw [← hw2]
  have H2 := Px.hid (show Run6 w b s lim (.slice oa y.out.length oc) y w2 (.slice oa y.out.length oc) from by rw [hw2]; exact H1.out.drewN nq)
  clear c0 c1 c2 c11 hw2 H1 hge
  have c11 := H2.out.x.cell11
  have f11 := H2.out.x.rd.free 11
  have hbl := H2.out.x.lt
  have HOB := Px.hid H2.out.x.ob.ne
  obtain ⟨i0, hi0, hz0, hzz1, hz2⟩ := info_parts Tryd.infoVal
  go_wp2_with (at_builtin; go_must (refine wpList_append_lies _ rfl _ _ _ rfl 0 58 i0 _ 3 32 Tryd.underlying25 hi0 hz0 hzz1 hz2 rfl (by omega) _ y.out.length (y.out.flatMap cVal) rfl (H2.out.x.out.alloc _) ⟨w2.heap.size, 0, none⟩ 1 1 (cVal ⟨0, 0, []⟩) rfl rfl (World.news_of_block (cs := #[.int .i64 0, .int .i64 0, S []]) (t := 58) (fr := (0, 0)) (heap_alloc_new w2 _)) (by simp [cVal, Value.oneCell']) (by omega) (by unfold maxLen; omega) (by omega) (by omega) (w2.heap.size + 1) (by simp) ?_))
  intro gg cap w3 hown1 hgrow hat hltg
  have k11 := grown_cell1 hgrow c11 HOB.out
  have e11 := grown_free1 hgrow c11 f11 HOB.out
  have hd3 := H2.out.push hown1 (grown_alloc1 hgrow) (hat.elim .inl (fun e => .inr (by omega)))
  have H3 := Px.hid hd3
  clear hown1 hgrow hat hltg hd3 c11 f11 hi0 hz0 hzz1 hz2 hbl
  go_upto_region 30 with fail
  obtain ⟨w4, hw4⟩ : ∃ w4, w4 = w3.setCell ⟨b, 11, none⟩ (.slice (some ⟨gg, 0, none⟩) (y.out.length + 1) cap) := ⟨_, rfl⟩
  rw [← hw4]
  have HB := Px.hid (show Bgn w b s lim (.slice oa y.out.length oc) y w4 gg cap from ⟨by rw [hw4]; exact H3.out⟩)
  clear hw4 k11 e11 H3 H2 HOB
  obtain ⟨b11, b1, b2, bk, bf⟩ := HB.out.cells
  have H4 := Px.hid (HB.out.kind 3)
  clear HB
  have hszS : (ByteArray.mk s.toArray).size = s.length := size_S s
  have c0 := H4.out.x.c0
  have c3 := H4.out.x.rd.cells.2.2.2.1
  obtain ⟨w5, hw5⟩ : ∃ w5, w5 = w4.setCell ⟨gg, y.out.length * 3, none⟩ (.int .i64 3) := ⟨_, rfl⟩
  rw [← hw5] at c0 c3
  have H5 := Px.hid (show Run6 w b s lim (.slice oa y.out.length oc) { y with out := y.out ++ [⟨3, 0, []⟩] } w5 (.slice (some ⟨gg, 0, none⟩) (y.out.length + 1) cap) from by rw [hw5]; exact H4.out)
  go_upto_region 31 with fail
  rw [← hw5]
  clear hw5 H4 b11 b1 b2 bk bf
  obtain ⟨z, hz⟩ : ∃ z : R6.St, z = R6.take { y with out := y.out ++ [⟨3, 0, []⟩] } (p + n) := ⟨_, rfl⟩
  have HZ := Px.hid (show z.out = y.out ++ [⟨3, 0, []⟩] by rw [hz]; rfl)
  have hst := HST.out
  rw [← hz] at hst
  have HT := Px.hid (fun (w : World) (vo : Value) (h : X6 w b s lim { y with out := y.out ++ [⟨3, 0, []⟩] } vo) => take6 b (p + n) s lim { y with out := y.out ++ [⟨3, 0, []⟩] } vo w h)
  simp only [← hz] at HT
  clear hz HST
  have hgo : ∀ (e2 : Int), e2 = (e : Nat) → True := fun _ _ => trivial
  clear hgo
  cases wh with
  | true =>
    rw [if_pos rfl] at hst
    rw [HZ.out, R6.setText_mid] at hst
    have HS := Px.hid hst
    clear hst
    by_cases hbig : lim.b < (s.length : Int)
    · have hb1 : decide (lim.b < (s.length : Int)) = true := decide_eq_true hbig
      have hee : lim.b = (e : Nat) := by have := HE.out; omega
      simp only [← hee] at hsl
      clear hbig hee
      go_wp2_with fail
      refine (HN.out _).mono ?_
      rintro r w6 ⟨rfl, rfl⟩
      unfold numV
      go_wp2_with fail
      refine (HT.out _ _ H5.out.x).mono ?_
      rintro r w7 ⟨rfl, h1, h2⟩
      have H7 := Px.hid (H5.out.it h1 h2)
      obtain ⟨_, b11, b1, b2, bk, bf, hput⟩ := H7.out.last HZ.out
      have c0' := h1.c0
      have HP := Px.hid (hput ((s.take (p + n)).drop p))
      clear h1 h2 hput c0 c3
      go_upto_region 40 with fail
      go_region
      have HQ := Px.hid (HP.out.drewN 1).did
      go_wp2
      go_ret2
      rw [HS.out]
      exact ⟨rfl, HQ.out⟩
    · have hb1 : decide (lim.b < (s.length : Int)) = false := decide_eq_false hbig
      have hee : ((s.length : Nat) : Int) = (e : Nat) := by have := HE.out; omega
      simp only [← hee] at hsl
      clear hbig hee
      go_wp2_with fail
      refine (HN.out _).mono ?_
      rintro r w6 ⟨rfl, rfl⟩
      unfold numV
      go_wp2_with fail
      refine (HT.out _ _ H5.out.x).mono ?_
      rintro r w7 ⟨rfl, h1, h2⟩
      have H7 := Px.hid (H5.out.it h1 h2)
      obtain ⟨_, b11, b1, b2, bk, bf, hput⟩ := H7.out.last HZ.out
      have c0' := h1.c0
      have HP := Px.hid (hput ((s.take (p + n)).drop p))
      clear h1 h2 hput c0 c3
      go_upto_region 40 with fail
      go_region
      have HQ := Px.hid (HP.out.drewN 1).did
      go_wp2
      go_ret2
      rw [HS.out]
      exact ⟨rfl, HQ.out⟩
  | false =>
    rw [if_neg (by decide)] at hst
    have HW2 := Px.hid (fun (w : World) (vo : Value) (h : X6 w b s lim z vo) => want6 b (p + n) s lim z vo HE.out.2.2.1 (by have := HE.out; omega) w h)
    obtain ⟨⟨q, u⟩, hres⟩ : ∃ r, R6.want s lim z (p + n) = r := ⟨_, rfl⟩
    rw [hres] at hst
    simp only [hres] at HW2
    have HST := Px.hid hst
    clear hst hres
    have key : lim.b < (s.length : Int) ∧ lim.b = (e : Nat) ∨ ¬ lim.b < (s.length : Int) ∧ ((s.length : Nat) : Int) = (e : Nat) := by have := HE.out; omega
    rcases key with ⟨hbig, hee⟩ | ⟨hbig, hee⟩
    · have hb1 : decide (lim.b < (s.length : Int)) = true := decide_eq_true hbig
      simp only [← hee] at hsl
      clear hbig hee
      go_wp2_with fail
      refine (HN.out _).mono ?_
      rintro r w6 ⟨rfl, rfl⟩
      unfold numV
      go_wp2_with fail
      refine (HT.out _ _ H5.out.x).mono ?_
      rintro r w7 ⟨rfl, h1, h2⟩
      have H7 := Px.hid (H5.out.it h1 h2)
      clear h1 h2 c0 c3
      go_wp2_with fail
      refine (HW2.out _ _ H7.out.x).mono ?_
      rintro r w8 ⟨rfl, h1, h2⟩
      have H8 := Px.hid (H7.out.it h1 h2)
      clear h1 h2
      cases q with
      | false =>
        have HS := Px.hid (show R = (none, u) from HST.out)
        go_wp2
        go_ret2
        rw [HS.out]
        exact ⟨rfl, H8.out.did⟩
      | true =>
        have HS := Px.hid (show R = (none, R6.fault u (p + n : Nat) 9) from HST.out)
        go_wp2_with fail
        refine (fault6 b (p + n : Nat) 9 s lim u _ _ H8.out.x).mono ?_
        rintro r w9 ⟨rfl, h1, h2⟩
        have H9 := Px.hid (H8.out.it h1 h2)
        clear h1 h2
        go_wp2
        go_ret2
        rw [HS.out]
        exact ⟨rfl, H9.out.did⟩
    · have hb1 : decide (lim.b < (s.length : Int)) = false := decide_eq_false hbig
      simp only [← hee] at hsl
      clear hbig hee
      go_wp2_with fail
      refine (HN.out _).mono ?_
      rintro r w6 ⟨rfl, rfl⟩
      unfold numV
      go_wp2_with fail
      refine (HT.out _ _ H5.out.x).mono ?_
      rintro r w7 ⟨rfl, h1, h2⟩
      have H7 := Px.hid (H5.out.it h1 h2)
      clear h1 h2 c0 c3
      go_wp2_with fail
      refine (HW2.out _ _ H7.out.x).mono ?_
      rintro r w8 ⟨rfl, h1, h2⟩
      have H8 := Px.hid (H7.out.it h1 h2)
      clear h1 h2
      cases q with
      | false =>
        have HS := Px.hid (show R = (none, u) from HST.out)
        go_wp2
        go_ret2
        rw [HS.out]
        exact ⟨rfl, H8.out.did⟩
      | true =>
        have HS := Px.hid (show R = (none, R6.fault u (p + n : Nat) 9) from HST.out)
        go_wp2_with fail
        refine (fault6 b (p + n : Nat) 9 s lim u _ _ H8.out.x).mono ?_
        rintro r w9 ⟨rfl, h1, h2⟩
        have H9 := Px.hid (H8.out.it h1 h2)
        clear h1 h2
        go_wp2
        go_ret2
        rw [HS.out]
        exact ⟨rfl, H9.out.did⟩

set_option maxRecDepth 100000 in
set_option maxHeartbeats 8000000 in
theorem val_dig (b p dp d c : Nat) (s : Bytes) (lim : Lim) (x y : R6.St) (vo : Value) (hc : Ctx s lim) (hw : R6.want s lim x p = (true, y)) (hcc : R6.at_ s p = c) (hl : ¬ lim.i ≤ (y.out.length : Int)) (hfr : x.r.frames = dp) (hdl : ((dp + d : Nat) : Int) = lim.d) (hdc : R6.digit c = true) (w : World) (h : X6 w b s lim x vo) :
    Calls Tryd.prog 35 #[.pointer (some ⟨b, 0, none⟩), .int .i64 (p : Nat), .int .i64 (dp : Nat)] w fun r w' => r = .returned (tupV (R6.value s lim (d) x p).1) ∧ Did6 w b s lim vo (R6.value s lim (d) x p).2 w' := by
  obtain ⟨R, hR⟩ : ∃ R, R = R6.value s lim (d) x p := ⟨_, rfl⟩
  rw [← hR]
  have hmay := J6.may_of hc.may
  have hlen := hc.len
  obtain ⟨hkk, hps, hpb⟩ := R6.want_ok hw
  have hp2 : p ≤ 140737488355327 := by omega
  have hdp : dp ≤ 32 := by omega
  have hol : y.out.length ≤ 4096 := by omega
  have hix := idx6 s p hps
  have hci := want6 b p s lim x vo hc (by omega) w h
  rw [hw] at hci
  obtain ⟨oa, oc, hov, _⟩ := h.out.len
  rw [← hkk.1] at hov
  subst hov
  have hge : decide (lim.i ≤ (y.out.length : Int)) = false := decide_eq_false hl
  have hwp := wrap1 p hp2
  have hwd := wrap1 dp (by omega)
  have hst := v_plain (d := d) hw (by rw [hcc]; (unfold R6.firsts; rw [hdc]; simp)) (by rw [hcc]; (have := hdc; unfold R6.digit at this; simp at this; omega)) (by rw [hcc]; (have := hdc; unfold R6.digit at this; simp at this; omega)) hl
  rw [hcc, plain_num _ (by (have := hdc; unfold R6.digit at this; simp at this; omega)) (by (have := hdc; unfold R6.digit at this; simp at this; omega)) (by (have := hdc; unfold R6.digit at this; simp at this; omega)) (by (have := hdc; unfold R6.digit at this; simp at this; omega)), ← hR] at hst
  unfold R6.numVal at hst
  simp only at hst
  have hmb := hc.b
  obtain ⟨e, he⟩ : ∃ e, e = min s.length lim.b.toNat := ⟨_, rfl⟩
  rw [← he] at hst
  have hnl : p + (R6.number ((s.take e).drop p)).1 ≤ e := R6.number_le (by omega) (by omega)
  have hes : e ≤ s.length := by omega
  obtain ⟨sub, hsub⟩ : ∃ sub, sub = (s.take e).drop p := ⟨_, rfl⟩
  have hsl : ∀ w, (Instr.slice 9 (S s) (some (.int .i64 (p : Int))) (some (.int .i64 (e : Nat))) none).run Tryd.prog w = .ok (S sub) w := fun w => by rw [hsub]; exact slice_S s p e (by omega) hes w
  rw [← hsub] at hst hnl
  have hsubl : sub.length ≤ 140737488355327 := by rw [hsub, List.length_drop, List.length_take]; omega
  have HN := Px.hid (fun w => number6 sub hsubl w)
  obtain ⟨⟨n, wh⟩, hnum⟩ : ∃ r, R6.number sub = r := ⟨_, rfl⟩
  rw [hnum] at hst hnl
  simp only [hnum] at HN
  simp only at hst hnl
  have hsl2 : ∀ w, (Instr.slice 9 (S s) (some (.int .i64 (p : Int))) (some (.int .i64 ((p : Int) + (n : Int)))) none).run Tryd.prog w = .ok (S ((s.take (p + n)).drop p)) w := fun w => by
    have := slice_S s p (p + n) (by omega) (by omega) w
    rw [show ((p + n : Nat) : Int) = (p : Int) + (n : Int) by omega] at this
    exact this
  have hpn : p + n ≤ 140737488355327 := by omega
  have hwn : IntKind.i64.wrap ((p : Int) + (n : Int)) = (p : Int) + (n : Int) := IntWalk.i64_in _ ⟨by omega, by omega⟩
  have HE := Px.hid (And.intro he (And.intro hmb (And.intro hc (And.intro hes hpn))))
  have HST := Px.hid hst
  clear hst hnum hsub hsubl hnl he hes
  have hdb : 48 ≤ c ∧ c ≤ 57 := by unfold R6.digit at hdc; simpa using hdc
  have HD := Px.hid (fun w => digit6 c w)
  simp only [hdc] at HD
  have ne123 : ((c : Int) != 123) = true := by simp; omega
  have eq123 : ((c : Int) == 123) = false := by simp; omega
  have ne91 : ((c : Int) != 91) = true := by simp; omega
  have eq91 : ((c : Int) == 91) = false := by simp; omega
  have ne34 : ((c : Int) != 34) = true := by simp; omega
  have eq34 : ((c : Int) == 34) = false := by simp; omega
  have ne45 : ((c : Int) != 45) = true := by simp; omega
  have eq45 : ((c : Int) == 45) = false := by simp; omega
  have ne116 : ((c : Int) != 116) = true := by simp; omega
  have eq116 : ((c : Int) == 116) = false := by simp; omega
  have ne102 : ((c : Int) != 102) = true := by simp; omega
  have eq102 : ((c : Int) == 102) = false := by simp; omega
  have ne110 : ((c : Int) != 110) = true := by simp; omega
  have eq110 : ((c : Int) == 110) = false := by simp; omega
  clear hdb hdc
  simp only [hcc] at hix
  have HI := Px.hid hci
  have HH := Px.hid (Run6.refl h)
  clear hci h hw hcc hl hfr hdl hkk hps hpb hR hc hmay hlen hdp hmb
  go_enter Tryd.func35, Tryd.ntmps35
  go_wp2_with fail
  refine HI.out.mono ?_
  rintro e w1 ⟨rfl, h1, h2⟩
  have c0 := h1.c0
  obtain ⟨_, c1, c2, _⟩ := h1.rd.cells
  have c11 := h1.cell11
  have H1 := Px.hid (HH.out.it h1 h2)
  clear h1 h2
  go_wp2_with fail
  refine (HD.out _).mono ?_
  rintro e w1b ⟨rfl, rfl⟩
  go_wp2_with fail
  go_quiet (fail)
  obtain ⟨w2, hw2⟩ : ∃ w2, w2 = w1.drewN nq := ⟨_, rfl⟩
  rw [← hw2]
  have H2 := Px.hid (show Run6 w b s lim (.slice oa y.out.length oc) y w2 (.slice oa y.out.length oc) from by rw [hw2]; exact H1.out.drewN nq)
  clear c0 c1 c2 c11 hw2 H1 hge
  have c11 := H2.out.x.cell11
  have f11 := H2.out.x.rd.free 11
  have hbl := H2.out.x.lt
  have HOB := Px.hid H2.out.x.ob.ne
  obtain ⟨i0, hi0, hz0, hzz1, hz2⟩ := info_parts Tryd.infoVal
  go_wp2_with (at_builtin; go_must (refine wpList_append_lies _ rfl _ _ _ rfl 0 58 i0 _ 3 32 Tryd.underlying25 hi0 hz0 hzz1 hz2 rfl (by omega) _ y.out.length (y.out.flatMap cVal) rfl (H2.out.x.out.alloc _) ⟨w2.heap.size, 0, none⟩ 1 1 (cVal ⟨0, 0, []⟩) rfl rfl (World.news_of_block (cs := #[.int .i64 0, .int .i64 0, S []]) (t := 58) (fr := (0, 0)) (heap_alloc_new w2 _)) (by simp [cVal, Value.oneCell']) (by omega) (by unfold maxLen; omega) (by omega) (by omega) (w2.heap.size + 1) (by simp) ?_))
  intro gg cap w3 hown1 hgrow hat hltg
  have k11 := grown_cell1 hgrow c11 HOB.out
  have e11 := grown_free1 hgrow c11 f11 HOB.out
  have hd3 := H2.out.push hown1 (grown_alloc1 hgrow) (hat.elim .inl (fun e => .inr (by omega)))
  have H3 := Px.hid hd3
  clear hown1 hgrow hat hltg hd3 c11 f11 hi0 hz0 hzz1 hz2 hbl
  go_upto_region 30 with fail
  obtain ⟨w4, hw4⟩ : ∃ w4, w4 = w3.setCell ⟨b, 11, none⟩ (.slice (some ⟨gg, 0, none⟩) (y.out.length + 1) cap) := ⟨_, rfl⟩
  rw [← hw4]
  have HB := Px.hid (show Bgn w b s lim (.slice oa y.out.length oc) y w4 gg cap from ⟨by rw [hw4]; exact H3.out⟩)
  clear hw4 k11 e11 H3 H2 HOB
  obtain ⟨b11, b1, b2, bk, bf⟩ := HB.out.cells
  have H4 := Px.hid (HB.out.kind 3)
  clear HB
  have hszS : (ByteArray.mk s.toArray).size = s.length := size_S s
  have c0 := H4.out.x.c0
  have c3 := H4.out.x.rd.cells.2.2.2.1
  obtain ⟨w5, hw5⟩ : ∃ w5, w5 = w4.setCell ⟨gg, y.out.length * 3, none⟩ (.int .i64 3) := ⟨_, rfl⟩
  rw [← hw5] at c0 c3
  have H5 := Px.hid (show Run6 w b s lim (.slice oa y.out.length oc) { y with out := y.out ++ [⟨3, 0, []⟩] } w5 (.slice (some ⟨gg, 0, none⟩) (y.out.length + 1) cap) from by rw [hw5]; exact H4.out)
  go_upto_region 31 with fail
  rw [← hw5]
  clear hw5 H4 b11 b1 b2 bk bf
  obtain ⟨z, hz⟩ : ∃ z : R6.St, z = R6.take { y with out := y.out ++ [⟨3, 0, []⟩] } (p + n) := ⟨_, rfl⟩
  have HZ := Px.hid (show z.out = y.out ++ [⟨3, 0, []⟩] by rw [hz]; rfl)
  have hst := HST.out
  rw [← hz] at hst
  have HT := Px.hid (fun (w : World) (vo : Value) (h : X6 w b s lim { y with out := y.out ++ [⟨3, 0, []⟩] } vo) => take6 b (p + n) s lim { y with out := y.out ++ [⟨3, 0, []⟩] } vo w h)
  simp only [← hz] at HT
  clear hz HST
  have hgo : ∀ (e2 : Int), e2 = (e : Nat) → True := fun _ _ => trivial
  clear hgo
  cases wh with
  | true =>
    rw [if_pos rfl] at hst
    rw [HZ.out, R6.setText_mid] at hst
    have HS := Px.hid hst
    clear hst
    by_cases hbig : lim.b < (s.length : Int)
    · have hb1 : decide (lim.b < (s.length : Int)) = true := decide_eq_true hbig
      have hee : lim.b = (e : Nat) := by have := HE.out; omega
      simp only [← hee] at hsl
      clear hbig hee
      go_wp2_with fail
      refine (HN.out _).mono ?_
      rintro r w6 ⟨rfl, rfl⟩
      unfold numV
      go_wp2_with fail
      refine (HT.out _ _ H5.out.x).mono ?_
      rintro r w7 ⟨rfl, h1, h2⟩
      have H7 := Px.hid (H5.out.it h1 h2)
      obtain ⟨_, b11, b1, b2, bk, bf, hput⟩ := H7.out.last HZ.out
      have c0' := h1.c0
      have HP := Px.hid (hput ((s.take (p + n)).drop p))
      clear h1 h2 hput c0 c3
      go_upto_region 40 with fail
      go_region
      have HQ := Px.hid (HP.out.drewN 1).did
      go_wp2
      go_ret2
      rw [HS.out]
      exact ⟨rfl, HQ.out⟩
    · have hb1 : decide (lim.b < (s.length : Int)) = false := decide_eq_false hbig
      have hee : ((s.length : Nat) : Int) = (e : Nat) := by have := HE.out; omega
      simp only [← hee] at hsl
      clear hbig hee
      go_wp2_with fail
      refine (HN.out _).mono ?_
      rintro r w6 ⟨rfl, rfl⟩
      unfold numV
      go_wp2_with fail
      refine (HT.out _ _ H5.out.x).mono ?_
      rintro r w7 ⟨rfl, h1, h2⟩
      have H7 := Px.hid (H5.out.it h1 h2)
      obtain ⟨_, b11, b1, b2, bk, bf, hput⟩ := H7.out.last HZ.out
      have c0' := h1.c0
      have HP := Px.hid (hput ((s.take (p + n)).drop p))
      clear h1 h2 hput c0 c3
      go_upto_region 40 with fail
      go_region
      have HQ := Px.hid (HP.out.drewN 1).did
      go_wp2
      go_ret2
      rw [HS.out]
      exact ⟨rfl, HQ.out⟩
  | false =>
    rw [if_neg (by decide)] at hst
    have HW2 := Px.hid (fun (w : World) (vo : Value) (h : X6 w b s lim z vo) => want6 b (p + n) s lim z vo HE.out.2.2.1 (by have := HE.out; omega) w h)
    obtain ⟨⟨q, u⟩, hres⟩ : ∃ r, R6.want s lim z (p + n) = r := ⟨_, rfl⟩
    rw [hres] at hst
    simp only [hres] at HW2
    have HST := Px.hid hst
    clear hst hres
    have key : lim.b < (s.length : Int) ∧ lim.b = (e : Nat) ∨ ¬ lim.b < (s.length : Int) ∧ ((s.length : Nat) : Int) = (e : Nat) := by have := HE.out; omega
    rcases key with ⟨hbig, hee⟩ | ⟨hbig, hee⟩
    · have hb1 : decide (lim.b < (s.length : Int)) = true := decide_eq_true hbig
      simp only [← hee] at hsl
      clear hbig hee
      go_wp2_with fail
      refine (HN.out _).mono ?_
      rintro r w6 ⟨rfl, rfl⟩
      unfold numV
      go_wp2_with fail
      refine (HT.out _ _ H5.out.x).mono ?_
      rintro r w7 ⟨rfl, h1, h2⟩
      have H7 := Px.hid (H5.out.it h1 h2)
      clear h1 h2 c0 c3
      go_wp2_with fail
      refine (HW2.out _ _ H7.out.x).mono ?_
      rintro r w8 ⟨rfl, h1, h2⟩
      have H8 := Px.hid (H7.out.it h1 h2)
      clear h1 h2
      cases q with
      | false =>
        have HS := Px.hid (show R = (none, u) from HST.out)
        go_wp2
        go_ret2
        rw [HS.out]
        exact ⟨rfl, H8.out.did⟩
      | true =>
        have HS := Px.hid (show R = (none, R6.fault u (p + n : Nat) 9) from HST.out)
        go_wp2_with fail
        refine (fault6 b (p + n : Nat) 9 s lim u _ _ H8.out.x).mono ?_
        rintro r w9 ⟨rfl, h1, h2⟩
        have H9 := Px.hid (H8.out.it h1 h2)
        clear h1 h2
        go_wp2
        go_ret2
        rw [HS.out]
        exact ⟨rfl, H9.out.did⟩
    · have hb1 : decide (lim.b < (s.length : Int)) = false := decide_eq_false hbig
      simp only [← hee] at hsl
      clear hbig hee
      go_wp2_with fail
      refine (HN.out _).mono ?_
      rintro r w6 ⟨rfl, rfl⟩
      unfold numV
      go_wp2_with fail
      refine (HT.out _ _ H5.out.x).mono ?_
      rintro r w7 ⟨rfl, h1, h2⟩
      have H7 := Px.hid (H5.out.it h1 h2)
      clear h1 h2 c0 c3
      go_wp2_with fail
      refine (HW2.out _ _ H7.out.x).mono ?_
      rintro r w8 ⟨rfl, h1, h2⟩
      have H8 := Px.hid (H7.out.it h1 h2)
      clear h1 h2
      cases q with
      | false =>
        have HS := Px.hid (show R = (none, u) from HST.out)
        go_wp2
        go_ret2
        rw [HS.out]
        exact ⟨rfl, H8.out.did⟩
      | true =>
        have HS := Px.hid (show R = (none, R6.fault u (p + n : Nat) 9) from HST.out)
        go_wp2_with fail
        refine (fault6 b (p + n : Nat) 9 s lim u _ _ H8.out.x).mono ?_
        rintro r w9 ⟨rfl, h1, h2⟩
        have H9 := Px.hid (H8.out.it h1 h2)
        clear h1 h2
        go_wp2
        go_ret2
        rw [HS.out]
        exact ⟨rfl, H9.out.did⟩

end Go.Proofs.YtahojodgmjmpnaaDoor

/-! The walk over the reference's value, layer 16: limits and faults. -/
namespace Go.Proofs.YtahojodgmjmpnaaDoor
open Go.RowKit Go.Px


set_option maxRecDepth 100000 in
set_option maxHeartbeats 4000000 in
theorem full_obj (b p dp d : Nat) (s : Bytes) (lim : Lim) (x y : R6.St) (vo : Value) (hc : Ctx s lim) (hw : R6.want s lim x p = (true, y)) (hcc : R6.at_ s p = 123) (hl : lim.i ≤ (y.out.length : Int)) (w : World) (h : X6 w b s lim x vo) :
    Calls Tryd.prog 35 #[.pointer (some ⟨b, 0, none⟩), .int .i64 (p : Nat), .int .i64 (dp : Nat)] w fun r w' => r = .returned (tupV (R6.value s lim d x p).1) ∧ Did6 w b s lim vo (R6.value s lim d x p).2 w' := by
  obtain ⟨R, hR⟩ : ∃ R, R = R6.value s lim d x p := ⟨_, rfl⟩
  rw [← hR]
  have hmay := J6.may_of hc.may
  have hlen := hc.len
  obtain ⟨hkk, hps, hpb⟩ := R6.want_ok hw
  have hix := idx6 s p hps
  have hci := want6 b p s lim x vo hc (by omega) w h
  rw [hw] at hci
  obtain ⟨oa, oc, hov, _⟩ := h.out.len
  rw [← hkk.1] at hov
  subst hov
  have hst := v_lim (d := d) hw (by rw [hcc]; decide) (.inl hl)
  have hge : decide (lim.i ≤ (y.out.length : Int)) = true := decide_eq_true hl
  rw [← hR] at hst
  have HST := Px.hid hst
  simp only [hcc] at hix
  have HI := Px.hid hci
  have HH := Px.hid (Run6.refl h)
  clear hci h hw hcc hkk hps hpb hR hc hmay hlen hst hl
  go_enter Tryd.func35, Tryd.ntmps35
  go_wp2_with fail
  refine HI.out.mono ?_
  rintro e w1 ⟨rfl, h1, h2⟩
  have c0 := h1.c0
  obtain ⟨_, c1, c2, _⟩ := h1.rd.cells
  have c11 := h1.cell11
  have H1 := Px.hid (HH.out.it h1 h2)
  clear h1 h2
  go_wp2_with fail
  go_quiet (fail)
  go_wp2_with fail
  refine (fault6 b p 10 s lim y _ _ (H1.out.x.drewN nq)).mono ?_
  rintro e w2 ⟨rfl, h1, h2⟩
  have H2 := Px.hid ((H1.out.drewN nq).it h1 h2)
  clear h1 h2
  go_wp2
  go_ret2
  rw [HST.out]
  exact ⟨rfl, H2.out.did⟩

set_option maxRecDepth 100000 in
set_option maxHeartbeats 4000000 in
theorem full_arr (b p dp d : Nat) (s : Bytes) (lim : Lim) (x y : R6.St) (vo : Value) (hc : Ctx s lim) (hw : R6.want s lim x p = (true, y)) (hcc : R6.at_ s p = 91) (hl : lim.i ≤ (y.out.length : Int)) (w : World) (h : X6 w b s lim x vo) :
    Calls Tryd.prog 35 #[.pointer (some ⟨b, 0, none⟩), .int .i64 (p : Nat), .int .i64 (dp : Nat)] w fun r w' => r = .returned (tupV (R6.value s lim d x p).1) ∧ Did6 w b s lim vo (R6.value s lim d x p).2 w' := by
  obtain ⟨R, hR⟩ : ∃ R, R = R6.value s lim d x p := ⟨_, rfl⟩
  rw [← hR]
  have hmay := J6.may_of hc.may
  have hlen := hc.len
  obtain ⟨hkk, hps, hpb⟩ := R6.want_ok hw
  have hix := idx6 s p hps
  have hci := want6 b p s lim x vo hc (by omega) w h
  rw [hw] at hci
  obtain ⟨oa, oc, hov, _⟩ := h.out.len
  rw [← hkk.1] at hov
  subst hov
  have hst := v_lim (d := d) hw (by rw [hcc]; decide) (.inl hl)
  have hge : decide (lim.i ≤ (y.out.length : Int)) = true := decide_eq_true hl
  rw [← hR] at hst
  have HST := Px.hid hst
  simp only [hcc] at hix
  have HI := Px.hid hci
  have HH := Px.hid (Run6.refl h)
  clear hci h hw hcc hkk hps hpb hR hc hmay hlen hst hl
  go_enter Tryd.func35, Tryd.ntmps35
  go_wp2_with fail
  refine HI.out.mono ?_
  rintro e w1 ⟨rfl, h1, h2⟩
  have c0 := h1.c0
  obtain ⟨_, c1, c2, _⟩ := h1.rd.cells
  have c11 := h1.cell11
  have H1 := Px.hid (HH.out.it h1 h2)
  clear h1 h2
  go_wp2_with fail
  go_quiet (fail)
  go_wp2_with fail
  refine (fault6 b p 10 s lim y _ _ (H1.out.x.drewN nq)).mono ?_
  rintro e w2 ⟨rfl, h1, h2⟩
  have H2 := Px.hid ((H1.out.drewN nq).it h1 h2)
  clear h1 h2
  go_wp2
  go_ret2
  rw [HST.out]
  exact ⟨rfl, H2.out.did⟩

set_option maxRecDepth 100000 in
set_option maxHeartbeats 4000000 in
theorem full_str (b p dp d : Nat) (s : Bytes) (lim : Lim) (x y : R6.St) (vo : Value) (hc : Ctx s lim) (hw : R6.want s lim x p = (true, y)) (hcc : R6.at_ s p = 34) (hl : lim.i ≤ (y.out.length : Int)) (w : World) (h : X6 w b s lim x vo) :
    Calls Tryd.prog 35 #[.pointer (some ⟨b, 0, none⟩), .int .i64 (p : Nat), .int .i64 (dp : Nat)] w fun r w' => r = .returned (tupV (R6.value s lim d x p).1) ∧ Did6 w b s lim vo (R6.value s lim d x p).2 w' := by
  obtain ⟨R, hR⟩ : ∃ R, R = R6.value s lim d x p := ⟨_, rfl⟩
  rw [← hR]
  have hmay := J6.may_of hc.may
  have hlen := hc.len
  obtain ⟨hkk, hps, hpb⟩ := R6.want_ok hw
  have hix := idx6 s p hps
  have hci := want6 b p s lim x vo hc (by omega) w h
  rw [hw] at hci
  obtain ⟨oa, oc, hov, _⟩ := h.out.len
  rw [← hkk.1] at hov
  subst hov
  have hst := v_lim (d := d) hw (by rw [hcc]; decide) (.inl hl)
  have hge : decide (lim.i ≤ (y.out.length : Int)) = true := decide_eq_true hl
  rw [← hR] at hst
  have HST := Px.hid hst
  simp only [hcc] at hix
  have HI := Px.hid hci
  have HH := Px.hid (Run6.refl h)
  clear hci h hw hcc hkk hps hpb hR hc hmay hlen hst hl
  go_enter Tryd.func35, Tryd.ntmps35
  go_wp2_with fail
  refine HI.out.mono ?_
  rintro e w1 ⟨rfl, h1, h2⟩
  have c0 := h1.c0
  obtain ⟨_, c1, c2, _⟩ := h1.rd.cells
  have c11 := h1.cell11
  have H1 := Px.hid (HH.out.it h1 h2)
  clear h1 h2
  go_wp2_with fail
  go_quiet (fail)
  go_wp2_with fail
  refine (fault6 b p 10 s lim y _ _ (H1.out.x.drewN nq)).mono ?_
  rintro e w2 ⟨rfl, h1, h2⟩
  have H2 := Px.hid ((H1.out.drewN nq).it h1 h2)
  clear h1 h2
  go_wp2
  go_ret2
  rw [HST.out]
  exact ⟨rfl, H2.out.did⟩

set_option maxRecDepth 100000 in
set_option maxHeartbeats 4000000 in
theorem full_min (b p dp d : Nat) (s : Bytes) (lim : Lim) (x y : R6.St) (vo : Value) (hc : Ctx s lim) (hw : R6.want s lim x p = (true, y)) (hcc : R6.at_ s p = 45) (hl : lim.i ≤ (y.out.length : Int)) (w : World) (h : X6 w b s lim x vo) :
    Calls Tryd.prog 35 #[.pointer (some ⟨b, 0, none⟩), .int .i64 (p : Nat), .int .i64 (dp : Nat)] w fun r w' => r = .returned (tupV (R6.value s lim d x p).1) ∧ Did6 w b s lim vo (R6.value s lim d x p).2 w' := by
  obtain ⟨R, hR⟩ : ∃ R, R = R6.value s lim d x p := ⟨_, rfl⟩
  rw [← hR]
  have hmay := J6.may_of hc.may
  have hlen := hc.len
  obtain ⟨hkk, hps, hpb⟩ := R6.want_ok hw
  have hix := idx6 s p hps
  have hci := want6 b p s lim x vo hc (by omega) w h
  rw [hw] at hci
  obtain ⟨oa, oc, hov, _⟩ := h.out.len
  rw [← hkk.1] at hov
  subst hov
  have hst := v_lim (d := d) hw (by rw [hcc]; decide) (.inl hl)
  have hge : decide (lim.i ≤ (y.out.length : Int)) = true := decide_eq_true hl
  rw [← hR] at hst
  have HST := Px.hid hst
  simp only [hcc] at hix
  have HI := Px.hid hci
  have HH := Px.hid (Run6.refl h)
  clear hci h hw hcc hkk hps hpb hR hc hmay hlen hst hl
  go_enter Tryd.func35, Tryd.ntmps35
  go_wp2_with fail
  refine HI.out.mono ?_
  rintro e w1 ⟨rfl, h1, h2⟩
  have c0 := h1.c0
  obtain ⟨_, c1, c2, _⟩ := h1.rd.cells
  have c11 := h1.cell11
  have H1 := Px.hid (HH.out.it h1 h2)
  clear h1 h2
  go_wp2_with fail
  go_quiet (fail)
  go_wp2_with fail
  refine (fault6 b p 10 s lim y _ _ (H1.out.x.drewN nq)).mono ?_
  rintro e w2 ⟨rfl, h1, h2⟩
  have H2 := Px.hid ((H1.out.drewN nq).it h1 h2)
  clear h1 h2
  go_wp2
  go_ret2
  rw [HST.out]
  exact ⟨rfl, H2.out.did⟩

set_option maxRecDepth 100000 in
set_option maxHeartbeats 4000000 in
theorem full_true (b p dp d : Nat) (s : Bytes) (lim : Lim) (x y : R6.St) (vo : Value) (hc : Ctx s lim) (hw : R6.want s lim x p = (true, y)) (hcc : R6.at_ s p = 116) (hl : lim.i ≤ (y.out.length : Int)) (w : World) (h : X6 w b s lim x vo) :
    Calls Tryd.prog 35 #[.pointer (some ⟨b, 0, none⟩), .int .i64 (p : Nat), .int .i64 (dp : Nat)] w fun r w' => r = .returned (tupV (R6.value s lim d x p).1) ∧ Did6 w b s lim vo (R6.value s lim d x p).2 w' := by
  obtain ⟨R, hR⟩ : ∃ R, R = R6.value s lim d x p := ⟨_, rfl⟩
  rw [← hR]
  have hmay := J6.may_of hc.may
  have hlen := hc.len
  obtain ⟨hkk, hps, hpb⟩ := R6.want_ok hw
  have hix := idx6 s p hps
  have hci := want6 b p s lim x vo hc (by omega) w h
  rw [hw] at hci
  obtain ⟨oa, oc, hov, _⟩ := h.out.len
  rw [← hkk.1] at hov
  subst hov
  have hst := v_lim (d := d) hw (by rw [hcc]; decide) (.inl hl)
  have hge : decide (lim.i ≤ (y.out.length : Int)) = true := decide_eq_true hl
  rw [← hR] at hst
  have HST := Px.hid hst
  simp only [hcc] at hix
  have HI := Px.hid hci
  have HH := Px.hid (Run6.refl h)
  clear hci h hw hcc hkk hps hpb hR hc hmay hlen hst hl
  go_enter Tryd.func35, Tryd.ntmps35
  go_wp2_with fail
  refine HI.out.mono ?_
  rintro e w1 ⟨rfl, h1, h2⟩
  have c0 := h1.c0
  obtain ⟨_, c1, c2, _⟩ := h1.rd.cells
  have c11 := h1.cell11
  have H1 := Px.hid (HH.out.it h1 h2)
  clear h1 h2
  go_wp2_with fail
  go_quiet (fail)
  go_wp2_with fail
  refine (fault6 b p 10 s lim y _ _ (H1.out.x.drewN nq)).mono ?_
  rintro e w2 ⟨rfl, h1, h2⟩
  have H2 := Px.hid ((H1.out.drewN nq).it h1 h2)
  clear h1 h2
  go_wp2
  go_ret2
  rw [HST.out]
  exact ⟨rfl, H2.out.did⟩

set_option maxRecDepth 100000 in
set_option maxHeartbeats 4000000 in
theorem full_false (b p dp d : Nat) (s : Bytes) (lim : Lim) (x y : R6.St) (vo : Value) (hc : Ctx s lim) (hw : R6.want s lim x p = (true, y)) (hcc : R6.at_ s p = 102) (hl : lim.i ≤ (y.out.length : Int)) (w : World) (h : X6 w b s lim x vo) :
    Calls Tryd.prog 35 #[.pointer (some ⟨b, 0, none⟩), .int .i64 (p : Nat), .int .i64 (dp : Nat)] w fun r w' => r = .returned (tupV (R6.value s lim d x p).1) ∧ Did6 w b s lim vo (R6.value s lim d x p).2 w' := by
  obtain ⟨R, hR⟩ : ∃ R, R = R6.value s lim d x p := ⟨_, rfl⟩
  rw [← hR]
  have hmay := J6.may_of hc.may
  have hlen := hc.len
  obtain ⟨hkk, hps, hpb⟩ := R6.want_ok hw
  have hix := idx6 s p hps
  have hci := want6 b p s lim x vo hc (by omega) w h
  rw [hw] at hci
  obtain ⟨oa, oc, hov, _⟩ := h.out.len
  rw [← hkk.1] at hov
  subst hov
  have hst := v_lim (d := d) hw (by rw [hcc]; decide) (.inl hl)
  have hge : decide (lim.i ≤ (y.out.length : Int)) = true := decide_eq_true hl
  rw [← hR] at hst
  have HST := Px.hid hst
  simp only [hcc] at hix
  have HI := Px.hid hci
  have HH := Px.hid (Run6.refl h)
  clear hci h hw hcc hkk hps hpb hR hc hmay hlen hst hl
  go_enter Tryd.func35, Tryd.ntmps35
  go_wp2_with fail
  refine HI.out.mono ?_
  rintro e w1 ⟨rfl, h1, h2⟩
  have c0 := h1.c0
  obtain ⟨_, c1, c2, _⟩ := h1.rd.cells
  have c11 := h1.cell11
  have H1 := Px.hid (HH.out.it h1 h2)
  clear h1 h2
  go_wp2_with fail
  go_quiet (fail)
  go_wp2_with fail
  refine (fault6 b p 10 s lim y _ _ (H1.out.x.drewN nq)).mono ?_
  rintro e w2 ⟨rfl, h1, h2⟩
  have H2 := Px.hid ((H1.out.drewN nq).it h1 h2)
  clear h1 h2
  go_wp2
  go_ret2
  rw [HST.out]
  exact ⟨rfl, H2.out.did⟩

set_option maxRecDepth 100000 in
set_option maxHeartbeats 4000000 in
theorem full_null (b p dp d : Nat) (s : Bytes) (lim : Lim) (x y : R6.St) (vo : Value) (hc : Ctx s lim) (hw : R6.want s lim x p = (true, y)) (hcc : R6.at_ s p = 110) (hl : lim.i ≤ (y.out.length : Int)) (w : World) (h : X6 w b s lim x vo) :
    Calls Tryd.prog 35 #[.pointer (some ⟨b, 0, none⟩), .int .i64 (p : Nat), .int .i64 (dp : Nat)] w fun r w' => r = .returned (tupV (R6.value s lim d x p).1) ∧ Did6 w b s lim vo (R6.value s lim d x p).2 w' := by
  obtain ⟨R, hR⟩ : ∃ R, R = R6.value s lim d x p := ⟨_, rfl⟩
  rw [← hR]
  have hmay := J6.may_of hc.may
  have hlen := hc.len
  obtain ⟨hkk, hps, hpb⟩ := R6.want_ok hw
  have hix := idx6 s p hps
  have hci := want6 b p s lim x vo hc (by omega) w h
  rw [hw] at hci
  obtain ⟨oa, oc, hov, _⟩ := h.out.len
  rw [← hkk.1] at hov
  subst hov
  have hst := v_lim (d := d) hw (by rw [hcc]; decide) (.inl hl)
  have hge : decide (lim.i ≤ (y.out.length : Int)) = true := decide_eq_true hl
  rw [← hR] at hst
  have HST := Px.hid hst
  simp only [hcc] at hix
  have HI := Px.hid hci
  have HH := Px.hid (Run6.refl h)
  clear hci h hw hcc hkk hps hpb hR hc hmay hlen hst hl
  go_enter Tryd.func35, Tryd.ntmps35
  go_wp2_with fail
  refine HI.out.mono ?_
  rintro e w1 ⟨rfl, h1, h2⟩
  have c0 := h1.c0
  obtain ⟨_, c1, c2, _⟩ := h1.rd.cells
  have c11 := h1.cell11
  have H1 := Px.hid (HH.out.it h1 h2)
  clear h1 h2
  go_wp2_with fail
  go_quiet (fail)
  go_wp2_with fail
  refine (fault6 b p 10 s lim y _ _ (H1.out.x.drewN nq)).mono ?_
  rintro e w2 ⟨rfl, h1, h2⟩
  have H2 := Px.hid ((H1.out.drewN nq).it h1 h2)
  clear h1 h2
  go_wp2
  go_ret2
  rw [HST.out]
  exact ⟨rfl, H2.out.did⟩

set_option maxRecDepth 100000 in
set_option maxHeartbeats 4000000 in
theorem full_dig (b p dp d c : Nat) (s : Bytes) (lim : Lim) (x y : R6.St) (vo : Value) (hc : Ctx s lim) (hw : R6.want s lim x p = (true, y)) (hcc : R6.at_ s p = c) (hl : lim.i ≤ (y.out.length : Int)) (hdc : R6.digit c = true) (w : World) (h : X6 w b s lim x vo) :
    Calls Tryd.prog 35 #[.pointer (some ⟨b, 0, none⟩), .int .i64 (p : Nat), .int .i64 (dp : Nat)] w fun r w' => r = .returned (tupV (R6.value s lim d x p).1) ∧ Did6 w b s lim vo (R6.value s lim d x p).2 w' := by
  obtain ⟨R, hR⟩ : ∃ R, R = R6.value s lim d x p := ⟨_, rfl⟩
  rw [← hR]
  have hmay := J6.may_of hc.may
  have hlen := hc.len
  obtain ⟨hkk, hps, hpb⟩ := R6.want_ok hw
  have hix := idx6 s p hps
  have hci := want6 b p s lim x vo hc (by omega) w h
  rw [hw] at hci
  obtain ⟨oa, oc, hov, _⟩ := h.out.len
  rw [← hkk.1] at hov
  subst hov
  have hst := v_lim (d := d) hw (by rw [hcc]; unfold R6.firsts; rw [hdc]; simp) (.inl hl)
  have hge : decide (lim.i ≤ (y.out.length : Int)) = true := decide_eq_true hl
  rw [← hR] at hst
  have HST := Px.hid hst
  simp only [hcc] at hix
  have hdb : 48 ≤ c ∧ c ≤ 57 := by unfold R6.digit at hdc; simpa using hdc
  have HD := Px.hid (fun w => digit6 c w)
  simp only [hdc] at HD
  have ne123 : ((c : Int) != 123) = true := by simp; omega
  have eq123 : ((c : Int) == 123) = false := by simp; omega
  have ne91 : ((c : Int) != 91) = true := by simp; omega
  have eq91 : ((c : Int) == 91) = false := by simp; omega
  have ne34 : ((c : Int) != 34) = true := by simp; omega
  have ne45 : ((c : Int) != 45) = true := by simp; omega
  have ne116 : ((c : Int) != 116) = true := by simp; omega
  have ne102 : ((c : Int) != 102) = true := by simp; omega
  have ne110 : ((c : Int) != 110) = true := by simp; omega
  have HI := Px.hid hci
  have HH := Px.hid (Run6.refl h)
  clear hci h hw hcc hkk hps hpb hR hc hmay hlen hst hl hdc hdb
  go_enter Tryd.func35, Tryd.ntmps35
  go_wp2_with fail
  refine HI.out.mono ?_
  rintro e w1 ⟨rfl, h1, h2⟩
  have c0 := h1.c0
  obtain ⟨_, c1, c2, _⟩ := h1.rd.cells
  have c11 := h1.cell11
  have H1 := Px.hid (HH.out.it h1 h2)
  clear h1 h2
  go_wp2_with fail
  refine (HD.out _).mono ?_
  rintro e w1b ⟨rfl, rfl⟩
  go_wp2_with fail
  go_quiet (fail)
  go_wp2_with fail
  refine (fault6 b p 10 s lim y _ _ (H1.out.x.drewN nq)).mono ?_
  rintro e w2 ⟨rfl, h1, h2⟩
  have H2 := Px.hid ((H1.out.drewN nq).it h1 h2)
  clear h1 h2
  go_wp2
  go_ret2
  rw [HST.out]
  exact ⟨rfl, H2.out.did⟩

set_option maxRecDepth 100000 in
set_option maxHeartbeats 4000000 in
theorem deep_obj (b p dp d : Nat) (s : Bytes) (lim : Lim) (x y : R6.St) (vo : Value) (hc : Ctx s lim) (hw : R6.want s lim x p = (true, y)) (hcc : R6.at_ s p = 123) (hl : ¬ lim.i ≤ (y.out.length : Int)) (hdd : d = 0) (hdl : ((dp + d : Nat) : Int) = lim.d) (w : World) (h : X6 w b s lim x vo) :
    Calls Tryd.prog 35 #[.pointer (some ⟨b, 0, none⟩), .int .i64 (p : Nat), .int .i64 (dp : Nat)] w fun r w' => r = .returned (tupV (R6.value s lim d x p).1) ∧ Did6 w b s lim vo (R6.value s lim d x p).2 w' := by
  obtain ⟨R, hR⟩ : ∃ R, R = R6.value s lim d x p := ⟨_, rfl⟩
  rw [← hR]
  have hmay := J6.may_of hc.may
  have hlen := hc.len
  obtain ⟨hkk, hps, hpb⟩ := R6.want_ok hw
  have hix := idx6 s p hps
  have hci := want6 b p s lim x vo hc (by omega) w h
  rw [hw] at hci
  obtain ⟨oa, oc, hov, _⟩ := h.out.len
  rw [← hkk.1] at hov
  subst hov
  have hst := v_lim (d := d) hw (by rw [hcc]; decide) (.inr ⟨hdd, by rw [hcc]; simp⟩)
  have hge : decide (lim.i ≤ (y.out.length : Int)) = false := decide_eq_false hl
  have hgd : decide (lim.d ≤ (dp : Int)) = true := by simp; omega
  rw [← hR] at hst
  have HST := Px.hid hst
  simp only [hcc] at hix
  have HI := Px.hid hci
  have HH := Px.hid (Run6.refl h)
  clear hci h hw hcc hkk hps hpb hR hc hmay hlen hst hl hdl hdd
  go_enter Tryd.func35, Tryd.ntmps35
  go_wp2_with fail
  refine HI.out.mono ?_
  rintro e w1 ⟨rfl, h1, h2⟩
  have c0 := h1.c0
  obtain ⟨_, c1, c2, _⟩ := h1.rd.cells
  have c11 := h1.cell11
  have H1 := Px.hid (HH.out.it h1 h2)
  clear h1 h2
  go_wp2_with fail
  go_quiet (fail)
  go_wp2_with fail
  refine (fault6 b p 10 s lim y _ _ (H1.out.x.drewN nq)).mono ?_
  rintro e w2 ⟨rfl, h1, h2⟩
  have H2 := Px.hid ((H1.out.drewN nq).it h1 h2)
  clear h1 h2
  go_wp2
  go_ret2
  rw [HST.out]
  exact ⟨rfl, H2.out.did⟩

set_option maxRecDepth 100000 in
set_option maxHeartbeats 4000000 in
theorem deep_arr (b p dp d : Nat) (s : Bytes) (lim : Lim) (x y : R6.St) (vo : Value) (hc : Ctx s lim) (hw : R6.want s lim x p = (true, y)) (hcc : R6.at_ s p = 91) (hl : ¬ lim.i ≤ (y.out.length : Int)) (hdd : d = 0) (hdl : ((dp + d : Nat) : Int) = lim.d) (w : World) (h : X6 w b s lim x vo) :
    Calls Tryd.prog 35 #[.pointer (some ⟨b, 0, none⟩), .int .i64 (p : Nat), .int .i64 (dp : Nat)] w fun r w' => r = .returned (tupV (R6.value s lim d x p).1) ∧ Did6 w b s lim vo (R6.value s lim d x p).2 w' := by
  obtain ⟨R, hR⟩ : ∃ R, R = R6.value s lim d x p := ⟨_, rfl⟩
  rw [← hR]
  have hmay := J6.may_of hc.may
  have hlen := hc.len
  obtain ⟨hkk, hps, hpb⟩ := R6.want_ok hw
  have hix := idx6 s p hps
  have hci := want6 b p s lim x vo hc (by omega) w h
  rw [hw] at hci
  obtain ⟨oa, oc, hov, _⟩ := h.out.len
  rw [← hkk.1] at hov
  subst hov
  have hst := v_lim (d := d) hw (by rw [hcc]; decide) (.inr ⟨hdd, by rw [hcc]; simp⟩)
  have hge : decide (lim.i ≤ (y.out.length : Int)) = false := decide_eq_false hl
  have hgd : decide (lim.d ≤ (dp : Int)) = true := by simp; omega
  rw [← hR] at hst
  have HST := Px.hid hst
  simp only [hcc] at hix
  have HI := Px.hid hci
  have HH := Px.hid (Run6.refl h)
  clear hci h hw hcc hkk hps hpb hR hc hmay hlen hst hl hdl hdd
  go_enter Tryd.func35, Tryd.ntmps35
  go_wp2_with fail
  refine HI.out.mono ?_
  rintro e w1 ⟨rfl, h1, h2⟩
  have c0 := h1.c0
  obtain ⟨_, c1, c2, _⟩ := h1.rd.cells
  have c11 := h1.cell11
  have H1 := Px.hid (HH.out.it h1 h2)
  clear h1 h2
  go_wp2_with fail
  go_quiet (fail)
  go_wp2_with fail
  refine (fault6 b p 10 s lim y _ _ (H1.out.x.drewN nq)).mono ?_
  rintro e w2 ⟨rfl, h1, h2⟩
  have H2 := Px.hid ((H1.out.drewN nq).it h1 h2)
  clear h1 h2
  go_wp2
  go_ret2
  rw [HST.out]
  exact ⟨rfl, H2.out.did⟩

set_option maxRecDepth 100000 in
set_option maxHeartbeats 4000000 in
theorem val_bad (b p dp d c : Nat) (s : Bytes) (lim : Lim) (x y : R6.St) (vo : Value) (hc : Ctx s lim) (hw : R6.want s lim x p = (true, y)) (hcc : R6.at_ s p = c) (hfs : R6.firsts c = false) (w : World) (h : X6 w b s lim x vo) :
    Calls Tryd.prog 35 #[.pointer (some ⟨b, 0, none⟩), .int .i64 (p : Nat), .int .i64 (dp : Nat)] w fun r w' => r = .returned (tupV (R6.value s lim d x p).1) ∧ Did6 w b s lim vo (R6.value s lim d x p).2 w' := by
  obtain ⟨R, hR⟩ : ∃ R, R = R6.value s lim d x p := ⟨_, rfl⟩
  rw [← hR]
  have hmay := J6.may_of hc.may
  have hlen := hc.len
  obtain ⟨hkk, hps, hpb⟩ := R6.want_ok hw
  have hix := idx6 s p hps
  have hci := want6 b p s lim x vo hc (by omega) w h
  rw [hw] at hci
  obtain ⟨oa, oc, hov, _⟩ := h.out.len
  rw [← hkk.1] at hov
  subst hov
  have hst := v_first (d := d) hw (by rw [hcc]; exact hfs)
  rw [← hR] at hst
  have HST := Px.hid hst
  simp only [hcc] at hix
  unfold R6.firsts at hfs
  simp only [Bool.or_eq_false_iff, beq_eq_false_iff_ne] at hfs
  obtain ⟨⟨⟨⟨⟨⟨⟨n1, n2⟩, n3⟩, n4⟩, n5⟩, n6⟩, n7⟩, hdc⟩ := hfs
  have HD := Px.hid (fun w => digit6 c w)
  simp only [hdc] at HD
  have ne123 : ((c : Int) != 123) = true := by simp; omega
  have ne91 : ((c : Int) != 91) = true := by simp; omega
  have ne34 : ((c : Int) != 34) = true := by simp; omega
  have ne45 : ((c : Int) != 45) = true := by simp; omega
  have ne116 : ((c : Int) != 116) = true := by simp; omega
  have ne102 : ((c : Int) != 102) = true := by simp; omega
  have ne110 : ((c : Int) != 110) = true := by simp; omega
  have HI := Px.hid hci
  have HH := Px.hid (Run6.refl h)
  clear hci h hw hcc hkk hps hpb hR hc hmay hlen hst hdc n1 n2 n3 n4 n5 n6 n7
  go_enter Tryd.func35, Tryd.ntmps35
  go_wp2_with fail
  refine HI.out.mono ?_
  rintro e w1 ⟨rfl, h1, h2⟩
  have c0 := h1.c0
  obtain ⟨_, c1, c2, _⟩ := h1.rd.cells
  have c11 := h1.cell11
  have H1 := Px.hid (HH.out.it h1 h2)
  clear h1 h2
  go_wp2_with fail
  refine (HD.out _).mono ?_
  rintro e w1b ⟨rfl, rfl⟩
  go_wp2_with fail
  refine (fault6 b p 9 s lim y _ _ H1.out.x).mono ?_
  rintro e w2 ⟨rfl, h1, h2⟩
  have H2 := Px.hid (H1.out.it h1 h2)
  clear h1 h2
  go_wp2
  go_ret2
  rw [HST.out]
  exact ⟨rfl, H2.out.did⟩

set_option maxRecDepth 100000 in
theorem val_no (b p dp d : Nat) (s : Bytes) (lim : Lim) (x y : R6.St) (vo : Value) (hc : Ctx s lim) (hp : p ≤ s.length) (hw : R6.want s lim x p = (false, y)) (w : World) (h : X6 w b s lim x vo) :
    Calls Tryd.prog 35 #[.pointer (some ⟨b, 0, none⟩), .int .i64 (p : Nat), .int .i64 (dp : Nat)] w fun r w' => r = .returned (tupV (R6.value s lim d x p).1) ∧ Did6 w b s lim vo (R6.value s lim d x p).2 w' := by
  have hlen := hc.len
  have hci := want6 b p s lim x vo hc (by omega) w h
  rw [hw] at hci
  rw [v_no (d := d) hw]
  have HI := Px.hid hci
  have HH := Px.hid (Run6.refl h)
  clear hci h hw hc hlen hp
  go_enter Tryd.func35, Tryd.ntmps35
  go_wp2_with fail
  refine HI.out.mono ?_
  rintro e w1 ⟨rfl, h1, h2⟩
  have H1 := Px.hid (HH.out.it h1 h2)
  clear h1 h2
  go_wp2
  go_ret2
  exact ⟨rfl, H1.out.did⟩
end Go.Proofs.YtahojodgmjmpnaaDoor

/-! The walk over the reference's value, layer 16, at every level. -/
namespace Go.Proofs.YtahojodgmjmpnaaDoor
open Go.RowKit Go.Px

theorem rvalue_any (s : Bytes) (lim : Lim) (hc : Ctx s lim) : ∀ d, ValueC s lim d := by
  have main : ∀ d, (∀ e, d = e + 1 → ObjectC s lim e ∧ ArrayC s lim e) → ValueC s lim d := by
    intro d hd b p dp x vo w h hp hfr hdl
    obtain ⟨⟨q, y⟩, hw⟩ : ∃ r, R6.want s lim x p = r := ⟨_, rfl⟩
    cases q with
    | false => exact val_no b p dp d s lim x y vo hc hp hw w h
    | true =>
      obtain ⟨c, hcc⟩ : ∃ c, R6.at_ s p = c := ⟨_, rfl⟩
      cases hf : R6.firsts c with
      | false => exact val_bad b p dp d c s lim x y vo hc hw hcc hf w h
      | true =>
        have hcs : c = 123 ∨ c = 91 ∨ c = 34 ∨ c = 45 ∨ c = 116 ∨ c = 102 ∨ c = 110 ∨ R6.digit c = true := by
          unfold R6.firsts at hf
          simp only [Bool.or_eq_true, beq_iff_eq] at hf
          rcases hf with ((((((w | w) | w) | w) | w) | w) | w) | w
          · exact .inl w
          · exact .inr (.inl w)
          · exact .inr (.inr (.inl w))
          · exact .inr (.inr (.inr (.inl w)))
          · exact .inr (.inr (.inr (.inr (.inl w))))
          · exact .inr (.inr (.inr (.inr (.inr (.inl w)))))
          · exact .inr (.inr (.inr (.inr (.inr (.inr (.inl w))))))
          · exact .inr (.inr (.inr (.inr (.inr (.inr (.inr w))))))
        by_cases hl : lim.i ≤ (y.out.length : Int)
        · rcases hcs with rfl | rfl | rfl | rfl | rfl | rfl | rfl | hdc
          · exact full_obj b p dp d s lim x y vo hc hw hcc hl w h
          · exact full_arr b p dp d s lim x y vo hc hw hcc hl w h
          · exact full_str b p dp d s lim x y vo hc hw hcc hl w h
          · exact full_min b p dp d s lim x y vo hc hw hcc hl w h
          · exact full_true b p dp d s lim x y vo hc hw hcc hl w h
          · exact full_false b p dp d s lim x y vo hc hw hcc hl w h
          · exact full_null b p dp d s lim x y vo hc hw hcc hl w h
          · exact full_dig b p dp d c s lim x y vo hc hw hcc hl hdc w h
        · rcases hcs with rfl | rfl | rfl | rfl | rfl | rfl | rfl | hdc
          · cases d with
            | zero => exact deep_obj b p dp 0 s lim x y vo hc hw hcc hl rfl hdl w h
            | succ d => exact val_obj b p dp d s lim x y vo hc hw hcc hl hfr hdl (hd d rfl).1 w h
          · cases d with
            | zero => exact deep_arr b p dp 0 s lim x y vo hc hw hcc hl rfl hdl w h
            | succ d => exact val_arr b p dp d s lim x y vo hc hw hcc hl hfr hdl (hd d rfl).2 w h
          · exact val_str b p dp d s lim x y vo hc hw hcc hl hfr hdl w h
          · exact val_min b p dp d s lim x y vo hc hw hcc hl hfr hdl w h
          · exact val_true b p dp d s lim x y vo hc hw hcc hl hfr hdl w h
          · exact val_false b p dp d s lim x y vo hc hw hcc hl hfr hdl w h
          · exact val_null b p dp d s lim x y vo hc hw hcc hl hfr hdl w h
          · exact val_dig b p dp d c s lim x y vo hc hw hcc hl hfr hdl hdc w h
  intro d
  induction d with
  | zero => exact main 0 (fun e he => by omega)
  | succ d ih =>
    refine main (d + 1) (fun e he => ?_)
    obtain rfl : e = d := by omega
    exact ⟨robject_any s lim hc e ih, array_any s lim hc e ih⟩
end Go.Proofs.YtahojodgmjmpnaaDoor

/-! The walk over the reference's Read, layer 16. -/
namespace Go.Proofs.YtahojodgmjmpnaaDoor
open Go.RowKit Go.Px

/-- A reader of layer 15, as a value. -/
def rdV (s : Bytes) (lim : Lim) (x : R5.St) : Value :=
  .agg #[S s, .int .i64 lim.d, .int .i64 lim.i, .int .i64 lim.b, .int .i64 lim.r, .slice none 0 0, .int .i64 x.err, .int .i64 x.place, .int .i64 (x.taken : Nat), .int .i64 (x.frames : Nat), .bool x.ended]
theorem rd_cells2 {w : World} {b T : Nat} {s : Bytes} {lim : Lim} {x : R5.St} {vn : Value} {tl : List Value} (h : Rd w b T s lim x vn tl) :
    w.cell? ⟨b, 4, none⟩ = some (.int .i64 lim.r) ∧ w.cell? ⟨b, 5, none⟩ = some vn := ⟨cellOf h.blk 4 (by simp [rdCells]), cellOf h.blk 5 (by simp [rdCells])⟩
def zero55 : Array Value := #[.string ByteArray.empty, .int .i64 0, .int .i64 0, .int .i64 0, .int .i64 0, .slice none 0 0, .int .i64 0, .int .i64 0, .int .i64 0, .int .i64 0, .bool false]
/-- While it is read: the reader and the block of the result are the call's own. -/
def RFin (w w4 : World) (s : Bytes) (lim : Lim) (y : R6.St) : Prop := ∃ vo, X6 w4 (w.heap.size + 1 + 1) s lim y vo ∧ Same w w4 ∧ w4.heap[w.heap.size + 1]? = some (.cells zero55 54 (0, 0)) ∧ (∀ k, foot6 (w.heap.size + 1 + 1) vo k → w.heap.size + 2 ≤ k)
theorem RFin.run {w w4 w5 : World} {s : Bytes} {lim : Lim} {z : R6.St} {vo vo' : Value} (h2 : Same w w4) (h3 : w4.heap[w.heap.size + 1]? = some (.cells zero55 54 (0, 0))) (h4 : ∀ k, foot6 (w.heap.size + 1 + 1) vo k → w.heap.size + 2 ≤ k)
    (hd : Run6 w4 (w.heap.size + 1 + 1) s lim vo z w5 vo') : RFin w w5 s lim z := by
  have hlt := ltOf h3
  refine ⟨vo', hd.x, ?_, ?_, ?_⟩
  · exact Fr.toSame ((h2.fr _).trans hd.fr (fun _ _ x => x)) (fun k hk => by have := h4 k hk; omega)
  · exact (hd.fr.block _ hlt (fun e => by have := h4 _ e; omega)).trans h3
  · intro k hk
    rcases hd.fresh k hk with e | e
    · exact h4 k e
    · omega
theorem RFin.it {w w4 w5 : World} {s : Bytes} {lim : Lim} {y z : R6.St} {vo : Value} (hx : X6 w4 (w.heap.size + 1 + 1) s lim y vo) (h2 : Same w w4) (h3 : w4.heap[w.heap.size + 1]? = some (.cells zero55 54 (0, 0))) (h4 : ∀ k, foot6 (w.heap.size + 1 + 1) vo k → w.heap.size + 2 ≤ k)
    (k1 : X6 w5 (w.heap.size + 1 + 1) s lim z vo) (k2 : Fr (It (w.heap.size + 1 + 1)) w4 w5) : RFin w w5 s lim z := RFin.run h2 h3 h4 ((Run6.refl hx).it k1 k2)
theorem RFin.begin (w : World) (s : Bytes) (lim : Lim) : RFin w (((w.alloc (.cells #[.int .i64 lim.d, .int .i64 lim.i, .int .i64 lim.b, .int .i64 lim.r] 23 (0, 0))).alloc (.cells zero55 54 (0, 0))).alloc (.cells #[S s, .int .i64 lim.d, .int .i64 lim.i, .int .i64 lim.b, .int .i64 lim.r, .slice none 0 0, .int .i64 0, .int .i64 0, .int .i64 0, .int .i64 0, .bool false, .slice none 0 0] 82 (0, 0))) s lim R6.start := by
  have hcs : rdCells s lim R6.start.r (.slice none 0 0) [.slice none 0 0] = #[S s, .int .i64 lim.d, .int .i64 lim.i, .int .i64 lim.b, .int .i64 lim.r, .slice none 0 0, .int .i64 0, .int .i64 0, .int .i64 0, .int .i64 0, .bool false, .slice none 0 0] := rfl
  refine ⟨.slice none 0 0, ⟨⟨?_⟩, owns_nil _ _ _ _, fun k hk => by simp [Value.ownBlock] at hk⟩, (((Fr.refl _ w).alloc _).alloc _).alloc _, ?_, ?_⟩
  · rw [hcs]
    have := heap_alloc_new ((w.alloc (.cells #[.int .i64 lim.d, .int .i64 lim.i, .int .i64 lim.b, .int .i64 lim.r] 23 (0, 0))).alloc (.cells zero55 54 (0, 0))) (.cells #[S s, .int .i64 lim.d, .int .i64 lim.i, .int .i64 lim.b, .int .i64 lim.r, .slice none 0 0, .int .i64 0, .int .i64 0, .int .i64 0, .int .i64 0, .bool false, .slice none 0 0] 82 (0, 0))
    simpa using this
  · rw [Below.heap_alloc _ _ _ (by simp)]
    have := heap_alloc_new (w.alloc (.cells #[.int .i64 lim.d, .int .i64 lim.i, .int .i64 lim.b, .int .i64 lim.r] 23 (0, 0))) (.cells zero55 54 (0, 0))
    simpa using this
  · rintro k (rfl | hk)
    · omega
    · simp [Value.ownBlock] at hk
theorem chain11 (w : World) (b : Nat) (v0 v1 v2 v3 v4 v5 v6 v7 v8 v9 v10 : Value) : Fr (fun k => k = b) w (((((((((((w.setCell ⟨b, 0, none⟩ v0).setCell ⟨b, 1, none⟩ v1).setCell ⟨b, 2, none⟩ v2).setCell ⟨b, 3, none⟩ v3).setCell ⟨b, 4, none⟩ v4).setCell ⟨b, 5, none⟩ v5).setCell ⟨b, 6, none⟩ v6).setCell ⟨b, 7, none⟩ v7).setCell ⟨b, 8, none⟩ v8).setCell ⟨b, 9, none⟩ v9).setCell ⟨b, 10, none⟩ v10).drew := ((((((((((((Fr.refl (fun k => k = b) w).setCell (p := ⟨b, 0, none⟩) (.inl rfl) v0).setCell (p := ⟨b, 1, none⟩) (.inl rfl) v1).setCell (p := ⟨b, 2, none⟩) (.inl rfl) v2).setCell (p := ⟨b, 3, none⟩) (.inl rfl) v3).setCell (p := ⟨b, 4, none⟩) (.inl rfl) v4).setCell (p := ⟨b, 5, none⟩) (.inl rfl) v5).setCell (p := ⟨b, 6, none⟩) (.inl rfl) v6).setCell (p := ⟨b, 7, none⟩) (.inl rfl) v7).setCell (p := ⟨b, 8, none⟩) (.inl rfl) v8).setCell (p := ⟨b, 9, none⟩) (.inl rfl) v9).setCell (p := ⟨b, 10, none⟩) (.inl rfl) v10).drew
theorem rfin_same {w w4 w5 : World} (h : Same w w4) (hc : Fr (fun k => k = w.heap.size + 1) w4 w5) : Same w w5 :=
  Fr.toSame ((h.fr (fun k => k = w.heap.size + 1)).trans hc (fun _ _ x => x)) (fun k hk => by omega)
/-- How the reading ends. -/
def Ends (s : Bytes) (lim : Lim) (r : Bool × R6.St) : Prop := R6.read s lim = (if r.1 then r.2.out else [], r.2.r)
/-- Behind the value. -/
def Rest (s : Bytes) (lim : Lim) (RR : Bool × R6.St) (ok : Bool) (k : Nat) (y : R6.St) : Prop := if ok then ∃ m, s.length + 1 ≤ m + k ∧ R6.restN s lim m y k = RR else RR = (false, y)
theorem Rest.no {s : Bytes} {lim : Lim} {RR : Bool × R6.St} {k : Nat} {y : R6.St} (h : RR = (false, y)) : Rest s lim RR false k y := h
theorem Rest.end_ {s : Bytes} {lim : Lim} {RR : Bool × R6.St} {k : Nat} {y : R6.St} (h : Rest s lim RR true k y) (hk : ¬ k < s.length) : RR = (true, y) := by
  obtain ⟨m, _, h⟩ := h
  rw [← h]
  cases m with
  | zero => rfl
  | succ m => unfold R6.restN; rw [if_neg hk]
theorem Rest.on {s : Bytes} {lim : Lim} {RR : Bool × R6.St} {k : Nat} {y : R6.St} (h : Rest s lim RR true k y) (hk : k < s.length) : match R6.want s lim y k with
    | (false, z) => Rest s lim RR false (k + 1) z
    | (true, z) => if R6.blank (R6.at_ s k) then Rest s lim RR true (k + 1) z else Rest s lim RR false (k + 1) (R6.fault z k 9) := by
  obtain ⟨m, hm, h⟩ := h
  obtain ⟨m, rfl⟩ : ∃ n, m = n + 1 := ⟨m - 1, by omega⟩
  unfold R6.restN at h
  rw [if_pos hk] at h
  cases hw : R6.want s lim y k with
  | mk q z =>
    rw [hw] at h
    cases q with
    | false => exact h.symm
    | true =>
      simp only at h ⊢
      by_cases hb : R6.blank (R6.at_ s k) = true
      · rw [if_pos hb] at h ⊢
        exact ⟨m, by omega, h⟩
      · rw [if_neg hb] at h ⊢
        exact h.symm
theorem tup_parts (o : Option Nat) : ∃ (a : Nat) (k : Bool), tupV o = .tuple #[.int .i64 (a : Nat), .bool k] ∧ o = if k then some a else none := by
  cases o with
  | none => exact ⟨0, false, rfl, rfl⟩
  | some q => exact ⟨q, true, rfl, rfl⟩
def RdSt (w : World) (s : Bytes) (lim : Lim) (RR : Bool × R6.St) (a ok : Value) (wr : World) : Prop := ∃ (k : Nat) (okb : Bool) (y : R6.St), a = .int .i64 (k : Nat) ∧ ok = .bool okb ∧ k ≤ s.length ∧ Hid (RFin w wr s lim y) ∧ Hid (Rest s lim RR okb k y)
set_option maxRecDepth 100000 in
set_option maxHeartbeats 8000000 in
theorem read16_any (s : Bytes) (lim : Lim) (w : World) (hc : Ctx s lim) :
    Calls Tryd.prog 23 #[S s, limV lim] w fun r w' => ∃ v, r = .returned (.tuple #[v, rdV s lim (R6.read s lim).2]) ∧ Owns w' 58 3 cVal v (R6.read s lim).1 ∧ Same w w' ∧ (∀ g, v.ownBlock = some g → w.heap.size ≤ g) := by
  have hmay := J6.may_of hc.may
  have hlen := hc.len
  have HM := Px.hid (And.intro hc hmay)
  have hsz : (ByteArray.mk s.toArray).size = s.length := size_S s
  have HF := Px.hid (RFin.begin w s lim)
  obtain ⟨RR, hRR⟩ : ∃ RR : Bool × R6.St, RR = (match R6.pass s lim R6.start 0 with
    | (none, y) => (false, y)
    | (some p, y) => match R6.value s lim lim.d.toNat y p with
      | (none, z) => (false, z)
      | (some q, z) => R6.restN s lim (s.length + 1 - q) z q) := ⟨_, rfl⟩
  have hE : Ends s lim RR := by
    rw [hRR]
    unfold Ends R6.read
    cases R6.pass s lim R6.start 0 with
    | mk o y =>
      cases o with
      | none => rfl
      | some p =>
        simp only
        cases R6.value s lim lim.d.toNat y p with
        | mk o z =>
          cases o with
          | none => rfl
          | some q =>
            simp only
            cases R6.restN s lim (s.length + 1 - q) z q with
            | mk o u => cases o <;> rfl
  have HE := Px.hid hE
  have HCP := Px.hid (fun (w : World) (b : Nat) (vo : Value) (h : X6 w b s lim R6.start vo) => pass6 b 0 s lim R6.start vo hc (Nat.zero_le _) w h)
  have hpo := fun y q => R6.pass_ok (s := s) (lim := lim) (x := R6.start) (p := 0) (q := q) (y := y)
  obtain ⟨⟨o, y⟩, hres⟩ : ∃ r, R6.pass s lim R6.start 0 = r := ⟨_, rfl⟩
  have hpo := hpo y
  rw [hres] at hRR hpo
  simp only [hres] at HCP
  have HO := Px.hid hpo
  have HRR := Px.hid hRR
  clear hE hRR hres hpo hc hmay
  unfold limV
  go_enter Tryd.func23, Tryd.ntmps23
  go_wp2_with fail
  obtain ⟨vo0, h1, h2, h3, h4⟩ := HF.out
  have H0 := Px.hid (And.intro h1 (And.intro h2 (And.intro h3 h4)))
  clear h1 h2 h3 h4 HF
  refine (HCP.out _ _ _ H0.out.1).mono ?_
  rintro e w1 ⟨rfl, h1, h2, _⟩
  have HR1 := Px.hid (RFin.it H0.out.1 H0.out.2.1 H0.out.2.2.1 H0.out.2.2.2 h1 h2)
  have HX1 := Px.hid h1
  clear h1 h2 H0 HCP
  obtain ⟨a0, okb, htv, ho⟩ := tup_parts o
  rw [htv]
  have HTV := Px.hid (And.intro htv ho)
  clear htv ho
  go_upto_if 19 with fail
  go_cut [7, 8] (fun a ok wx => RdSt w s lim RR a ok wx)
  case first =>
    cases okb with
    | false =>
      have ho : o = none := HTV.out.2
      subst ho
      go_wp2_with fail
      go_meet
      exact ⟨a0, false, y, rfl, rfl, by have := HTV.out.1; unfold tupV at this; simp at this; omega, HR1, Px.hid (Rest.no HRR.out)⟩
    | true =>
      have ho : o = some a0 := HTV.out.2
      subst ho
      obtain ⟨k1, k2, k3⟩ := HO.out a0 rfl
      have hyo : y.out = [] := k1.1
      have hyf : y.r.frames = 0 := k1.2
      have HCV := Px.hid (rvalue_any s lim HM.out.1 lim.d.toNat (w.heap.size + 1 + 1) a0 0 y vo0 w1 HX1.out (Nat.le_of_lt k3) hyf (by have := HM.out.2; omega))
      have hrr := HRR.out
      simp only at hrr
      have hvo := fun q z => R6.value_ok s lim lim.d.toNat y a0 q z
      obtain ⟨⟨o2, z⟩, hres⟩ : ∃ r, R6.value s lim lim.d.toNat y a0 = r := ⟨_, rfl⟩
      rw [hres] at hrr HCV
      have hvo := fun q => hvo q z
      have HRR2 := Px.hid hrr
      have HVO := Px.hid (fun q (h : o2 = some q) => hvo q (by rw [hres, h]))
      clear hrr hres hvo hyo hyf k1 k2 HRR HO HTV
      go_wp2_with fail
      refine HCV.out.mono ?_
      rintro e w2 ⟨rfl, hd⟩
      obtain ⟨vo2, hd⟩ := hd
      have HR2 := Px.hid (show RFin w w2 s lim z from by
        obtain ⟨vo, h1, h2, h3, h4⟩ := HR1.out
        have e : vo = vo0 := Option.some.inj (h1.cell11.symm.trans HX1.out.cell11)
        subst e
        exact RFin.run h2 h3 h4 hd)
      clear hd k3
      cases o2 with
      | none =>
        unfold tupV
        go_wp2_with fail
        go_meet
        exact ⟨0, false, z, rfl, rfl, Nat.zero_le _, HR2, Px.hid (Rest.no HRR2.out)⟩
      | some q =>
        unfold tupV
        go_wp2_with fail
        go_meet
        exact ⟨q, true, z, rfl, rfl, (HVO.out q rfl).ps, HR2, Px.hid ⟨s.length + 1 - q, by have := (HVO.out q rfl).ps; omega, HRR2.out.symm⟩⟩
  case rest =>
    have HC := Px.hid hcut
    clear hcut HR1 HX1 HTV HRR HO
    obtain ⟨wo, hwo⟩ : ∃ wo : World, wo = wc := ⟨_, rfl⟩
    subst hwo
    go_wp2
    go_loopw [7, 8] (fun a ok wr => RdSt w s lim RR a ok wr) (fun a _ _ => s.length + 1 - (intOf a).toNat)
    case atStart => exact HC.out
    case round =>
      clear HC
      obtain ⟨k, okb, y, rfl, rfl, hk, HR, HT⟩ := hrel
      cases okb with
      | false =>
        have HS := Px.hid (show R6.read s lim = ([], y.r) by have := HE.out; rw [show RR = (false, y) from HT.out] at this; exact this)
        clear HT HE
        obtain ⟨vo, h1, h2, h3, h4⟩ := HR.out
        obtain ⟨c0, c1, c2, c3, c6, c7, c8, c9, c10⟩ := h1.rd.cells
        obtain ⟨c4, c5⟩ := rd_cells2 h1.rd
        have c11 := h1.cell11
        have hz : ∀ i v, zero55[i]? = some v → wr.cell? ⟨w.heap.size + 1, i, none⟩ = some v := fun i v e => cellOf h3 i e
        have z0 := hz 0 _ rfl
        have z1 := hz 1 _ rfl
        have z2 := hz 2 _ rfl
        have z3 := hz 3 _ rfl
        have z4 := hz 4 _ rfl
        have z5 := hz 5 _ rfl
        have z6 := hz 6 _ rfl
        have z7 := hz 7 _ rfl
        have z8 := hz 8 _ rfl
        have z9 := hz 9 _ rfl
        have z10 := hz 10 _ rfl
        have zf : ∀ i, wr.frozen? ⟨w.heap.size + 1, i, none⟩ = false := freeOf h3
        have f0 := zf 0
        have f1 := zf 1
        have f2 := zf 2
        have f3 := zf 3
        have f4 := zf 4
        have f5 := zf 5
        have f6 := zf 6
        have f7 := zf 7
        have f8 := zf 8
        have f9 := zf 9
        have f10 := zf 10
        have HK := Px.hid (And.intro h1 (And.intro h2 (And.intro h3 h4)))
        clear h1 h2 h3 h4 hz zf HR
        go_wp2_with fail
        go_region
        all_goals
          go_wp2
          refine bodyPost_ret (v := .tuple #[.slice none 0 0, rdV s lim y.r]) (by simp [results, Tryd.results23, go_sem, rdV, z0, z1, z2, z3, z4, z5, z6, z7, z8, z9, z10]) rfl ?_
          rw [HS.out]
          refine ⟨_, rfl, owns_nil _ _ _ _, ?_, fun g hg => by simp [Value.ownBlock] at hg⟩
          exact rfin_same HK.out.2.1 (chain11 _ _ _ _ _ _ _ _ _ _ _ _ _)
      | true =>
        by_cases hlt : k < s.length
        · have hltz : (k : Int) < (s.length : Int) := by omega
          have hon := HT.out.on hlt
          have hk2 : k ≤ 140737488355327 := by omega
          have hwk := wrap1 k hk2
          have hix := idx6 s k hlt
          obtain ⟨vo, h1, h2, h3, h4⟩ := HR.out
          have HW := Px.hid (want6 (w.heap.size + 1 + 1) k s lim y vo HM.out.1 (by omega) wr h1)
          have HX := Px.hid (And.intro h1 (And.intro h2 (And.intro h3 h4)))
          obtain ⟨⟨q, z⟩, hres⟩ : ∃ r, R6.want s lim y k = r := ⟨_, rfl⟩
          rw [hres] at hon HW
          clear h1 h2 h3 h4 hres HT HR
          cases q with
          | false =>
            have HT2 := Px.hid (show Rest s lim RR false (k + 1) z from hon)
            have HLT := Px.hid hlt
            clear hon hix hlt
            go_wp2_with fail
            refine HW.out.mono ?_
            rintro e w3 ⟨rfl, h1, h2⟩
            have HR3 := Px.hid (RFin.it HX.out.1 HX.out.2.1 HX.out.2.2.1 HX.out.2.2.2 h1 h2)
            clear h1 h2
            go_wp2
            go_roundw
            case rel => exact ⟨k + 1, false, z, by go_num, rfl, HLT.out, HR3, HT2⟩
            case measure => have := HLT.out; simp [intOf]; omega
          | true =>
            obtain ⟨c, hcc⟩ : ∃ c, R6.at_ s k = c := ⟨_, rfl⟩
            simp only at hon
            rw [hcc] at hon
            simp only [hcc] at hix
            have HB := Px.hid (fun w => blank6 c w)
            obtain ⟨bb, hbb⟩ : ∃ bb, R6.blank c = bb := ⟨_, rfl⟩
            rw [hbb] at hon
            simp only [hbb] at HB
            have HON := Px.hid hon
            have HLT := Px.hid hlt
            clear hon hcc hbb hlt
            go_wp2_with fail
            refine HW.out.mono ?_
            rintro e w3 ⟨rfl, h1, h2⟩
            have HX3 := Px.hid h1
            have HR3 := Px.hid (RFin.it HX.out.1 HX.out.2.1 HX.out.2.2.1 HX.out.2.2.2 h1 h2)
            clear h1 h2
            go_wp2_with fail
            refine (HB.out _).mono ?_
            rintro e w3b ⟨rfl, rfl⟩
            cases bb with
            | true =>
              go_wp2
              go_roundw
              case rel => exact ⟨k + 1, true, z, by go_num, rfl, HLT.out, HR3, Px.hid (by simpa using HON.out)⟩
              case measure => have := HLT.out; simp [intOf]; omega
            | false =>
              go_wp2_with fail
              refine (fault6 (w.heap.size + 1 + 1) k 9 s lim z vo _ HX3.out).mono ?_
              rintro e w4 ⟨rfl, h1, h2⟩
              have HR4 := Px.hid (show RFin w w4 s lim (R6.fault z k 9) from by
                obtain ⟨vo1, k1, k2, k3, k4⟩ := HR3.out
                have e : vo1 = vo := Option.some.inj (k1.cell11.symm.trans HX3.out.cell11)
                subst e
                exact RFin.it k1 k2 k3 k4 h1 h2)
              clear h1 h2
              go_wp2
              go_roundw
              case rel => exact ⟨k + 1, false, R6.fault z k 9, by go_num, rfl, HLT.out, HR4, Px.hid (by simpa using HON.out)⟩
              case measure => have := HLT.out; simp [intOf]; omega
        · have hltz : ¬ (k : Int) < (s.length : Int) := by omega
          have HS := Px.hid (show R6.read s lim = (y.out, y.r) by have := HE.out; rw [HT.out.end_ hlt] at this; exact this)
          clear HT HE hlt
          obtain ⟨vo, h1, h2, h3, h4⟩ := HR.out
          obtain ⟨c0, c1, c2, c3, c6, c7, c8, c9, c10⟩ := h1.rd.cells
          obtain ⟨c4, c5⟩ := rd_cells2 h1.rd
          have c11 := h1.cell11
          have hz : ∀ i v, zero55[i]? = some v → wr.cell? ⟨w.heap.size + 1, i, none⟩ = some v := fun i v e => cellOf h3 i e
          have z0 := hz 0 _ rfl
          have z1 := hz 1 _ rfl
          have z2 := hz 2 _ rfl
          have z3 := hz 3 _ rfl
          have z4 := hz 4 _ rfl
          have z5 := hz 5 _ rfl
          have z6 := hz 6 _ rfl
          have z7 := hz 7 _ rfl
          have z8 := hz 8 _ rfl
          have z9 := hz 9 _ rfl
          have z10 := hz 10 _ rfl
          have zf : ∀ i, wr.frozen? ⟨w.heap.size + 1, i, none⟩ = false := freeOf h3
          have f0 := zf 0
          have f1 := zf 1
          have f2 := zf 2
          have f3 := zf 3
          have f4 := zf 4
          have f5 := zf 5
          have f6 := zf 6
          have f7 := zf 7
          have f8 := zf 8
          have f9 := zf 9
          have f10 := zf 10
          have HK := Px.hid (And.intro h1 (And.intro h2 (And.intro h3 h4)))
          clear h1 h2 h3 h4 hz zf HR
          go_wp2_with fail
          go_region
          all_goals
            go_wp2
            refine bodyPost_ret (v := .tuple #[vo, rdV s lim y.r]) (by simp [results, Tryd.results23, go_sem, rdV, z0, z1, z2, z3, z4, z5, z6, z7, z8, z9, z10]) rfl ?_
            rw [HS.out]
            have hch := chain11 wr (w.heap.size + 1) (S s) (.int .i64 lim.d) (.int .i64 lim.i) (.int .i64 lim.b) (.int .i64 lim.r) (.slice none 0 0) (.int .i64 y.r.err) (.int .i64 y.r.place) (.int .i64 (y.r.taken : Nat)) (.int .i64 (y.r.frames : Nat)) (.bool y.r.ended)
            refine ⟨vo, rfl, Owns.fr HK.out.1.out hch (fun k hk e => by have := HK.out.2.2.2 k (.inr hk); omega), rfin_same HK.out.2.1 hch, fun g hg => by have := HK.out.2.2.2 g (.inr hg); omega⟩
end Go.Proofs.YtahojodgmjmpnaaDoor
