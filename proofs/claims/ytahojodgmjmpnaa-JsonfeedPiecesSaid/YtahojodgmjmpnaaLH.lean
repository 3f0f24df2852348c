/-
  Several texts in one: What the reference's value of layer 16 does, case by case; the list behind the beginning of a value. The walk over the reference's value, layer 16: what opens. The walk over the reference's value, layer 16: words and strings. The walk over the reference's value, layer 16: limits and faults. The walk over the reference's value, layer 16: numbers.
-/
import Derived.Test.YtahojodgmjmpnaaLG
import Derived.Deep.DeepCutAuto
import Derived.Test.YtahojodgmjmpnaaZjJ
/-! What the reference's value of layer 16 does, case by case; the list behind the beginning of a value. -/
namespace Go.Proofs.Ytahojodgmjmpnaa
open Go.RowKit Go.Px

section
variable {s : Bytes} {lim : Lim} {x y : R6.St} {p d : Nat}
theorem v_no (h : R6.want s lim x p = (false, y)) : R6.value s lim d x p = (none, y) := by
  cases d <;> (unfold R6.value; rw [h])
theorem v_first (h : R6.want s lim x p = (true, y)) (hf : R6.firsts (R6.at_ s p) = false) : R6.value s lim d x p = (none, R6.fault y p 9) := by
  cases d <;> (unfold R6.value; rw [h]; simp only; rw [if_pos (by rw [hf]; rfl)])
theorem v_lim (h : R6.want s lim x p = (true, y)) (hf : R6.firsts (R6.at_ s p) = true) (hl : lim.i ≤ y.out.length ∨ (d = 0 ∧ (R6.at_ s p = 123 ∨ R6.at_ s p = 91))) : R6.value s lim d x p = (none, R6.fault y p 10) := by
  cases d with
  | zero =>
    unfold R6.value; rw [h]; simp only; rw [if_neg (by rw [hf]; simp), if_pos]
    simp only [Bool.or_eq_true, decide_eq_true_eq, beq_iff_eq]
    rcases hl with e | ⟨_, e⟩
    · exact .inl e
    · exact .inr e
  | succ d =>
    unfold R6.value; rw [h]; simp only; rw [if_neg (by rw [hf]; simp), if_pos]
    rcases hl with e | ⟨e, _⟩
    · exact e
    · omega
theorem v_obj (h : R6.want s lim x p = (true, y)) (hc : R6.at_ s p = 123) (hl : ¬ lim.i ≤ y.out.length) : R6.value s lim (d + 1) x p = R6.object s lim (R6.value s lim d) y.out.length { y with out := y.out ++ [⟨6, 0, []⟩] } (p + 1) := by
  have hk := R6.setKind_mid y.out [] ⟨0, 0, []⟩ 6
  conv => lhs; unfold R6.value
  rw [h]
  simp only
  rw [if_neg (by rw [hc]; decide), if_neg hl, if_pos (by rw [hc]; decide), hk]
theorem v_arr (h : R6.want s lim x p = (true, y)) (hc : R6.at_ s p = 91) (hl : ¬ lim.i ≤ y.out.length) : R6.value s lim (d + 1) x p = R6.array s lim (R6.value s lim d) y.out.length { y with out := y.out ++ [⟨5, 0, []⟩] } (p + 1) := by
  have hk := R6.setKind_mid y.out [] ⟨0, 0, []⟩ 5
  conv => lhs; unfold R6.value
  rw [h]
  simp only
  rw [if_neg (by rw [hc]; decide), if_neg hl, if_neg (by rw [hc]; decide), if_pos (by rw [hc]; decide), hk]
theorem v_plain (h : R6.want s lim x p = (true, y)) (hf : R6.firsts (R6.at_ s p) = true) (h1 : R6.at_ s p ≠ 123) (h2 : R6.at_ s p ≠ 91) (hl : ¬ lim.i ≤ y.out.length) : R6.value s lim d x p = R6.plainV s lim { y with out := y.out ++ [⟨0, 0, []⟩] } (R6.at_ s p) p y.out.length := by
  have e1 : (R6.at_ s p == 123) = false := by simpa using h1
  have e2 : (R6.at_ s p == 91) = false := by simpa using h2
  cases d with
  | zero =>
    unfold R6.value; rw [h]; simp only; rw [if_neg (by rw [hf]; simp), if_neg]
    rw [e1, e2]
    simpa using hl
  | succ d =>
    unfold R6.value; rw [h]; simp only; rw [if_neg (by rw [hf]; simp), if_neg hl, if_neg (by rw [e1]; simp), if_neg (by rw [e2]; simp)]
theorem plain_str (u : List Val) : R6.plainV s lim { y with out := u ++ [⟨0, 0, []⟩] } 34 p u.length = match R6.text s lim { y with out := u ++ [⟨4, 0, []⟩] } p with
    | (none, z) => (none, z)
    | (some (b, q), z) => (some q, { z with out := R6.setText z.out u.length b }) := by
  have hk := R6.setKind_mid u [] ⟨0, 0, []⟩ 4
  unfold R6.plainV
  rw [if_pos (by decide), hk]
  rfl
theorem plain_true (u : List Val) : R6.plainV s lim { y with out := u ++ [⟨0, 0, []⟩] } 116 p u.length = R6.wordN s lim [116, 114, 117, 101] { y with out := u ++ [⟨2, 0, []⟩] } p := by
  have hk := R6.setKind_mid u [] ⟨0, 0, []⟩ 2
  unfold R6.plainV
  rw [if_neg (by decide), if_pos (by decide), hk]
theorem plain_false (u : List Val) : R6.plainV s lim { y with out := u ++ [⟨0, 0, []⟩] } 102 p u.length = R6.wordN s lim [102, 97, 108, 115, 101] { y with out := u ++ [⟨1, 0, []⟩] } p := by
  have hk := R6.setKind_mid u [] ⟨0, 0, []⟩ 1
  unfold R6.plainV
  rw [if_neg (by decide), if_neg (by decide), if_pos (by decide), hk]
theorem plain_null (u : List Val) : R6.plainV s lim { y with out := u ++ [⟨0, 0, []⟩] } 110 p u.length = R6.wordN s lim [110, 117, 108, 108] { y with out := u ++ [⟨0, 0, []⟩] } p := by
  unfold R6.plainV
  rw [if_neg (by decide), if_neg (by decide), if_neg (by decide), if_pos (by decide)]
theorem plain_num {c : Nat} (u : List Val) (h1 : c ≠ 34) (h2 : c ≠ 116) (h3 : c ≠ 102) (h4 : c ≠ 110) : R6.plainV s lim { y with out := u ++ [⟨0, 0, []⟩] } c p u.length = R6.numVal s lim { y with out := u ++ [⟨3, 0, []⟩] } p u.length := by
  have hk := R6.setKind_mid u [] ⟨0, 0, []⟩ 3
  have e1 : (c == 34) = false := by simpa using h1
  have e2 : (c == 116) = false := by simpa using h2
  have e3 : (c == 102) = false := by simpa using h3
  have e4 : (c == 110) = false := by simpa using h4
  unfold R6.plainV
  rw [if_neg (by rw [e1]; simp), if_neg (by rw [e2]; simp), if_neg (by rw [e3]; simp), if_neg (by rw [e4]; simp), hk]
end
/-- Behind the beginning of a value: it stands in the list. -/
structure Bgn (w : World) (b : Nat) (s : Bytes) (lim : Lim) (vo : Value) (y : R6.St) (w4 : World) (g cap : Nat) : Prop where
  run : Run6 w b s lim vo { y with out := y.out ++ [⟨0, 0, []⟩] } w4 (.slice (some ⟨g, 0, none⟩) (y.out.length + 1) cap)
section
variable {w w4 : World} {b : Nat} {s : Bytes} {lim : Lim} {vo : Value} {y : R6.St} {g cap : Nat}
theorem Bgn.kind (h : Bgn w b s lim vo y w4 g cap) (k : Int) : Run6 w b s lim vo { y with out := y.out ++ [⟨k, 0, []⟩] } (w4.setCell ⟨g, y.out.length * 3, none⟩ (.int .i64 k)) (.slice (some ⟨g, 0, none⟩) (y.out.length + 1) cap) := by
  have h1 := h.run.x.setVal (j := y.out.length) (a := ⟨0, 0, []⟩) (a' := ⟨k, 0, []⟩) (by simp) 0 (by decide) (.int .i64 k) rfl
  have h2 := h.run.trans h1
  have e : (y.out ++ [(⟨0, 0, []⟩ : Val)]).set y.out.length ⟨k, 0, []⟩ = y.out ++ [⟨k, 0, []⟩] := by simp
  simp only [e] at h2
  exact h2
theorem Bgn.cells (h : Bgn w b s lim vo y w4 g cap) : w4.cell? ⟨b, 11, none⟩ = some (.slice (some ⟨g, 0, none⟩) (y.out.length + 1) cap) ∧ y.out.length + 1 ≤ cap ∧ cap ≤ maxLen ∧ w4.cell? ⟨g, y.out.length * 3, none⟩ = some (.int .i64 0) ∧ (∀ i, w4.frozen? ⟨g, i, none⟩ = false) := by
  obtain ⟨g', cap', h1, h2, h3, h4, h5, h6, h7⟩ := h.run.x.val (j := y.out.length) (a := ⟨0, 0, []⟩) (by simp)
  simp only [Value.slice.injEq, Option.some.injEq, Addr.mk.injEq, and_true] at h1
  obtain ⟨rfl, _, rfl⟩ := h1
  exact ⟨h.run.x.cell11, by simpa using h2, h3, h4, h7⟩
end
/-- Its last value. -/
theorem Run6.last {w w6 : World} {b : Nat} {s : Bytes} {lim : Lim} {vo : Value} {z : R6.St} {u : List Val} {a : Val} {g cap n : Nat} (h : Run6 w b s lim vo z w6 (.slice (some ⟨g, 0, none⟩) n cap)) (ho : z.out = u ++ [a]) :
    n = u.length + 1 ∧ w6.cell? ⟨b, 11, none⟩ = some (.slice (some ⟨g, 0, none⟩) n cap) ∧ n ≤ cap ∧ cap ≤ maxLen ∧ w6.cell? ⟨g, u.length * 3 + 2, none⟩ = some (S a.text) ∧ (∀ i, w6.frozen? ⟨g, i, none⟩ = false) ∧
    ∀ t, Run6 w b s lim vo { z with out := u ++ [{ a with text := t }] } (w6.setCell ⟨g, u.length * 3 + 2, none⟩ (S t)) (.slice (some ⟨g, 0, none⟩) n cap) := by
  have hj : z.out[u.length]? = some a := by rw [ho]; simp
  obtain ⟨g', cap', h1, h2, h3, h4, h5, h6, h7⟩ := h.x.val hj
  simp only [Value.slice.injEq, Option.some.injEq, Addr.mk.injEq, and_true] at h1
  obtain ⟨rfl, hn, rfl⟩ := h1
  rw [ho] at h2 hn
  refine ⟨by simpa using hn, h.x.cell11, by rw [hn]; exact h2, h3, h6, h7, fun t => ?_⟩
  have k := h.trans (h.x.setVal hj (a' := { a with text := t }) 2 (by decide) (S t) rfl)
  rw [show z.out.set u.length { a with text := t } = u ++ [{ a with text := t }] by rw [ho]; simp] at k
  exact k
section
variable {w w2 w3 : World} {b : Nat} {s : Bytes} {lim : Lim} {y : R6.St} {vo vo2 : Value}
/-- The list has one more, and its slice is known. -/
theorem Run6.push (h : Run6 w b s lim vo y w2 vo2) {g cap : Nat} {a : Val}
    (hown : w3.ownsRow 0 64 3 (.slice (some ⟨g, 0, none⟩) (y.out.length + 1) cap) (y.out.length + 1) (y.out.flatMap cVal ++ cVal a))
    (hg : w2.grownBy w3 vo2.ownBlock) (hat : vo2.ownBlock = some g ∨ w2.heap.size ≤ g) :
    Run6 w b s lim vo { y with out := y.out ++ [a] } (w3.setCell ⟨b, 11, none⟩ (.slice (some ⟨g, 0, none⟩) (y.out.length + 1) cap)) (.slice (some ⟨g, 0, none⟩) (y.out.length + 1) cap) := by
  refine h.trans ?_
  have hx := h.x
  have hgb : g ≠ b := by rcases hat with e | e; exact fun x => hx.ob g e (by rw [x]); have := hx.rd.lt; omega
  have hb' : Rd w3 b 76 s lim y.r (.slice none 0 0) [vo2] := hx.rd.keep (hg.block b hx.rd.lt (fun e => hx.ob b e.symm rfl))
  refine ⟨⟨hb'.set 11 _ y.r _ _ (by simp [rdCells]), ?_, ?_⟩, ((Fr.refl _ w2).grown hg (fun k e => .inl (.inr e))).setCell (.inl (.inl rfl)) _, ?_⟩
  · exact (owns_append hown).setCell (p := ⟨b, 11, none⟩) (by simpa [Value.ownBlock] using hgb) _
  · intro k hk; simp [Value.ownBlock] at hk; subst hk; simpa using Ne.symm hgb
  · rintro k (rfl | hk)
    · exact .inl (.inl rfl)
    · simp only [Value.ownBlock, Option.some.injEq] at hk
      subst hk
      rcases hat with e | e
      · exact .inl (.inr e)
      · exact .inr e
end
/-! The list stays, whatever comes of a string. -/
section
variable {s : Bytes} {lim : Lim}
theorem fourN_out : ∀ (m : Nat) (x : R6.St) (p n : Nat), (R6.fourN s lim m x p n).2.out = x.out
  | 0, _, _, _ => rfl
  | m + 1, x, p, n => by
    unfold R6.fourN
    have hk := (R6.want_kept s lim x p).1
    cases hw : R6.want s lim x p with
    | mk q y =>
      rw [hw] at hk
      cases q with
      | false => exact hk
      | true =>
        simp only
        split
        · exact hk
        · exact (fourN_out m y _ _).trans hk
theorem second_out (x : R6.St) (p n : Nat) : (R6.second s lim x p n).2.out = x.out := by
  unfold R6.second
  have hk := (R6.is_kept s lim x p 92).1
  cases hw : R6.is s lim x p 92 with
  | mk q y =>
    rw [hw] at hk
    cases q with
    | false => exact hk
    | true =>
      have hk2 := (R6.is_kept s lim y (p + 1) 117).1
      simp only
      cases hw : R6.is s lim y (p + 1) 117 with
      | mk q z =>
        rw [hw] at hk2
        cases q with
        | false => exact hk2.trans hk
        | true =>
          have hk3 := fourN_out (s := s) (lim := lim) 4 z (p + 2) 0
          simp only
          unfold R6.four
          cases hw : R6.fourN s lim 4 z (p + 2) 0 with
          | mk q u =>
            rw [hw] at hk3
            cases q with
            | none => exact hk3.trans (hk2.trans hk)
            | some m =>
              simp only
              split <;> exact hk3.trans (hk2.trans hk)
theorem escape_out (x : R6.St) (p : Nat) : (R6.escape s lim x p).2.out = x.out := by
  unfold R6.escape
  have hk := (R6.want_kept s lim x p).1
  cases hw : R6.want s lim x p with
  | mk q y =>
    rw [hw] at hk
    cases q with
    | false => exact hk
    | true =>
      simp only
      split
      · exact hk
      · split
        · exact hk
        · have hk3 := fourN_out (s := s) (lim := lim) 4 y (p + 1) 0
          unfold R6.four
          cases hw : R6.fourN s lim 4 y (p + 1) 0 with
          | mk q z =>
            rw [hw] at hk3
            cases q with
            | none => exact hk3.trans hk
            | some n =>
              simp only
              split
              · exact hk3.trans hk
              · split
                · exact hk3.trans hk
                · exact (second_out z _ _).trans (hk3.trans hk)
theorem signN_out (p : Nat) : ∀ (m : Nat) (x : R6.St) (q : Nat), (R6.signN s lim p m x q).2.out = x.out
  | 0, _, _ => rfl
  | m + 1, x, q => by
    unfold R6.signN
    have hk := (R6.want_kept s lim x q).1
    cases hw : R6.want s lim x q with
    | mk c y =>
      rw [hw] at hk
      cases c with
      | false => exact hk
      | true =>
        simp only
        split
        · exact hk
        · split
          · exact hk
          · exact (signN_out p m y _).trans hk
theorem textN_out : ∀ (m : Nat) (x : R6.St) (p : Nat) (o : Bytes), (R6.textN s lim m x p o).2.out = x.out
  | 0, _, _, _ => rfl
  | m + 1, x, p, o => by
    unfold R6.textN
    have hk := (R6.want_kept s lim x p).1
    cases hw : R6.want s lim x p with
    | mk c y =>
      rw [hw] at hk
      cases c with
      | false => exact hk
      | true =>
        simp only
        split
        · exact hk
        · split
          · exact hk
          · split
            · have h3 := escape_out (s := s) (lim := lim) y (p + 1)
              cases hw : R6.escape s lim y (p + 1) with
              | mk q z =>
                rw [hw] at h3
                cases q with
                | none => exact h3.trans hk
                | some v => exact (textN_out m z _ _).trans (h3.trans hk)
            · split
              · have h3 := signN_out (s := s) (lim := lim) p (s.length + 1 - p) y p
                unfold R6.sign
                cases hw : R6.signN s lim p (s.length + 1 - p) y p with
                | mk q z =>
                  rw [hw] at h3
                  cases q with
                  | none => exact h3.trans hk
                  | some v => exact (textN_out m z _ _).trans (h3.trans hk)
              · exact (textN_out m y _ _).trans hk
theorem text_out {x y : R6.St} {p : Nat} {o : Option (Bytes × Nat)} (h : R6.text s lim x p = (o, y)) : y.out = x.out := by
  have := textN_out (s := s) (lim := lim) (s.length + 1 - p) x (p + 1) []
  unfold R6.text at h
  rw [h] at this
  exact this
end
end Go.Proofs.Ytahojodgmjmpnaa

/-! The walk over the reference's value, layer 16: what opens. -/
namespace Go.Proofs.Ytahojodgmjmpnaa
open Go.RowKit Go.Px


set_option maxRecDepth 100000 in
set_option maxHeartbeats 8000000 in
theorem val_obj (b p dp d : Nat) (s : Bytes) (lim : Lim) (x y : R6.St) (vo : Value) (hc : Ctx s lim) (hw : R6.want s lim x p = (true, y)) (hcc : R6.at_ s p = 123) (hl : ¬ lim.i ≤ (y.out.length : Int)) (hfr : x.r.frames = dp) (hdl : ((dp + (d + 1) : Nat) : Int) = lim.d) (hO : ObjectC s lim d) (w : World) (h : X6 w b s lim x vo) :
    Calls Try.prog 30 #[.pointer (some ⟨b, 0, none⟩), .int .i64 (p : Nat), .int .i64 (dp : Nat)] w fun r w' => r = .returned (tupV (R6.value s lim ((d + 1)) x p).1) ∧ Did6 w b s lim vo (R6.value s lim ((d + 1)) x p).2 w' := by
  obtain ⟨R, hR⟩ : ∃ R, R = R6.value s lim ((d + 1)) x p := ⟨_, rfl⟩
  rw [← hR]
  have hmay := J6.may_of hc.may
  have hlen := hc.len
  obtain ⟨hkk, hps, hpb⟩ := R6.want_ok hw
  have hp2 : p ≤ 1000000 := by omega
  have hdp : dp ≤ 32 := by omega
  have hol : y.out.length ≤ 4096 := by omega
  have hix := idx6 s p hps
  have hci := want6 b p s lim x vo hc (by omega) w h
  rw [hw] at hci
  obtain ⟨oa, oc, hov, _⟩ := h.out.len
  rw [← hkk.1] at hov
  subst hov
  have hge : decide (lim.i ≤ (y.out.length : Int)) = false := decide_eq_false hl
  have hgd : decide (lim.d ≤ (dp : Int)) = false := by simp; omega
  have hwp := wrap1 p hp2
  have hwd := wrap1 dp (by omega)
  have hst := v_obj (d := d) hw hcc hl
  rw [← hR] at hst
  have HST := Px.hid hst
  have HO := Px.hid (fun (w : World) (vo : Value) (h : X6 w b s lim { y with out := y.out ++ [⟨6, 0, []⟩] } vo) => hO b (p + 1) (dp + 1) y.out { y with out := y.out ++ [⟨6, 0, []⟩] } vo w h rfl hol hps (by rw [← hfr, ← hkk.2]) (by omega))
  clear hst
  simp only [hcc] at hix
  have HI := Px.hid hci
  have HH := Px.hid (Run6.refl h)
  clear hci h hw hcc hl hfr hdl hkk hps hpb hR hc hmay hlen hdp hO
  go_enter Try.func30, Try.ntmps30
  go_wp2_with fail
  refine HI.out.mono ?_
  rintro e w1 ⟨rfl, h1, h2⟩
  have c0 := h1.c0
  obtain ⟨_, c1, c2, _⟩ := h1.rd.cells
  have c11 := h1.cell11
  have H1 := Px.hid (HH.out.it h1 h2)
  clear h1 h2
  go_wp2_with fail
  go_quiet (fail)
  obtain ⟨w2, hw2⟩ : ∃ w2, w2 = w1.drewN nq := ⟨_, rfl⟩
  rw [← hw2]
  have H2 := Px.hid (show Run6 w b s lim (.slice oa y.out.length oc) y w2 (.slice oa y.out.length oc) from by rw [hw2]; exact H1.out.drewN nq)
  clear c0 c1 c2 c11 hw2 H1 hge hgd
  have c11 := H2.out.x.cell11
  have f11 := H2.out.x.rd.free 11
  have hbl := H2.out.x.lt
  have HOB := Px.hid H2.out.x.ob.ne
  obtain ⟨i0, hi0, hz0, hzz1, hz2⟩ := info_parts Try.infoVal
  go_wp2_with (at_builtin; go_must (refine wpList_append_lies _ rfl _ _ _ rfl 0 64 i0 _ 3 32 Try.underlying32 hi0 hz0 hzz1 hz2 rfl (by omega) _ y.out.length (y.out.flatMap cVal) rfl (H2.out.x.out.alloc _) ⟨w2.heap.size, 0, none⟩ 1 1 (cVal ⟨0, 0, []⟩) rfl rfl (World.news_of_block (cs := #[.int .i64 0, .int .i64 0, S []]) (t := 64) (fr := (0, 0)) (heap_alloc_new w2 _)) (by simp [cVal, Value.oneCell']) (by omega) (by unfold maxLen; omega) (by omega) (by omega) (w2.heap.size + 1) (by simp) ?_))
  intro gg cap w3 hown1 hgrow hat hltg
  have k11 := grown_cell1 hgrow c11 HOB.out
  have e11 := grown_free1 hgrow c11 f11 HOB.out
  have hd3 := H2.out.push hown1 (grown_alloc1 hgrow) (hat.elim .inl (fun e => .inr (by omega)))
  have H3 := Px.hid hd3
  clear hown1 hgrow hat hltg hd3 c11 f11 hi0 hz0 hzz1 hz2 hbl
  go_upto_region 12 with fail
  obtain ⟨w4, hw4⟩ : ∃ w4, w4 = w3.setCell ⟨b, 11, none⟩ (.slice (some ⟨gg, 0, none⟩) (y.out.length + 1) cap) := ⟨_, rfl⟩
  rw [← hw4]
  have HB := Px.hid (show Bgn w b s lim (.slice oa y.out.length oc) y w4 gg cap from ⟨by rw [hw4]; exact H3.out⟩)
  clear hw4 k11 e11 H3 H2 HOB
  obtain ⟨b11, b1, b2, bk, bf⟩ := HB.out.cells
  have H4 := Px.hid (HB.out.kind 6)
  clear HB
  go_wp2_with fail
  refine (HO.out _ _ H4.out.x).mono ?_
  rintro e w5 ⟨rfl, hd⟩
  have H5 := Px.hid (H4.out.andThen hd)
  clear hd
  obtain ⟨⟨o, z⟩, hres⟩ : ∃ r, R6.object s lim (R6.value s lim d) y.out.length { y with out := y.out ++ [⟨6, 0, []⟩] } (p + 1) = r := ⟨_, rfl⟩
  have HS := Px.hid (HST.out.trans hres)
  have H6 := Px.hid (show Did6 w b s lim (.slice oa y.out.length oc) z w5 from by have := H5.out; rw [hres] at this; exact this)
  rw [hres]
  clear hres H5 HST
  cases o with
  | none =>
    unfold tupV
    go_wp2
    go_ret2
    rw [HS.out]
    exact ⟨rfl, H6.out⟩
  | some q =>
    unfold tupV
    go_wp2
    go_ret2
    rw [HS.out]
    exact ⟨rfl, H6.out⟩

set_option maxRecDepth 100000 in
set_option maxHeartbeats 8000000 in
theorem val_arr (b p dp d : Nat) (s : Bytes) (lim : Lim) (x y : R6.St) (vo : Value) (hc : Ctx s lim) (hw : R6.want s lim x p = (true, y)) (hcc : R6.at_ s p = 91) (hl : ¬ lim.i ≤ (y.out.length : Int)) (hfr : x.r.frames = dp) (hdl : ((dp + (d + 1) : Nat) : Int) = lim.d) (hO : ArrayC s lim d) (w : World) (h : X6 w b s lim x vo) :
    Calls Try.prog 30 #[.pointer (some ⟨b, 0, none⟩), .int .i64 (p : Nat), .int .i64 (dp : Nat)] w fun r w' => r = .returned (tupV (R6.value s lim ((d + 1)) x p).1) ∧ Did6 w b s lim vo (R6.value s lim ((d + 1)) x p).2 w' := by
  obtain ⟨R, hR⟩ : ∃ R, R = R6.value s lim ((d + 1)) x p := ⟨_, rfl⟩
  rw [← hR]
  have hmay := J6.may_of hc.may
  have hlen := hc.len
  obtain ⟨hkk, hps, hpb⟩ := R6.want_ok hw
  have hp2 : p ≤ 1000000 := by omega
  have hdp : dp ≤ 32 := by omega
  have hol : y.out.length ≤ 4096 := by omega
  have hix := idx6 s p hps
  have hci := want6 b p s lim x vo hc (by omega) w h
  rw [hw] at hci
  obtain ⟨oa, oc, hov, _⟩ := h.out.len
  rw [← hkk.1] at hov
  subst hov
  have hge : decide (lim.i ≤ (y.out.length : Int)) = false := decide_eq_false hl
  have hgd : decide (lim.d ≤ (dp : Int)) = false := by simp; omega
  have hwp := wrap1 p hp2
  have hwd := wrap1 dp (by omega)
  have hst := v_arr (d := d) hw hcc hl
  rw [← hR] at hst
  have HST := Px.hid hst
  have HO := Px.hid (fun (w : World) (vo : Value) (h : X6 w b s lim { y with out := y.out ++ [⟨5, 0, []⟩] } vo) => hO b (p + 1) (dp + 1) y.out { y with out := y.out ++ [⟨5, 0, []⟩] } vo w h rfl hol hps (by rw [← hfr, ← hkk.2]) (by omega))
  clear hst
  simp only [hcc] at hix
  have HI := Px.hid hci
  have HH := Px.hid (Run6.refl h)
  clear hci h hw hcc hl hfr hdl hkk hps hpb hR hc hmay hlen hdp hO
  go_enter Try.func30, Try.ntmps30
  go_wp2_with fail
  refine HI.out.mono ?_
  rintro e w1 ⟨rfl, h1, h2⟩
  have c0 := h1.c0
  obtain ⟨_, c1, c2, _⟩ := h1.rd.cells
  have c11 := h1.cell11
  have H1 := Px.hid (HH.out.it h1 h2)
  clear h1 h2
  go_wp2_with fail
  go_quiet (fail)
  obtain ⟨w2, hw2⟩ : ∃ w2, w2 = w1.drewN nq := ⟨_, rfl⟩
  rw [← hw2]
  have H2 := Px.hid (show Run6 w b s lim (.slice oa y.out.length oc) y w2 (.slice oa y.out.length oc) from by rw [hw2]; exact H1.out.drewN nq)
  clear c0 c1 c2 c11 hw2 H1 hge hgd
  have c11 := H2.out.x.cell11
  have f11 := H2.out.x.rd.free 11
  have hbl := H2.out.x.lt
  have HOB := Px.hid H2.out.x.ob.ne
  obtain ⟨i0, hi0, hz0, hzz1, hz2⟩ := info_parts Try.infoVal
  go_wp2_with (at_builtin; go_must (refine wpList_append_lies _ rfl _ _ _ rfl 0 64 i0 _ 3 32 Try.underlying32 hi0 hz0 hzz1 hz2 rfl (by omega) _ y.out.length (y.out.flatMap cVal) rfl (H2.out.x.out.alloc _) ⟨w2.heap.size, 0, none⟩ 1 1 (cVal ⟨0, 0, []⟩) rfl rfl (World.news_of_block (cs := #[.int .i64 0, .int .i64 0, S []]) (t := 64) (fr := (0, 0)) (heap_alloc_new w2 _)) (by simp [cVal, Value.oneCell']) (by omega) (by unfold maxLen; omega) (by omega) (by omega) (w2.heap.size + 1) (by simp) ?_))
  intro gg cap w3 hown1 hgrow hat hltg
  have k11 := grown_cell1 hgrow c11 HOB.out
  have e11 := grown_free1 hgrow c11 f11 HOB.out
  have hd3 := H2.out.push hown1 (grown_alloc1 hgrow) (hat.elim .inl (fun e => .inr (by omega)))
  have H3 := Px.hid hd3
  clear hown1 hgrow hat hltg hd3 c11 f11 hi0 hz0 hzz1 hz2 hbl
  go_upto_region 15 with fail
  obtain ⟨w4, hw4⟩ : ∃ w4, w4 = w3.setCell ⟨b, 11, none⟩ (.slice (some ⟨gg, 0, none⟩) (y.out.length + 1) cap) := ⟨_, rfl⟩
  rw [← hw4]
  have HB := Px.hid (show Bgn w b s lim (.slice oa y.out.length oc) y w4 gg cap from ⟨by rw [hw4]; exact H3.out⟩)
  clear hw4 k11 e11 H3 H2 HOB
  obtain ⟨b11, b1, b2, bk, bf⟩ := HB.out.cells
  have H4 := Px.hid (HB.out.kind 5)
  clear HB
  go_wp2_with fail
  refine (HO.out _ _ H4.out.x).mono ?_
  rintro e w5 ⟨rfl, hd⟩
  have H5 := Px.hid (H4.out.andThen hd)
  clear hd
  obtain ⟨⟨o, z⟩, hres⟩ : ∃ r, R6.array s lim (R6.value s lim d) y.out.length { y with out := y.out ++ [⟨5, 0, []⟩] } (p + 1) = r := ⟨_, rfl⟩
  have HS := Px.hid (HST.out.trans hres)
  have H6 := Px.hid (show Did6 w b s lim (.slice oa y.out.length oc) z w5 from by have := H5.out; rw [hres] at this; exact this)
  rw [hres]
  clear hres H5 HST
  cases o with
  | none =>
    unfold tupV
    go_wp2
    go_ret2
    rw [HS.out]
    exact ⟨rfl, H6.out⟩
  | some q =>
    unfold tupV
    go_wp2
    go_ret2
    rw [HS.out]
    exact ⟨rfl, H6.out⟩

end Go.Proofs.Ytahojodgmjmpnaa

/-! The walk over the reference's value, layer 16: words and strings. -/
namespace Go.Proofs.Ytahojodgmjmpnaa
open Go.RowKit Go.Px


set_option maxRecDepth 100000 in
set_option maxHeartbeats 8000000 in
theorem val_true (b p dp d : Nat) (s : Bytes) (lim : Lim) (x y : R6.St) (vo : Value) (hc : Ctx s lim) (hw : R6.want s lim x p = (true, y)) (hcc : R6.at_ s p = 116) (hl : ¬ lim.i ≤ (y.out.length : Int)) (hfr : x.r.frames = dp) (hdl : ((dp + d : Nat) : Int) = lim.d) (w : World) (h : X6 w b s lim x vo) :
    Calls Try.prog 30 #[.pointer (some ⟨b, 0, none⟩), .int .i64 (p : Nat), .int .i64 (dp : Nat)] w fun r w' => r = .returned (tupV (R6.value s lim (d) x p).1) ∧ Did6 w b s lim vo (R6.value s lim (d) x p).2 w' := by
  obtain ⟨R, hR⟩ : ∃ R, R = R6.value s lim (d) x p := ⟨_, rfl⟩
  rw [← hR]
  have hmay := J6.may_of hc.may
  have hlen := hc.len
  obtain ⟨hkk, hps, hpb⟩ := R6.want_ok hw
  have hp2 : p ≤ 1000000 := by omega
  have hdp : dp ≤ 32 := by omega
  have hol : y.out.length ≤ 4096 := by omega
  have hix := idx6 s p hps
  have hci := want6 b p s lim x vo hc (by omega) w h
  rw [hw] at hci
  obtain ⟨oa, oc, hov, _⟩ := h.out.len
  rw [← hkk.1] at hov
  subst hov
  have hge : decide (lim.i ≤ (y.out.length : Int)) = false := decide_eq_false hl
  have hwp := wrap1 p hp2
  have hwd := wrap1 dp (by omega)
  have hst := v_plain (d := d) hw (by rw [hcc]; decide) (by rw [hcc]; decide) (by rw [hcc]; decide) hl
  rw [hcc, plain_true, ← hR] at hst
  have HST := Px.hid hst
  have HO := Px.hid (fun (w : World) (vo : Value) (h : X6 w b s lim { y with out := y.out ++ [⟨2, 0, []⟩] } vo) => word6 b p s [116, 114, 117, 101] lim { y with out := y.out ++ [⟨2, 0, []⟩] } vo hc (Nat.le_of_lt hps) (by decide) w h)
  clear hst
  simp only [hcc] at hix
  have HI := Px.hid hci
  have HH := Px.hid (Run6.refl h)
  clear hci h hw hcc hl hfr hdl hkk hps hpb hR hc hmay hlen hdp
  go_enter Try.func30, Try.ntmps30
  go_wp2_with fail
  refine HI.out.mono ?_
  rintro e w1 ⟨rfl, h1, h2⟩
  have c0 := h1.c0
  obtain ⟨_, c1, c2, _⟩ := h1.rd.cells
  have c11 := h1.cell11
  have H1 := Px.hid (HH.out.it h1 h2)
  clear h1 h2
  go_wp2_with fail
  go_quiet (fail)
  obtain ⟨w2, hw2⟩ : ∃ w2, w2 = w1.drewN nq := ⟨_, rfl⟩
  rw [← hw2]
  have H2 := Px.hid (show Run6 w b s lim (.slice oa y.out.length oc) y w2 (.slice oa y.out.length oc) from by rw [hw2]; exact H1.out.drewN nq)
  clear c0 c1 c2 c11 hw2 H1 hge
  have c11 := H2.out.x.cell11
  have f11 := H2.out.x.rd.free 11
  have hbl := H2.out.x.lt
  have HOB := Px.hid H2.out.x.ob.ne
  obtain ⟨i0, hi0, hz0, hzz1, hz2⟩ := info_parts Try.infoVal
  go_wp2_with (at_builtin; go_must (refine wpList_append_lies _ rfl _ _ _ rfl 0 64 i0 _ 3 32 Try.underlying32 hi0 hz0 hzz1 hz2 rfl (by omega) _ y.out.length (y.out.flatMap cVal) rfl (H2.out.x.out.alloc _) ⟨w2.heap.size, 0, none⟩ 1 1 (cVal ⟨0, 0, []⟩) rfl rfl (World.news_of_block (cs := #[.int .i64 0, .int .i64 0, S []]) (t := 64) (fr := (0, 0)) (heap_alloc_new w2 _)) (by simp [cVal, Value.oneCell']) (by omega) (by unfold maxLen; omega) (by omega) (by omega) (w2.heap.size + 1) (by simp) ?_))
  intro gg cap w3 hown1 hgrow hat hltg
  have k11 := grown_cell1 hgrow c11 HOB.out
  have e11 := grown_free1 hgrow c11 f11 HOB.out
  have hd3 := H2.out.push hown1 (grown_alloc1 hgrow) (hat.elim .inl (fun e => .inr (by omega)))
  have H3 := Px.hid hd3
  clear hown1 hgrow hat hltg hd3 c11 f11 hi0 hz0 hzz1 hz2 hbl
  go_upto_region 23 with fail
  obtain ⟨w4, hw4⟩ : ∃ w4, w4 = w3.setCell ⟨b, 11, none⟩ (.slice (some ⟨gg, 0, none⟩) (y.out.length + 1) cap) := ⟨_, rfl⟩
  rw [← hw4]
  have HB := Px.hid (show Bgn w b s lim (.slice oa y.out.length oc) y w4 gg cap from ⟨by rw [hw4]; exact H3.out⟩)
  clear hw4 k11 e11 H3 H2 HOB
  obtain ⟨b11, b1, b2, bk, bf⟩ := HB.out.cells
  have H4 := Px.hid (HB.out.kind 2)
  clear HB
  go_wp2_with fail
  refine (HO.out _ _ H4.out.x).mono ?_
  rintro e w5 ⟨rfl, h1, h2, _⟩
  have H5 := Px.hid (H4.out.it h1 h2)
  clear h1 h2
  obtain ⟨⟨o, z⟩, hres⟩ : ∃ r, R6.wordN s lim [116, 114, 117, 101] { y with out := y.out ++ [⟨2, 0, []⟩] } p = r := ⟨_, rfl⟩
  have HS := Px.hid (HST.out.trans hres)
  have H6 := Px.hid (show Did6 w b s lim (.slice oa y.out.length oc) z w5 from by have := H5.out; rw [hres] at this; exact this.did)
  rw [hres]
  clear hres H5 HST
  cases o with
  | none =>
    unfold tupV
    go_wp2
    go_ret2
    rw [HS.out]
    exact ⟨rfl, H6.out⟩
  | some q =>
    unfold tupV
    go_wp2
    go_ret2
    rw [HS.out]
    exact ⟨rfl, H6.out⟩

set_option maxRecDepth 100000 in
set_option maxHeartbeats 8000000 in
theorem val_false (b p dp d : Nat) (s : Bytes) (lim : Lim) (x y : R6.St) (vo : Value) (hc : Ctx s lim) (hw : R6.want s lim x p = (true, y)) (hcc : R6.at_ s p = 102) (hl : ¬ lim.i ≤ (y.out.length : Int)) (hfr : x.r.frames = dp) (hdl : ((dp + d : Nat) : Int) = lim.d) (w : World) (h : X6 w b s lim x vo) :
    Calls Try.prog 30 #[.pointer (some ⟨b, 0, none⟩), .int .i64 (p : Nat), .int .i64 (dp : Nat)] w fun r w' => r = .returned (tupV (R6.value s lim (d) x p).1) ∧ Did6 w b s lim vo (R6.value s lim (d) x p).2 w' := by
  obtain ⟨R, hR⟩ : ∃ R, R = R6.value s lim (d) x p := ⟨_, rfl⟩
  rw [← hR]
  have hmay := J6.may_of hc.may
  have hlen := hc.len
  obtain ⟨hkk, hps, hpb⟩ := R6.want_ok hw
  have hp2 : p ≤ 1000000 := by omega
  have hdp : dp ≤ 32 := by omega
  have hol : y.out.length ≤ 4096 := by omega
  have hix := idx6 s p hps
  have hci := want6 b p s lim x vo hc (by omega) w h
  rw [hw] at hci
  obtain ⟨oa, oc, hov, _⟩ := h.out.len
  rw [← hkk.1] at hov
  subst hov
  have hge : decide (lim.i ≤ (y.out.length : Int)) = false := decide_eq_false hl
  have hwp := wrap1 p hp2
  have hwd := wrap1 dp (by omega)
  have hst := v_plain (d := d) hw (by rw [hcc]; decide) (by rw [hcc]; decide) (by rw [hcc]; decide) hl
  rw [hcc, plain_false, ← hR] at hst
  have HST := Px.hid hst
  have HO := Px.hid (fun (w : World) (vo : Value) (h : X6 w b s lim { y with out := y.out ++ [⟨1, 0, []⟩] } vo) => word6 b p s [102, 97, 108, 115, 101] lim { y with out := y.out ++ [⟨1, 0, []⟩] } vo hc (Nat.le_of_lt hps) (by decide) w h)
  clear hst
  simp only [hcc] at hix
  have HI := Px.hid hci
  have HH := Px.hid (Run6.refl h)
  clear hci h hw hcc hl hfr hdl hkk hps hpb hR hc hmay hlen hdp
  go_enter Try.func30, Try.ntmps30
  go_wp2_with fail
  refine HI.out.mono ?_
  rintro e w1 ⟨rfl, h1, h2⟩
  have c0 := h1.c0
  obtain ⟨_, c1, c2, _⟩ := h1.rd.cells
  have c11 := h1.cell11
  have H1 := Px.hid (HH.out.it h1 h2)
  clear h1 h2
  go_wp2_with fail
  go_quiet (fail)
  obtain ⟨w2, hw2⟩ : ∃ w2, w2 = w1.drewN nq := ⟨_, rfl⟩
  rw [← hw2]
  have H2 := Px.hid (show Run6 w b s lim (.slice oa y.out.length oc) y w2 (.slice oa y.out.length oc) from by rw [hw2]; exact H1.out.drewN nq)
  clear c0 c1 c2 c11 hw2 H1 hge
  have c11 := H2.out.x.cell11
  have f11 := H2.out.x.rd.free 11
  have hbl := H2.out.x.lt
  have HOB := Px.hid H2.out.x.ob.ne
  obtain ⟨i0, hi0, hz0, hzz1, hz2⟩ := info_parts Try.infoVal
  go_wp2_with (at_builtin; go_must (refine wpList_append_lies _ rfl _ _ _ rfl 0 64 i0 _ 3 32 Try.underlying32 hi0 hz0 hzz1 hz2 rfl (by omega) _ y.out.length (y.out.flatMap cVal) rfl (H2.out.x.out.alloc _) ⟨w2.heap.size, 0, none⟩ 1 1 (cVal ⟨0, 0, []⟩) rfl rfl (World.news_of_block (cs := #[.int .i64 0, .int .i64 0, S []]) (t := 64) (fr := (0, 0)) (heap_alloc_new w2 _)) (by simp [cVal, Value.oneCell']) (by omega) (by unfold maxLen; omega) (by omega) (by omega) (w2.heap.size + 1) (by simp) ?_))
  intro gg cap w3 hown1 hgrow hat hltg
  have k11 := grown_cell1 hgrow c11 HOB.out
  have e11 := grown_free1 hgrow c11 f11 HOB.out
  have hd3 := H2.out.push hown1 (grown_alloc1 hgrow) (hat.elim .inl (fun e => .inr (by omega)))
  have H3 := Px.hid hd3
  clear hown1 hgrow hat hltg hd3 c11 f11 hi0 hz0 hzz1 hz2 hbl
  go_upto_region 26 with fail
  obtain ⟨w4, hw4⟩ : ∃ w4, w4 = w3.setCell ⟨b, 11, none⟩ (.slice (some ⟨gg, 0, none⟩) (y.out.length + 1) cap) := ⟨_, rfl⟩
  rw [← hw4]
  have HB := Px.hid (show Bgn w b s lim (.slice oa y.out.length oc) y w4 gg cap from ⟨by rw [hw4]; exact H3.out⟩)
  clear hw4 k11 e11 H3 H2 HOB
  obtain ⟨b11, b1, b2, bk, bf⟩ := HB.out.cells
  have H4 := Px.hid (HB.out.kind 1)
  clear HB
  go_wp2_with fail
  refine (HO.out _ _ H4.out.x).mono ?_
  rintro e w5 ⟨rfl, h1, h2, _⟩
  have H5 := Px.hid (H4.out.it h1 h2)
  clear h1 h2
  obtain ⟨⟨o, z⟩, hres⟩ : ∃ r, R6.wordN s lim [102, 97, 108, 115, 101] { y with out := y.out ++ [⟨1, 0, []⟩] } p = r := ⟨_, rfl⟩
  have HS := Px.hid (HST.out.trans hres)
  have H6 := Px.hid (show Did6 w b s lim (.slice oa y.out.length oc) z w5 from by have := H5.out; rw [hres] at this; exact this.did)
  rw [hres]
  clear hres H5 HST
  cases o with
  | none =>
    unfold tupV
    go_wp2
    go_ret2
    rw [HS.out]
    exact ⟨rfl, H6.out⟩
  | some q =>
    unfold tupV
    go_wp2
    go_ret2
    rw [HS.out]
    exact ⟨rfl, H6.out⟩

set_option maxRecDepth 100000 in
set_option maxHeartbeats 8000000 in
theorem val_null (b p dp d : Nat) (s : Bytes) (lim : Lim) (x y : R6.St) (vo : Value) (hc : Ctx s lim) (hw : R6.want s lim x p = (true, y)) (hcc : R6.at_ s p = 110) (hl : ¬ lim.i ≤ (y.out.length : Int)) (hfr : x.r.frames = dp) (hdl : ((dp + d : Nat) : Int) = lim.d) (w : World) (h : X6 w b s lim x vo) :
    Calls Try.prog 30 #[.pointer (some ⟨b, 0, none⟩), .int .i64 (p : Nat), .int .i64 (dp : Nat)] w fun r w' => r = .returned (tupV (R6.value s lim (d) x p).1) ∧ Did6 w b s lim vo (R6.value s lim (d) x p).2 w' := by
  obtain ⟨R, hR⟩ : ∃ R, R = R6.value s lim (d) x p := ⟨_, rfl⟩
  rw [← hR]
  have hmay := J6.may_of hc.may
  have hlen := hc.len
  obtain ⟨hkk, hps, hpb⟩ := R6.want_ok hw
  have hp2 : p ≤ 1000000 := by omega
  have hdp : dp ≤ 32 := by omega
  have hol : y.out.length ≤ 4096 := by omega
  have hix := idx6 s p hps
  have hci := want6 b p s lim x vo hc (by omega) w h
  rw [hw] at hci
  obtain ⟨oa, oc, hov, _⟩ := h.out.len
  rw [← hkk.1] at hov
  subst hov
  have hge : decide (lim.i ≤ (y.out.length : Int)) = false := decide_eq_false hl
  have hwp := wrap1 p hp2
  have hwd := wrap1 dp (by omega)
  have hst := v_plain (d := d) hw (by rw [hcc]; decide) (by rw [hcc]; decide) (by rw [hcc]; decide) hl
  rw [hcc, plain_null, ← hR] at hst
  have HST := Px.hid hst
  have HO := Px.hid (fun (w : World) (vo : Value) (h : X6 w b s lim { y with out := y.out ++ [⟨0, 0, []⟩] } vo) => word6 b p s [110, 117, 108, 108] lim { y with out := y.out ++ [⟨0, 0, []⟩] } vo hc (Nat.le_of_lt hps) (by decide) w h)
  clear hst
  simp only [hcc] at hix
  have HI := Px.hid hci
  have HH := Px.hid (Run6.refl h)
  clear hci h hw hcc hl hfr hdl hkk hps hpb hR hc hmay hlen hdp
  go_enter Try.func30, Try.ntmps30
  go_wp2_with fail
  refine HI.out.mono ?_
  rintro e w1 ⟨rfl, h1, h2⟩
  have c0 := h1.c0
  obtain ⟨_, c1, c2, _⟩ := h1.rd.cells
  have c11 := h1.cell11
  have H1 := Px.hid (HH.out.it h1 h2)
  clear h1 h2
  go_wp2_with fail
  go_quiet (fail)
  obtain ⟨w2, hw2⟩ : ∃ w2, w2 = w1.drewN nq := ⟨_, rfl⟩
  rw [← hw2]
  have H2 := Px.hid (show Run6 w b s lim (.slice oa y.out.length oc) y w2 (.slice oa y.out.length oc) from by rw [hw2]; exact H1.out.drewN nq)
  clear c0 c1 c2 c11 hw2 H1 hge
  have c11 := H2.out.x.cell11
  have f11 := H2.out.x.rd.free 11
  have hbl := H2.out.x.lt
  have HOB := Px.hid H2.out.x.ob.ne
  obtain ⟨i0, hi0, hz0, hzz1, hz2⟩ := info_parts Try.infoVal
  go_wp2_with (at_builtin; go_must (refine wpList_append_lies _ rfl _ _ _ rfl 0 64 i0 _ 3 32 Try.underlying32 hi0 hz0 hzz1 hz2 rfl (by omega) _ y.out.length (y.out.flatMap cVal) rfl (H2.out.x.out.alloc _) ⟨w2.heap.size, 0, none⟩ 1 1 (cVal ⟨0, 0, []⟩) rfl rfl (World.news_of_block (cs := #[.int .i64 0, .int .i64 0, S []]) (t := 64) (fr := (0, 0)) (heap_alloc_new w2 _)) (by simp [cVal, Value.oneCell']) (by omega) (by unfold maxLen; omega) (by omega) (by omega) (w2.heap.size + 1) (by simp) ?_))
  intro gg cap w3 hown1 hgrow hat hltg
  have k11 := grown_cell1 hgrow c11 HOB.out
  have e11 := grown_free1 hgrow c11 f11 HOB.out
  have hd3 := H2.out.push hown1 (grown_alloc1 hgrow) (hat.elim .inl (fun e => .inr (by omega)))
  have H3 := Px.hid hd3
  clear hown1 hgrow hat hltg hd3 c11 f11 hi0 hz0 hzz1 hz2 hbl
  go_upto_region 29 with fail
  obtain ⟨w4, hw4⟩ : ∃ w4, w4 = w3.setCell ⟨b, 11, none⟩ (.slice (some ⟨gg, 0, none⟩) (y.out.length + 1) cap) := ⟨_, rfl⟩
  rw [← hw4]
  have HB := Px.hid (show Bgn w b s lim (.slice oa y.out.length oc) y w4 gg cap from ⟨by rw [hw4]; exact H3.out⟩)
  clear hw4 k11 e11 H3 H2 HOB
  obtain ⟨b11, b1, b2, bk, bf⟩ := HB.out.cells
  have H4 := Px.hid (HB.out.run)
  clear HB
  go_wp2_with fail
  refine (HO.out _ _ H4.out.x).mono ?_
  rintro e w5 ⟨rfl, h1, h2, _⟩
  have H5 := Px.hid (H4.out.it h1 h2)
  clear h1 h2
  obtain ⟨⟨o, z⟩, hres⟩ : ∃ r, R6.wordN s lim [110, 117, 108, 108] { y with out := y.out ++ [⟨0, 0, []⟩] } p = r := ⟨_, rfl⟩
  have HS := Px.hid (HST.out.trans hres)
  have H6 := Px.hid (show Did6 w b s lim (.slice oa y.out.length oc) z w5 from by have := H5.out; rw [hres] at this; exact this.did)
  rw [hres]
  clear hres H5 HST
  cases o with
  | none =>
    unfold tupV
    go_wp2
    go_ret2
    rw [HS.out]
    exact ⟨rfl, H6.out⟩
  | some q =>
    unfold tupV
    go_wp2
    go_ret2
    rw [HS.out]
    exact ⟨rfl, H6.out⟩

set_option maxRecDepth 100000 in
set_option maxHeartbeats 8000000 in
theorem val_str (b p dp d : Nat) (s : Bytes) (lim : Lim) (x y : R6.St) (vo : Value) (hc : Ctx s lim) (hw : R6.want s lim x p = (true, y)) (hcc : R6.at_ s p = 34) (hl : ¬ lim.i ≤ (y.out.length : Int)) (hfr : x.r.frames = dp) (hdl : ((dp + d : Nat) : Int) = lim.d) (w : World) (h : X6 w b s lim x vo) :
    Calls Try.prog 30 #[.pointer (some ⟨b, 0, none⟩), .int .i64 (p : Nat), .int .i64 (dp : Nat)] w fun r w' => r = .returned (tupV (R6.value s lim (d) x p).1) ∧ Did6 w b s lim vo (R6.value s lim (d) x p).2 w' := by
  obtain ⟨R, hR⟩ : ∃ R, R = R6.value s lim (d) x p := ⟨_, rfl⟩
  rw [← hR]
  have hmay := J6.may_of hc.may
  have hlen := hc.len
  obtain ⟨hkk, hps, hpb⟩ := R6.want_ok hw
  have hp2 : p ≤ 1000000 := by omega
  have hdp : dp ≤ 32 := by omega
  have hol : y.out.length ≤ 4096 := by omega
  have hix := idx6 s p hps
  have hci := want6 b p s lim x vo hc (by omega) w h
  rw [hw] at hci
  obtain ⟨oa, oc, hov, _⟩ := h.out.len
  rw [← hkk.1] at hov
  subst hov
  have hge : decide (lim.i ≤ (y.out.length : Int)) = false := decide_eq_false hl
  have hwp := wrap1 p hp2
  have hwd := wrap1 dp (by omega)
  have hst := v_plain (d := d) hw (by rw [hcc]; decide) (by rw [hcc]; decide) (by rw [hcc]; decide) hl
  rw [hcc, plain_str, ← hR] at hst
  have HO := Px.hid (fun (w : World) (vo : Value) (h : X6 w b s lim { y with out := y.out ++ [⟨4, 0, []⟩] } vo) => text6 b p s lim { y with out := y.out ++ [⟨4, 0, []⟩] } vo hc hps w h)
  have hto := fun o z => text_out (s := s) (lim := lim) (x := { y with out := y.out ++ [⟨4, 0, []⟩] }) (p := p) (o := o) (y := z)
  obtain ⟨⟨o, z⟩, hres⟩ : ∃ r, R6.text s lim { y with out := y.out ++ [⟨4, 0, []⟩] } p = r := ⟨_, rfl⟩
  have hto := hto o z hres
  rw [hres] at hst
  simp only [hres] at HO
  have HST := Px.hid hst
  have HZO := Px.hid hto
  clear hst hres hto
  simp only [hcc] at hix
  have HI := Px.hid hci
  have HH := Px.hid (Run6.refl h)
  clear hci h hw hcc hl hfr hdl hkk hps hpb hR hc hmay hlen hdp
  go_enter Try.func30, Try.ntmps30
  go_wp2_with fail
  refine HI.out.mono ?_
  rintro e w1 ⟨rfl, h1, h2⟩
  have c0 := h1.c0
  obtain ⟨_, c1, c2, _⟩ := h1.rd.cells
  have c11 := h1.cell11
  have H1 := Px.hid (HH.out.it h1 h2)
  clear h1 h2
  go_wp2_with fail
  go_quiet (fail)
  obtain ⟨w2, hw2⟩ : ∃ w2, w2 = w1.drewN nq := ⟨_, rfl⟩
  rw [← hw2]
  have H2 := Px.hid (show Run6 w b s lim (.slice oa y.out.length oc) y w2 (.slice oa y.out.length oc) from by rw [hw2]; exact H1.out.drewN nq)
  clear c0 c1 c2 c11 hw2 H1 hge
  have c11 := H2.out.x.cell11
  have f11 := H2.out.x.rd.free 11
  have hbl := H2.out.x.lt
  have HOB := Px.hid H2.out.x.ob.ne
  obtain ⟨i0, hi0, hz0, hzz1, hz2⟩ := info_parts Try.infoVal
  go_wp2_with (at_builtin; go_must (refine wpList_append_lies _ rfl _ _ _ rfl 0 64 i0 _ 3 32 Try.underlying32 hi0 hz0 hzz1 hz2 rfl (by omega) _ y.out.length (y.out.flatMap cVal) rfl (H2.out.x.out.alloc _) ⟨w2.heap.size, 0, none⟩ 1 1 (cVal ⟨0, 0, []⟩) rfl rfl (World.news_of_block (cs := #[.int .i64 0, .int .i64 0, S []]) (t := 64) (fr := (0, 0)) (heap_alloc_new w2 _)) (by simp [cVal, Value.oneCell']) (by omega) (by unfold maxLen; omega) (by omega) (by omega) (w2.heap.size + 1) (by simp) ?_))
  intro gg cap w3 hown1 hgrow hat hltg
  have k11 := grown_cell1 hgrow c11 HOB.out
  have e11 := grown_free1 hgrow c11 f11 HOB.out
  have hd3 := H2.out.push hown1 (grown_alloc1 hgrow) (hat.elim .inl (fun e => .inr (by omega)))
  have H3 := Px.hid hd3
  clear hown1 hgrow hat hltg hd3 c11 f11 hi0 hz0 hzz1 hz2 hbl
  go_upto_region 18 with fail
  obtain ⟨w4, hw4⟩ : ∃ w4, w4 = w3.setCell ⟨b, 11, none⟩ (.slice (some ⟨gg, 0, none⟩) (y.out.length + 1) cap) := ⟨_, rfl⟩
  rw [← hw4]
  have HB := Px.hid (show Bgn w b s lim (.slice oa y.out.length oc) y w4 gg cap from ⟨by rw [hw4]; exact H3.out⟩)
  clear hw4 k11 e11 H3 H2 HOB
  obtain ⟨b11, b1, b2, bk, bf⟩ := HB.out.cells
  have H4 := Px.hid (HB.out.kind 4)
  clear HB
  go_wp2_with fail
  refine (HO.out _ _ H4.out.x).mono ?_
  rintro e w5 ⟨rfl, h1, h2, _⟩
  have H5 := Px.hid (H4.out.it h1 h2)
  clear h1 h2
  clear b11 b1 b2 bk bf
  obtain ⟨_, b11, b1, b2, bk, bf, hput⟩ := H5.out.last HZO.out
  have HP := Px.hid hput
  clear hput H4
  cases o with
  | none =>
    have HS := Px.hid (show R = (none, z) from HST.out)
    have HQ := Px.hid (show Did6 w b s lim (.slice oa y.out.length oc) z (w5.setCell ⟨gg, y.out.length * 3 + 2, none⟩ (S [])) from by
      have := (HP.out []).did
      rw [show ({ z with out := y.out ++ [{ (⟨4, 0, []⟩ : Val) with text := [] }] } : R6.St) = z by rw [← HZO.out]] at this
      exact this)
    unfold escV
    go_wp2
    go_ret2
    rw [HS.out]
    exact ⟨rfl, HQ.out⟩
  | some v =>
    obtain ⟨t, q⟩ := v
    have HS := Px.hid (show R = (some q, { z with out := y.out ++ [⟨4, 0, t⟩] }) from by
      have := HST.out
      simp only at this
      rw [this, HZO.out, R6.setText_mid])
    have HQ := Px.hid (HP.out t).did
    unfold escV
    go_wp2
    go_ret2
    rw [HS.out]
    exact ⟨rfl, HQ.out⟩

end Go.Proofs.Ytahojodgmjmpnaa

/-! The walk over the reference's value, layer 16: limits and faults. -/
namespace Go.Proofs.Ytahojodgmjmpnaa
open Go.RowKit Go.Px


set_option maxRecDepth 100000 in
set_option maxHeartbeats 4000000 in
theorem full_obj (b p dp d : Nat) (s : Bytes) (lim : Lim) (x y : R6.St) (vo : Value) (hc : Ctx s lim) (hw : R6.want s lim x p = (true, y)) (hcc : R6.at_ s p = 123) (hl : lim.i ≤ (y.out.length : Int)) (w : World) (h : X6 w b s lim x vo) :
    Calls Try.prog 30 #[.pointer (some ⟨b, 0, none⟩), .int .i64 (p : Nat), .int .i64 (dp : Nat)] w fun r w' => r = .returned (tupV (R6.value s lim d x p).1) ∧ Did6 w b s lim vo (R6.value s lim d x p).2 w' := by
  obtain ⟨R, hR⟩ : ∃ R, R = R6.value s lim d x p := ⟨_, rfl⟩
  rw [← hR]
  have hmay := J6.may_of hc.may
  have hlen := hc.len
  obtain ⟨hkk, hps, hpb⟩ := R6.want_ok hw
  have hix := idx6 s p hps
  have hci := want6 b p s lim x vo hc (by omega) w h
  rw [hw] at hci
  obtain ⟨oa, oc, hov, _⟩ := h.out.len
  rw [← hkk.1] at hov
  subst hov
  have hst := v_lim (d := d) hw (by rw [hcc]; decide) (.inl hl)
  have hge : decide (lim.i ≤ (y.out.length : Int)) = true := decide_eq_true hl
  rw [← hR] at hst
  have HST := Px.hid hst
  simp only [hcc] at hix
  have HI := Px.hid hci
  have HH := Px.hid (Run6.refl h)
  clear hci h hw hcc hkk hps hpb hR hc hmay hlen hst hl
  go_enter Try.func30, Try.ntmps30
  go_wp2_with fail
  refine HI.out.mono ?_
  rintro e w1 ⟨rfl, h1, h2⟩
  have c0 := h1.c0
  obtain ⟨_, c1, c2, _⟩ := h1.rd.cells
  have c11 := h1.cell11
  have H1 := Px.hid (HH.out.it h1 h2)
  clear h1 h2
  go_wp2_with fail
  go_quiet (fail)
  go_wp2_with fail
  refine (fault6 b p 10 s lim y _ _ (H1.out.x.drewN nq)).mono ?_
  rintro e w2 ⟨rfl, h1, h2⟩
  have H2 := Px.hid ((H1.out.drewN nq).it h1 h2)
  clear h1 h2
  go_wp2
  go_ret2
  rw [HST.out]
  exact ⟨rfl, H2.out.did⟩

set_option maxRecDepth 100000 in
set_option maxHeartbeats 4000000 in
theorem full_arr (b p dp d : Nat) (s : Bytes) (lim : Lim) (x y : R6.St) (vo : Value) (hc : Ctx s lim) (hw : R6.want s lim x p = (true, y)) (hcc : R6.at_ s p = 91) (hl : lim.i ≤ (y.out.length : Int)) (w : World) (h : X6 w b s lim x vo) :
    Calls Try.prog 30 #[.pointer (some ⟨b, 0, none⟩), .int .i64 (p : Nat), .int .i64 (dp : Nat)] w fun r w' => r = .returned (tupV (R6.value s lim d x p).1) ∧ Did6 w b s lim vo (R6.value s lim d x p).2 w' := by
  obtain ⟨R, hR⟩ : ∃ R, R = R6.value s lim d x p := ⟨_, rfl⟩
  rw [← hR]
  have hmay := J6.may_of hc.may
  have hlen := hc.len
  obtain ⟨hkk, hps, hpb⟩ := R6.want_ok hw
  have hix := idx6 s p hps
  have hci := want6 b p s lim x vo hc (by omega) w h
  rw [hw] at hci
  obtain ⟨oa, oc, hov, _⟩ := h.out.len
  rw [← hkk.1] at hov
  subst hov
  have hst := v_lim (d := d) hw (by rw [hcc]; decide) (.inl hl)
  have hge : decide (lim.i ≤ (y.out.length : Int)) = true := decide_eq_true hl
  rw [← hR] at hst
  have HST := Px.hid hst
  simp only [hcc] at hix
  have HI := Px.hid hci
  have HH := Px.hid (Run6.refl h)
  clear hci h hw hcc hkk hps hpb hR hc hmay hlen hst hl
  go_enter Try.func30, Try.ntmps30
  go_wp2_with fail
  refine HI.out.mono ?_
  rintro e w1 ⟨rfl, h1, h2⟩
  have c0 := h1.c0
  obtain ⟨_, c1, c2, _⟩ := h1.rd.cells
  have c11 := h1.cell11
  have H1 := Px.hid (HH.out.it h1 h2)
  clear h1 h2
  go_wp2_with fail
  go_quiet (fail)
  go_wp2_with fail
  refine (fault6 b p 10 s lim y _ _ (H1.out.x.drewN nq)).mono ?_
  rintro e w2 ⟨rfl, h1, h2⟩
  have H2 := Px.hid ((H1.out.drewN nq).it h1 h2)
  clear h1 h2
  go_wp2
  go_ret2
  rw [HST.out]
  exact ⟨rfl, H2.out.did⟩

set_option maxRecDepth 100000 in
set_option maxHeartbeats 4000000 in
theorem full_str (b p dp d : Nat) (s : Bytes) (lim : Lim) (x y : R6.St) (vo : Value) (hc : Ctx s lim) (hw : R6.want s lim x p = (true, y)) (hcc : R6.at_ s p = 34) (hl : lim.i ≤ (y.out.length : Int)) (w : World) (h : X6 w b s lim x vo) :
    Calls Try.prog 30 #[.pointer (some ⟨b, 0, none⟩), .int .i64 (p : Nat), .int .i64 (dp : Nat)] w fun r w' => r = .returned (tupV (R6.value s lim d x p).1) ∧ Did6 w b s lim vo (R6.value s lim d x p).2 w' := by
  obtain ⟨R, hR⟩ : ∃ R, R = R6.value s lim d x p := ⟨_, rfl⟩
  rw [← hR]
  have hmay := J6.may_of hc.may
  have hlen := hc.len
  obtain ⟨hkk, hps, hpb⟩ := R6.want_ok hw
  have hix := idx6 s p hps
  have hci := want6 b p s lim x vo hc (by omega) w h
  rw [hw] at hci
  obtain ⟨oa, oc, hov, _⟩ := h.out.len
  rw [← hkk.1] at hov
  subst hov
  have hst := v_lim (d := d) hw (by rw [hcc]; decide) (.inl hl)
  have hge : decide (lim.i ≤ (y.out.length : Int)) = true := decide_eq_true hl
  rw [← hR] at hst
  have HST := Px.hid hst
  simp only [hcc] at hix
  have HI := Px.hid hci
  have HH := Px.hid (Run6.refl h)
  clear hci h hw hcc hkk hps hpb hR hc hmay hlen hst hl
  go_enter Try.func30, Try.ntmps30
  go_wp2_with fail
  refine HI.out.mono ?_
  rintro e w1 ⟨rfl, h1, h2⟩
  have c0 := h1.c0
  obtain ⟨_, c1, c2, _⟩ := h1.rd.cells
  have c11 := h1.cell11
  have H1 := Px.hid (HH.out.it h1 h2)
  clear h1 h2
  go_wp2_with fail
  go_quiet (fail)
  go_wp2_with fail
  refine (fault6 b p 10 s lim y _ _ (H1.out.x.drewN nq)).mono ?_
  rintro e w2 ⟨rfl, h1, h2⟩
  have H2 := Px.hid ((H1.out.drewN nq).it h1 h2)
  clear h1 h2
  go_wp2
  go_ret2
  rw [HST.out]
  exact ⟨rfl, H2.out.did⟩

set_option maxRecDepth 100000 in
set_option maxHeartbeats 4000000 in
theorem full_min (b p dp d : Nat) (s : Bytes) (lim : Lim) (x y : R6.St) (vo : Value) (hc : Ctx s lim) (hw : R6.want s lim x p = (true, y)) (hcc : R6.at_ s p = 45) (hl : lim.i ≤ (y.out.length : Int)) (w : World) (h : X6 w b s lim x vo) :
    Calls Try.prog 30 #[.pointer (some ⟨b, 0, none⟩), .int .i64 (p : Nat), .int .i64 (dp : Nat)] w fun r w' => r = .returned (tupV (R6.value s lim d x p).1) ∧ Did6 w b s lim vo (R6.value s lim d x p).2 w' := by
  obtain ⟨R, hR⟩ : ∃ R, R = R6.value s lim d x p := ⟨_, rfl⟩
  rw [← hR]
  have hmay := J6.may_of hc.may
  have hlen := hc.len
  obtain ⟨hkk, hps, hpb⟩ := R6.want_ok hw
  have hix := idx6 s p hps
  have hci := want6 b p s lim x vo hc (by omega) w h
  rw [hw] at hci
  obtain ⟨oa, oc, hov, _⟩ := h.out.len
  rw [← hkk.1] at hov
  subst hov
  have hst := v_lim (d := d) hw (by rw [hcc]; decide) (.inl hl)
  have hge : decide (lim.i ≤ (y.out.length : Int)) = true := decide_eq_true hl
  rw [← hR] at hst
  have HST := Px.hid hst
  simp only [hcc] at hix
  have HI := Px.hid hci
  have HH := Px.hid (Run6.refl h)
  clear hci h hw hcc hkk hps hpb hR hc hmay hlen hst hl
  go_enter Try.func30, Try.ntmps30
  go_wp2_with fail
  refine HI.out.mono ?_
  rintro e w1 ⟨rfl, h1, h2⟩
  have c0 := h1.c0
  obtain ⟨_, c1, c2, _⟩ := h1.rd.cells
  have c11 := h1.cell11
  have H1 := Px.hid (HH.out.it h1 h2)
  clear h1 h2
  go_wp2_with fail
  go_quiet (fail)
  go_wp2_with fail
  refine (fault6 b p 10 s lim y _ _ (H1.out.x.drewN nq)).mono ?_
  rintro e w2 ⟨rfl, h1, h2⟩
  have H2 := Px.hid ((H1.out.drewN nq).it h1 h2)
  clear h1 h2
  go_wp2
  go_ret2
  rw [HST.out]
  exact ⟨rfl, H2.out.did⟩

set_option maxRecDepth 100000 in
set_option maxHeartbeats 4000000 in
theorem full_true (b p dp d : Nat) (s : Bytes) (lim : Lim) (x y : R6.St) (vo : Value) (hc : Ctx s lim) (hw : R6.want s lim x p = (true, y)) (hcc : R6.at_ s p = 116) (hl : lim.i ≤ (y.out.length : Int)) (w : World) (h : X6 w b s lim x vo) :
    Calls Try.prog 30 #[.pointer (some ⟨b, 0, none⟩), .int .i64 (p : Nat), .int .i64 (dp : Nat)] w fun r w' => r = .returned (tupV (R6.value s lim d x p).1) ∧ Did6 w b s lim vo (R6.value s lim d x p).2 w' := by
  obtain ⟨R, hR⟩ : ∃ R, R = R6.value s lim d x p := ⟨_, rfl⟩
  rw [← hR]
  have hmay := J6.may_of hc.may
  have hlen := hc.len
  obtain ⟨hkk, hps, hpb⟩ := R6.want_ok hw
  have hix := idx6 s p hps
  have hci := want6 b p s lim x vo hc (by omega) w h
  rw [hw] at hci
  obtain ⟨oa, oc, hov, _⟩ := h.out.len
  rw [← hkk.1] at hov
  subst hov
  have hst := v_lim (d := d) hw (by rw [hcc]; decide) (.inl hl)
  have hge : decide (lim.i ≤ (y.out.length : Int)) = true := decide_eq_true hl
  rw [← hR] at hst
  have HST := Px.hid hst
  simp only [hcc] at hix
  have HI := Px.hid hci
  have HH := Px.hid (Run6.refl h)
  clear hci h hw hcc hkk hps hpb hR hc hmay hlen hst hl
  go_enter Try.func30, Try.ntmps30
  go_wp2_with fail
  refine HI.out.mono ?_
  rintro e w1 ⟨rfl, h1, h2⟩
  have c0 := h1.c0
  obtain ⟨_, c1, c2, _⟩ := h1.rd.cells
  have c11 := h1.cell11
  have H1 := Px.hid (HH.out.it h1 h2)
  clear h1 h2
  go_wp2_with fail
  go_quiet (fail)
  go_wp2_with fail
  refine (fault6 b p 10 s lim y _ _ (H1.out.x.drewN nq)).mono ?_
  rintro e w2 ⟨rfl, h1, h2⟩
  have H2 := Px.hid ((H1.out.drewN nq).it h1 h2)
  clear h1 h2
  go_wp2
  go_ret2
  rw [HST.out]
  exact ⟨rfl, H2.out.did⟩

set_option maxRecDepth 100000 in
set_option maxHeartbeats 4000000 in
theorem full_false (b p dp d : Nat) (s : Bytes) (lim : Lim) (x y : R6.St) (vo : Value) (hc : Ctx s lim) (hw : R6.want s lim x p = (true, y)) (hcc : R6.at_ s p = 102) (hl : lim.i ≤ (y.out.length : Int)) (w : World) (h : X6 w b s lim x vo) :
    Calls Try.prog 30 #[.pointer (some ⟨b, 0, none⟩), .int .i64 (p : Nat), .int .i64 (dp : Nat)] w fun r w' => r = .returned (tupV (R6.value s lim d x p).1) ∧ Did6 w b s lim vo (R6.value s lim d x p).2 w' := by
  obtain ⟨R, hR⟩ : ∃ R, R = R6.value s lim d x p := ⟨_, rfl⟩
  rw [← hR]
  have hmay := J6.may_of hc.may
  have hlen := hc.len
  obtain ⟨hkk, hps, hpb⟩ := R6.want_ok hw
  have hix := idx6 s p hps
  have hci := want6 b p s lim x vo hc (by omega) w h
  rw [hw] at hci
  obtain ⟨oa, oc, hov, _⟩ := h.out.len
  rw [← hkk.1] at hov
  subst hov
  have hst := v_lim (d := d) hw (by rw [hcc]; decide) (.inl hl)
  have hge : decide (lim.i ≤ (y.out.length : Int)) = true := decide_eq_true hl
  rw [← hR] at hst
  have HST := Px.hid hst
  simp only [hcc] at hix
  have HI := Px.hid hci
  have HH := Px.hid (Run6.refl h)
  clear hci h hw hcc hkk hps hpb hR hc hmay hlen hst hl
  go_enter Try.func30, Try.ntmps30
  go_wp2_with fail
  refine HI.out.mono ?_
  rintro e w1 ⟨rfl, h1, h2⟩
  have c0 := h1.c0
  obtain ⟨_, c1, c2, _⟩ := h1.rd.cells
  have c11 := h1.cell11
  have H1 := Px.hid (HH.out.it h1 h2)
  clear h1 h2
  go_wp2_with fail
  go_quiet (fail)
  go_wp2_with fail
  refine (fault6 b p 10 s lim y _ _ (H1.out.x.drewN nq)).mono ?_
  rintro e w2 ⟨rfl, h1, h2⟩
  have H2 := Px.hid ((H1.out.drewN nq).it h1 h2)
  clear h1 h2
  go_wp2
  go_ret2
  rw [HST.out]
  exact ⟨rfl, H2.out.did⟩

set_option maxRecDepth 100000 in
set_option maxHeartbeats 4000000 in
theorem full_null (b p dp d : Nat) (s : Bytes) (lim : Lim) (x y : R6.St) (vo : Value) (hc : Ctx s lim) (hw : R6.want s lim x p = (true, y)) (hcc : R6.at_ s p = 110) (hl : lim.i ≤ (y.out.length : Int)) (w : World) (h : X6 w b s lim x vo) :
    Calls Try.prog 30 #[.pointer (some ⟨b, 0, none⟩), .int .i64 (p : Nat), .int .i64 (dp : Nat)] w fun r w' => r = .returned (tupV (R6.value s lim d x p).1) ∧ Did6 w b s lim vo (R6.value s lim d x p).2 w' := by
  obtain ⟨R, hR⟩ : ∃ R, R = R6.value s lim d x p := ⟨_, rfl⟩
  rw [← hR]
  have hmay := J6.may_of hc.may
  have hlen := hc.len
  obtain ⟨hkk, hps, hpb⟩ := R6.want_ok hw
  have hix := idx6 s p hps
  have hci := want6 b p s lim x vo hc (by omega) w h
  rw [hw] at hci
  obtain ⟨oa, oc, hov, _⟩ := h.out.len
  rw [← hkk.1] at hov
  subst hov
  have hst := v_lim (d := d) hw (by rw [hcc]; decide) (.inl hl)
  have hge : decide (lim.i ≤ (y.out.length : Int)) = true := decide_eq_true hl
  rw [← hR] at hst
  have HST := Px.hid hst
  simp only [hcc] at hix
  have HI := Px.hid hci
  have HH := Px.hid (Run6.refl h)
  clear hci h hw hcc hkk hps hpb hR hc hmay hlen hst hl
  go_enter Try.func30, Try.ntmps30
  go_wp2_with fail
  refine HI.out.mono ?_
  rintro e w1 ⟨rfl, h1, h2⟩
  have c0 := h1.c0
  obtain ⟨_, c1, c2, _⟩ := h1.rd.cells
  have c11 := h1.cell11
  have H1 := Px.hid (HH.out.it h1 h2)
  clear h1 h2
  go_wp2_with fail
  go_quiet (fail)
  go_wp2_with fail
  refine (fault6 b p 10 s lim y _ _ (H1.out.x.drewN nq)).mono ?_
  rintro e w2 ⟨rfl, h1, h2⟩
  have H2 := Px.hid ((H1.out.drewN nq).it h1 h2)
  clear h1 h2
  go_wp2
  go_ret2
  rw [HST.out]
  exact ⟨rfl, H2.out.did⟩

set_option maxRecDepth 100000 in
set_option maxHeartbeats 4000000 in
theorem full_dig (b p dp d c : Nat) (s : Bytes) (lim : Lim) (x y : R6.St) (vo : Value) (hc : Ctx s lim) (hw : R6.want s lim x p = (true, y)) (hcc : R6.at_ s p = c) (hl : lim.i ≤ (y.out.length : Int)) (hdc : R6.digit c = true) (w : World) (h : X6 w b s lim x vo) :
    Calls Try.prog 30 #[.pointer (some ⟨b, 0, none⟩), .int .i64 (p : Nat), .int .i64 (dp : Nat)] w fun r w' => r = .returned (tupV (R6.value s lim d x p).1) ∧ Did6 w b s lim vo (R6.value s lim d x p).2 w' := by
  obtain ⟨R, hR⟩ : ∃ R, R = R6.value s lim d x p := ⟨_, rfl⟩
  rw [← hR]
  have hmay := J6.may_of hc.may
  have hlen := hc.len
  obtain ⟨hkk, hps, hpb⟩ := R6.want_ok hw
  have hix := idx6 s p hps
  have hci := want6 b p s lim x vo hc (by omega) w h
  rw [hw] at hci
  obtain ⟨oa, oc, hov, _⟩ := h.out.len
  rw [← hkk.1] at hov
  subst hov
  have hst := v_lim (d := d) hw (by rw [hcc]; unfold R6.firsts; rw [hdc]; simp) (.inl hl)
  have hge : decide (lim.i ≤ (y.out.length : Int)) = true := decide_eq_true hl
  rw [← hR] at hst
  have HST := Px.hid hst
  simp only [hcc] at hix
  have hdb : 48 ≤ c ∧ c ≤ 57 := by unfold R6.digit at hdc; simpa using hdc
  have HD := Px.hid (fun w => digit6 c w)
  simp only [hdc] at HD
  have ne123 : ((c : Int) != 123) = true := by simp; omega
  have eq123 : ((c : Int) == 123) = false := by simp; omega
  have ne91 : ((c : Int) != 91) = true := by simp; omega
  have eq91 : ((c : Int) == 91) = false := by simp; omega
  have ne34 : ((c : Int) != 34) = true := by simp; omega
  have ne45 : ((c : Int) != 45) = true := by simp; omega
  have ne116 : ((c : Int) != 116) = true := by simp; omega
  have ne102 : ((c : Int) != 102) = true := by simp; omega
  have ne110 : ((c : Int) != 110) = true := by simp; omega
  have HI := Px.hid hci
  have HH := Px.hid (Run6.refl h)
  clear hci h hw hcc hkk hps hpb hR hc hmay hlen hst hl hdc hdb
  go_enter Try.func30, Try.ntmps30
  go_wp2_with fail
  refine HI.out.mono ?_
  rintro e w1 ⟨rfl, h1, h2⟩
  have c0 := h1.c0
  obtain ⟨_, c1, c2, _⟩ := h1.rd.cells
  have c11 := h1.cell11
  have H1 := Px.hid (HH.out.it h1 h2)
  clear h1 h2
  go_wp2_with fail
  refine (HD.out _).mono ?_
  rintro e w1b ⟨rfl, rfl⟩
  go_wp2_with fail
  go_quiet (fail)
  go_wp2_with fail
  refine (fault6 b p 10 s lim y _ _ (H1.out.x.drewN nq)).mono ?_
  rintro e w2 ⟨rfl, h1, h2⟩
  have H2 := Px.hid ((H1.out.drewN nq).it h1 h2)
  clear h1 h2
  go_wp2
  go_ret2
  rw [HST.out]
  exact ⟨rfl, H2.out.did⟩

set_option maxRecDepth 100000 in
set_option maxHeartbeats 4000000 in
theorem deep_obj (b p dp d : Nat) (s : Bytes) (lim : Lim) (x y : R6.St) (vo : Value) (hc : Ctx s lim) (hw : R6.want s lim x p = (true, y)) (hcc : R6.at_ s p = 123) (hl : ¬ lim.i ≤ (y.out.length : Int)) (hdd : d = 0) (hdl : ((dp + d : Nat) : Int) = lim.d) (w : World) (h : X6 w b s lim x vo) :
    Calls Try.prog 30 #[.pointer (some ⟨b, 0, none⟩), .int .i64 (p : Nat), .int .i64 (dp : Nat)] w fun r w' => r = .returned (tupV (R6.value s lim d x p).1) ∧ Did6 w b s lim vo (R6.value s lim d x p).2 w' := by
  obtain ⟨R, hR⟩ : ∃ R, R = R6.value s lim d x p := ⟨_, rfl⟩
  rw [← hR]
  have hmay := J6.may_of hc.may
  have hlen := hc.len
  obtain ⟨hkk, hps, hpb⟩ := R6.want_ok hw
  have hix := idx6 s p hps
  have hci := want6 b p s lim x vo hc (by omega) w h
  rw [hw] at hci
  obtain ⟨oa, oc, hov, _⟩ := h.out.len
  rw [← hkk.1] at hov
  subst hov
  have hst := v_lim (d := d) hw (by rw [hcc]; decide) (.inr ⟨hdd, by rw [hcc]; simp⟩)
  have hge : decide (lim.i ≤ (y.out.length : Int)) = false := decide_eq_false hl
  have hgd : decide (lim.d ≤ (dp : Int)) = true := by simp; omega
  rw [← hR] at hst
  have HST := Px.hid hst
  simp only [hcc] at hix
  have HI := Px.hid hci
  have HH := Px.hid (Run6.refl h)
  clear hci h hw hcc hkk hps hpb hR hc hmay hlen hst hl hdl hdd
  go_enter Try.func30, Try.ntmps30
  go_wp2_with fail
  refine HI.out.mono ?_
  rintro e w1 ⟨rfl, h1, h2⟩
  have c0 := h1.c0
  obtain ⟨_, c1, c2, _⟩ := h1.rd.cells
  have c11 := h1.cell11
  have H1 := Px.hid (HH.out.it h1 h2)
  clear h1 h2
  go_wp2_with fail
  go_quiet (fail)
  go_wp2_with fail
  refine (fault6 b p 10 s lim y _ _ (H1.out.x.drewN nq)).mono ?_
  rintro e w2 ⟨rfl, h1, h2⟩
  have H2 := Px.hid ((H1.out.drewN nq).it h1 h2)
  clear h1 h2
  go_wp2
  go_ret2
  rw [HST.out]
  exact ⟨rfl, H2.out.did⟩

set_option maxRecDepth 100000 in
set_option maxHeartbeats 4000000 in
theorem deep_arr (b p dp d : Nat) (s : Bytes) (lim : Lim) (x y : R6.St) (vo : Value) (hc : Ctx s lim) (hw : R6.want s lim x p = (true, y)) (hcc : R6.at_ s p = 91) (hl : ¬ lim.i ≤ (y.out.length : Int)) (hdd : d = 0) (hdl : ((dp + d : Nat) : Int) = lim.d) (w : World) (h : X6 w b s lim x vo) :
    Calls Try.prog 30 #[.pointer (some ⟨b, 0, none⟩), .int .i64 (p : Nat), .int .i64 (dp : Nat)] w fun r w' => r = .returned (tupV (R6.value s lim d x p).1) ∧ Did6 w b s lim vo (R6.value s lim d x p).2 w' := by
  obtain ⟨R, hR⟩ : ∃ R, R = R6.value s lim d x p := ⟨_, rfl⟩
  rw [← hR]
  have hmay := J6.may_of hc.may
  have hlen := hc.len
  obtain ⟨hkk, hps, hpb⟩ := R6.want_ok hw
  have hix := idx6 s p hps
  have hci := want6 b p s lim x vo hc (by omega) w h
  rw [hw] at hci
  obtain ⟨oa, oc, hov, _⟩ := h.out.len
  rw [← hkk.1] at hov
  subst hov
  have hst := v_lim (d := d) hw (by rw [hcc]; decide) (.inr ⟨hdd, by rw [hcc]; simp⟩)
  have hge : decide (lim.i ≤ (y.out.length : Int)) = false := decide_eq_false hl
  have hgd : decide (lim.d ≤ (dp : Int)) = true := by simp; omega
  rw [← hR] at hst
  have HST := Px.hid hst
  simp only [hcc] at hix
  have HI := Px.hid hci
  have HH := Px.hid (Run6.refl h)
  clear hci h hw hcc hkk hps hpb hR hc hmay hlen hst hl hdl hdd
  go_enter Try.func30, Try.ntmps30
  go_wp2_with fail
  refine HI.out.mono ?_
  rintro e w1 ⟨rfl, h1, h2⟩
  have c0 := h1.c0
  obtain ⟨_, c1, c2, _⟩ := h1.rd.cells
  have c11 := h1.cell11
  have H1 := Px.hid (HH.out.it h1 h2)
  clear h1 h2
  go_wp2_with fail
  go_quiet (fail)
  go_wp2_with fail
  refine (fault6 b p 10 s lim y _ _ (H1.out.x.drewN nq)).mono ?_
  rintro e w2 ⟨rfl, h1, h2⟩
  have H2 := Px.hid ((H1.out.drewN nq).it h1 h2)
  clear h1 h2
  go_wp2
  go_ret2
  rw [HST.out]
  exact ⟨rfl, H2.out.did⟩

set_option maxRecDepth 100000 in
set_option maxHeartbeats 4000000 in
theorem val_bad (b p dp d c : Nat) (s : Bytes) (lim : Lim) (x y : R6.St) (vo : Value) (hc : Ctx s lim) (hw : R6.want s lim x p = (true, y)) (hcc : R6.at_ s p = c) (hfs : R6.firsts c = false) (w : World) (h : X6 w b s lim x vo) :
    Calls Try.prog 30 #[.pointer (some ⟨b, 0, none⟩), .int .i64 (p : Nat), .int .i64 (dp : Nat)] w fun r w' => r = .returned (tupV (R6.value s lim d x p).1) ∧ Did6 w b s lim vo (R6.value s lim d x p).2 w' := by
  obtain ⟨R, hR⟩ : ∃ R, R = R6.value s lim d x p := ⟨_, rfl⟩
  rw [← hR]
  have hmay := J6.may_of hc.may
  have hlen := hc.len
  obtain ⟨hkk, hps, hpb⟩ := R6.want_ok hw
  have hix := idx6 s p hps
  have hci := want6 b p s lim x vo hc (by omega) w h
  rw [hw] at hci
  obtain ⟨oa, oc, hov, _⟩ := h.out.len
  rw [← hkk.1] at hov
  subst hov
  have hst := v_first (d := d) hw (by rw [hcc]; exact hfs)
  rw [← hR] at hst
  have HST := Px.hid hst
  simp only [hcc] at hix
  unfold R6.firsts at hfs
  simp only [Bool.or_eq_false_iff, beq_eq_false_iff_ne] at hfs
  obtain ⟨⟨⟨⟨⟨⟨⟨n1, n2⟩, n3⟩, n4⟩, n5⟩, n6⟩, n7⟩, hdc⟩ := hfs
  have HD := Px.hid (fun w => digit6 c w)
  simp only [hdc] at HD
  have ne123 : ((c : Int) != 123) = true := by simp; omega
  have ne91 : ((c : Int) != 91) = true := by simp; omega
  have ne34 : ((c : Int) != 34) = true := by simp; omega
  have ne45 : ((c : Int) != 45) = true := by simp; omega
  have ne116 : ((c : Int) != 116) = true := by simp; omega
  have ne102 : ((c : Int) != 102) = true := by simp; omega
  have ne110 : ((c : Int) != 110) = true := by simp; omega
  have HI := Px.hid hci
  have HH := Px.hid (Run6.refl h)
  clear hci h hw hcc hkk hps hpb hR hc hmay hlen hst hdc n1 n2 n3 n4 n5 n6 n7
  go_enter Try.func30, Try.ntmps30
  go_wp2_with fail
  refine HI.out.mono ?_
  rintro e w1 ⟨rfl, h1, h2⟩
  have c0 := h1.c0
  obtain ⟨_, c1, c2, _⟩ := h1.rd.cells
  have c11 := h1.cell11
  have H1 := Px.hid (HH.out.it h1 h2)
  clear h1 h2
  go_wp2_with fail
  refine (HD.out _).mono ?_
  rintro e w1b ⟨rfl, rfl⟩
  go_wp2_with fail
  refine (fault6 b p 9 s lim y _ _ H1.out.x).mono ?_
  rintro e w2 ⟨rfl, h1, h2⟩
  have H2 := Px.hid (H1.out.it h1 h2)
  clear h1 h2
  go_wp2
  go_ret2
  rw [HST.out]
  exact ⟨rfl, H2.out.did⟩

set_option maxRecDepth 100000 in
theorem val_no (b p dp d : Nat) (s : Bytes) (lim : Lim) (x y : R6.St) (vo : Value) (hc : Ctx s lim) (hp : p ≤ s.length) (hw : R6.want s lim x p = (false, y)) (w : World) (h : X6 w b s lim x vo) :
    Calls Try.prog 30 #[.pointer (some ⟨b, 0, none⟩), .int .i64 (p : Nat), .int .i64 (dp : Nat)] w fun r w' => r = .returned (tupV (R6.value s lim d x p).1) ∧ Did6 w b s lim vo (R6.value s lim d x p).2 w' := by
  have hlen := hc.len
  have hci := want6 b p s lim x vo hc (by omega) w h
  rw [hw] at hci
  rw [v_no (d := d) hw]
  have HI := Px.hid hci
  have HH := Px.hid (Run6.refl h)
  clear hci h hw hc hlen hp
  go_enter Try.func30, Try.ntmps30
  go_wp2_with fail
  refine HI.out.mono ?_
  rintro e w1 ⟨rfl, h1, h2⟩
  have H1 := Px.hid (HH.out.it h1 h2)
  clear h1 h2
  go_wp2
  go_ret2
  exact ⟨rfl, H1.out.did⟩
end Go.Proofs.Ytahojodgmjmpnaa

/-! The walk over the reference's value, layer 16: numbers. -/
namespace Go.Proofs.Ytahojodgmjmpnaa
open Go.RowKit Go.Px


set_option maxRecDepth 100000 in
set_option maxHeartbeats 8000000 in
theorem val_min (b p dp d : Nat) (s : Bytes) (lim : Lim) (x y : R6.St) (vo : Value) (hc : Ctx s lim) (hw : R6.want s lim x p = (true, y)) (hcc : R6.at_ s p = 45) (hl : ¬ lim.i ≤ (y.out.length : Int)) (hfr : x.r.frames = dp) (hdl : ((dp + d : Nat) : Int) = lim.d) (w : World) (h : X6 w b s lim x vo) :
    Calls Try.prog 30 #[.pointer (some ⟨b, 0, none⟩), .int .i64 (p : Nat), .int .i64 (dp : Nat)] w fun r w' => r = .returned (tupV (R6.value s lim (d) x p).1) ∧ Did6 w b s lim vo (R6.value s lim (d) x p).2 w' := by
  obtain ⟨R, hR⟩ : ∃ R, R = R6.value s lim (d) x p := ⟨_, rfl⟩
  rw [← hR]
  have hmay := J6.may_of hc.may
  have hlen := hc.len
  obtain ⟨hkk, hps, hpb⟩ := R6.want_ok hw
  have hp2 : p ≤ 1000000 := by omega
  have hdp : dp ≤ 32 := by omega
  have hol : y.out.length ≤ 4096 := by omega
  have hix := idx6 s p hps
  have hci := want6 b p s lim x vo hc (by omega) w h
  rw [hw] at hci
  obtain ⟨oa, oc, hov, _⟩ := h.out.len
  rw [← hkk.1] at hov
  subst hov
  have hge : decide (lim.i ≤ (y.out.length : Int)) = false := decide_eq_false hl
  have hwp := wrap1 p hp2
  have hwd := wrap1 dp (by omega)
  have hst := v_plain (d := d) hw (by rw [hcc]; decide) (by rw [hcc]; decide) (by rw [hcc]; decide) hl
  rw [hcc, plain_num _ (by decide) (by decide) (by decide) (by decide), ← hR] at hst
  unfold R6.numVal at hst
  simp only at hst
  have hmb := hc.b
  obtain ⟨e, he⟩ : ∃ e, e = min s.length lim.b.toNat := ⟨_, rfl⟩
  rw [← he] at hst
  have hnl : p + (R6.number ((s.take e).drop p)).1 ≤ e := R6.number_le (by omega) (by omega)
  have hes : e ≤ s.length := by omega
  obtain ⟨sub, hsub⟩ : ∃ sub, sub = (s.take e).drop p := ⟨_, rfl⟩
  have hsl : ∀ w, (Instr.slice 9 (S s) (some (.int .i64 (p : Int))) (some (.int .i64 (e : Nat))) none).run Try.prog w = .ok (S sub) w := fun w => by rw [hsub]; exact slice_S s p e (by omega) hes w
  rw [← hsub] at hst hnl
  have hsubl : sub.length ≤ 1000000 := by rw [hsub, List.length_drop, List.length_take]; omega
  have HN := Px.hid (fun w => number6 sub hsubl w)
  obtain ⟨⟨n, wh⟩, hnum⟩ : ∃ r, R6.number sub = r := ⟨_, rfl⟩
  rw [hnum] at hst hnl
  simp only [hnum] at HN
  simp only at hst hnl
  have hsl2 : ∀ w, (Instr.slice 9 (S s) (some (.int .i64 (p : Int))) (some (.int .i64 ((p : Int) + (n : Int)))) none).run Try.prog w = .ok (S ((s.take (p + n)).drop p)) w := fun w => by
    have := slice_S s p (p + n) (by omega) (by omega) w
    rw [show ((p + n : Nat) : Int) = (p : Int) + (n : Int) by omega] at this
    exact this
  have hpn : p + n ≤ 1000000 := by omega
  have hwn : IntKind.i64.wrap ((p : Int) + (n : Int)) = (p : Int) + (n : Int) := IntWalk.i64_in _ ⟨by omega, by omega⟩
  have HE := Px.hid (And.intro he (And.intro hmb (And.intro hc (And.intro hes hpn))))
  have HST := Px.hid hst
  clear hst hnum hsub hsubl hnl he hes
  simp only [hcc] at hix
  have HI := Px.hid hci
  have HH := Px.hid (Run6.refl h)
  clear hci h hw hcc hl hfr hdl hkk hps hpb hR hc hmay hlen hdp hmb
  go_enter Try.func30, Try.ntmps30
  go_wp2_with fail
  refine HI.out.mono ?_
  rintro e w1 ⟨rfl, h1, h2⟩
  have c0 := h1.c0
  obtain ⟨_, c1, c2, _⟩ := h1.rd.cells
  have c11 := h1.cell11
  have H1 := Px.hid (HH.out.it h1 h2)
  clear h1 h2
  go_wp2_with fail
  go_quiet (fail)
  obtain ⟨w2, hw2⟩ : ∃ w2, w2 = w1.drewN nq := ⟨_, rfl⟩
  rw [← hw2]
  have H2 := Px.hid (show Run6 w b s lim (.slice oa y.out.length oc) y w2 (.slice oa y.out.length oc) from by rw [hw2]; exact H1.out.drewN nq)
  clear c0 c1 c2 c11 hw2 H1 hge
  have c11 := H2.out.x.cell11
  have f11 := H2.out.x.rd.free 11
  have hbl := H2.out.x.lt
  have HOB := Px.hid H2.out.x.ob.ne
  obtain ⟨i0, hi0, hz0, hzz1, hz2⟩ := info_parts Try.infoVal
  go_wp2_with (at_builtin; go_must (refine wpList_append_lies _ rfl _ _ _ rfl 0 64 i0 _ 3 32 Try.underlying32 hi0 hz0 hzz1 hz2 rfl (by omega) _ y.out.length (y.out.flatMap cVal) rfl (H2.out.x.out.alloc _) ⟨w2.heap.size, 0, none⟩ 1 1 (cVal ⟨0, 0, []⟩) rfl rfl (World.news_of_block (cs := #[.int .i64 0, .int .i64 0, S []]) (t := 64) (fr := (0, 0)) (heap_alloc_new w2 _)) (by simp [cVal, Value.oneCell']) (by omega) (by unfold maxLen; omega) (by omega) (by omega) (w2.heap.size + 1) (by simp) ?_))
  intro gg cap w3 hown1 hgrow hat hltg
  have k11 := grown_cell1 hgrow c11 HOB.out
  have e11 := grown_free1 hgrow c11 f11 HOB.out
  have hd3 := H2.out.push hown1 (grown_alloc1 hgrow) (hat.elim .inl (fun e => .inr (by omega)))
  have H3 := Px.hid hd3
  clear hown1 hgrow hat hltg hd3 c11 f11 hi0 hz0 hzz1 hz2 hbl
  go_upto_region 30 with fail
  obtain ⟨w4, hw4⟩ : ∃ w4, w4 = w3.setCell ⟨b, 11, none⟩ (.slice (some ⟨gg, 0, none⟩) (y.out.length + 1) cap) := ⟨_, rfl⟩
  rw [← hw4]
  have HB := Px.hid (show Bgn w b s lim (.slice oa y.out.length oc) y w4 gg cap from ⟨by rw [hw4]; exact H3.out⟩)
  clear hw4 k11 e11 H3 H2 HOB
  obtain ⟨b11, b1, b2, bk, bf⟩ := HB.out.cells
  have H4 := Px.hid (HB.out.kind 3)
  clear HB
  have hszS : (ByteArray.mk s.toArray).size = s.length := size_S s
  have c0 := H4.out.x.c0
  have c3 := H4.out.x.rd.cells.2.2.2.1
  obtain ⟨w5, hw5⟩ : ∃ w5, w5 = w4.setCell ⟨gg, y.out.length * 3, none⟩ (.int .i64 3) := ⟨_, rfl⟩
  rw [← hw5] at c0 c3
  have H5 := Px.hid (show Run6 w b s lim (.slice oa y.out.length oc) { y with out := y.out ++ [⟨3, 0, []⟩] } w5 (.slice (some ⟨gg, 0, none⟩) (y.out.length + 1) cap) from by rw [hw5]; exact H4.out)
  go_upto_region 31 with fail
  rw [← hw5]
  clear hw5 H4 b11 b1 b2 bk bf
  obtain ⟨z, hz⟩ : ∃ z : R6.St, z = R6.take { y with out := y.out ++ [⟨3, 0, []⟩] } (p + n) := ⟨_, rfl⟩
  have HZ := Px.hid (show z.out = y.out ++ [⟨3, 0, []⟩] by rw [hz]; rfl)
  have hst := HST.out
  rw [← hz] at hst
  have HT := Px.hid (fun (w : World) (vo : Value) (h : X6 w b s lim { y with out := y.out ++ [⟨3, 0, []⟩] } vo) => take6 b (p + n) s lim { y with out := y.out ++ [⟨3, 0, []⟩] } vo w h)
  simp only [← hz] at HT
  clear hz HST
  have hgo : ∀ (e2 : Int), e2 = (e : Nat) → True := fun _ _ => trivial
  clear hgo
  cases wh with
  | true =>
    rw [if_pos rfl] at hst
    rw [HZ.out, R6.setText_mid] at hst
    have HS := Px.hid hst
    clear hst
    by_cases hbig : lim.b < (s.length : Int)
    · have hb1 : decide (lim.b < (s.length : Int)) = true := decide_eq_true hbig
      have hee : lim.b = (e : Nat) := by have := HE.out; omega
      simp only [← hee] at hsl
      clear hbig hee
      go_wp2_with fail
      refine (HN.out _).mono ?_
      rintro r w6 ⟨rfl, rfl⟩
      unfold numV
      go_wp2_with fail
      refine (HT.out _ _ H5.out.x).mono ?_
      rintro r w7 ⟨rfl, h1, h2⟩
      have H7 := Px.hid (H5.out.it h1 h2)
      obtain ⟨_, b11, b1, b2, bk, bf, hput⟩ := H7.out.last HZ.out
      have c0' := h1.c0
      have HP := Px.hid (hput ((s.take (p + n)).drop p))
      clear h1 h2 hput c0 c3
      go_upto_region 40 with fail
      go_region
      have HQ := Px.hid (HP.out.drewN 1).did
      go_wp2
      go_ret2
      rw [HS.out]
      exact ⟨rfl, HQ.out⟩
    · have hb1 : decide (lim.b < (s.length : Int)) = false := decide_eq_false hbig
      have hee : ((s.length : Nat) : Int) = (e : Nat) := by have := HE.out; omega
      simp only [← hee] at hsl
      clear hbig hee
      go_wp2_with fail
      refine (HN.out _).mono ?_
      rintro r w6 ⟨rfl, rfl⟩
      unfold numV
      go_wp2_with fail
      refine (HT.out _ _ H5.out.x).mono ?_
      rintro r w7 ⟨rfl, h1, h2⟩
      have H7 := Px.hid (H5.out.it h1 h2)
      obtain ⟨_, b11, b1, b2, bk, bf, hput⟩ := H7.out.last HZ.out
      have c0' := h1.c0
      have HP := Px.hid (hput ((s.take (p + n)).drop p))
      clear h1 h2 hput c0 c3
      go_upto_region 40 with fail
      go_region
      have HQ := Px.hid (HP.out.drewN 1).did
      go_wp2
      go_ret2
      rw [HS.out]
      exact ⟨rfl, HQ.out⟩
  | false =>
    rw [if_neg (by decide)] at hst
    have HW2 := Px.hid (fun (w : World) (vo : Value) (h : X6 w b s lim z vo) => want6 b (p + n) s lim z vo HE.out.2.2.1 (by have := HE.out; omega) w h)
    obtain ⟨⟨q, u⟩, hres⟩ : ∃ r, R6.want s lim z (p + n) = r := ⟨_, rfl⟩
    rw [hres] at hst
    simp only [hres] at HW2
    have HST := Px.hid hst
    clear hst hres
    have key : lim.b < (s.length : Int) ∧ lim.b = (e : Nat) ∨ ¬ lim.b < (s.length : Int) ∧ ((s.length : Nat) : Int) = (e : Nat) := by have := HE.out; omega
    rcases key with ⟨hbig, hee⟩ | ⟨hbig, hee⟩
    · have hb1 : decide (lim.b < (s.length : Int)) = true := decide_eq_true hbig
      simp only [← hee] at hsl
      clear hbig hee
      go_wp2_with fail
      refine (HN.out _).mono ?_
      rintro r w6 ⟨rfl, rfl⟩
      unfold numV
      go_wp2_with fail
      refine (HT.out _ _ H5.out.x).mono ?_
      rintro r w7 ⟨rfl, h1, h2⟩
      have H7 := Px.hid (H5.out.it h1 h2)
      clear h1 h2 c0 c3
      go_wp2_with fail
      refine (HW2.out _ _ H7.out.x).mono ?_
      rintro r w8 ⟨rfl, h1, h2⟩
      have H8 := Px.hid (H7.out.it h1 h2)
      clear h1 h2
      cases q with
      | false =>
        have HS := Px.hid (show R = (none, u) from HST.out)
        go_wp2
        go_ret2
        rw [HS.out]
        exact ⟨rfl, H8.out.did⟩
      | true =>
        have HS := Px.hid (show R = (none, R6.fault u (p + n : Nat) 9) from HST.out)
        go_wp2_with fail
        refine (fault6 b (p + n : Nat) 9 s lim u _ _ H8.out.x).mono ?_
        rintro r w9 ⟨rfl, h1, h2⟩
        have H9 := Px.hid (H8.out.it h1 h2)
        clear h1 h2
        go_wp2
        go_ret2
        rw [HS.out]
        exact ⟨rfl, H9.out.did⟩
    · have hb1 : decide (lim.b < (s.length : Int)) = false := decide_eq_false hbig
      simp only [← hee] at hsl
      clear hbig hee
      go_wp2_with fail
      refine (HN.out _).mono ?_
      rintro r w6 ⟨rfl, rfl⟩
      unfold numV
      go_wp2_with fail
      refine (HT.out _ _ H5.out.x).mono ?_
      rintro r w7 ⟨rfl, h1, h2⟩
      have H7 := Px.hid (H5.out.it h1 h2)
      clear h1 h2 c0 c3
      go_wp2_with fail
      refine (HW2.out _ _ H7.out.x).mono ?_
      rintro r w8 ⟨rfl, h1, h2⟩
      have H8 := Px.hid (H7.out.it h1 h2)
      clear h1 h2
      cases q with
      | false =>
        have HS := Px.hid (show R = (none, u) from HST.out)
        go_wp2
        go_ret2
        rw [HS.out]
        exact ⟨rfl, H8.out.did⟩
      | true =>
        have HS := Px.hid (show R = (none, R6.fault u (p + n : Nat) 9) from HST.out)
        go_wp2_with fail
        refine (fault6 b (p + n : Nat) 9 s lim u _ _ H8.out.x).mono ?_
        rintro r w9 ⟨rfl, h1, h2⟩
        have H9 := Px.hid (H8.out.it h1 h2)
        clear h1 h2
        go_wp2
        go_ret2
        rw [HS.out]
        exact ⟨rfl, H9.out.did⟩

set_option maxRecDepth 100000 in
set_option maxHeartbeats 8000000 in
theorem val_dig (b p dp d c : Nat) (s : Bytes) (lim : Lim) (x y : R6.St) (vo : Value) (hc : Ctx s lim) (hw : R6.want s lim x p = (true, y)) (hcc : R6.at_ s p = c) (hl : ¬ lim.i ≤ (y.out.length : Int)) (hfr : x.r.frames = dp) (hdl : ((dp + d : Nat) : Int) = lim.d) (hdc : R6.digit c = true) (w : World) (h : X6 w b s lim x vo) :
    Calls Try.prog 30 #[.pointer (some ⟨b, 0, none⟩), .int .i64 (p : Nat), .int .i64 (dp : Nat)] w fun r w' => r = .returned (tupV (R6.value s lim (d) x p).1) ∧ Did6 w b s lim vo (R6.value s lim (d) x p).2 w' := by
  obtain ⟨R, hR⟩ : ∃ R, R = R6.value s lim (d) x p := ⟨_, rfl⟩
  rw [← hR]
  have hmay := J6.may_of hc.may
  have hlen := hc.len
  obtain ⟨hkk, hps, hpb⟩ := R6.want_ok hw
  have hp2 : p ≤ 1000000 := by omega
  have hdp : dp ≤ 32 := by omega
  have hol : y.out.length ≤ 4096 := by omega
  have hix := idx6 s p hps
  have hci := want6 b p s lim x vo hc (by omega) w h
  rw [hw] at hci
  obtain ⟨oa, oc, hov, _⟩ := h.out.len
  rw [← hkk.1] at hov
  subst hov
  have hge : decide (lim.i ≤ (y.out.length : Int)) = false := decide_eq_false hl
  have hwp := wrap1 p hp2
  have hwd := wrap1 dp (by omega)
  have hst := v_plain (d := d) hw (by rw [hcc]; (unfold R6.firsts; rw [hdc]; simp)) (by rw [hcc]; (have := hdc; unfold R6.digit at this; simp at this; omega)) (by rw [hcc]; (have := hdc; unfold R6.digit at this; simp at this; omega)) hl
  rw [hcc, plain_num _ (by (have := hdc; unfold R6.digit at this; simp at this; omega)) (by (have := hdc; unfold R6.digit at this; simp at this; omega)) (by (have := hdc; unfold R6.digit at this; simp at this; omega)) (by (have := hdc; unfold R6.digit at this; simp at this; omega)), ← hR] at hst
  unfold R6.numVal at hst
  simp only at hst
  have hmb := hc.b
  obtain ⟨e, he⟩ : ∃ e, e = min s.length lim.b.toNat := ⟨_, rfl⟩
  rw [← he] at hst
  have hnl : p + (R6.number ((s.take e).drop p)).1 ≤ e := R6.number_le (by omega) (by omega)
  have hes : e ≤ s.length := by omega
  obtain ⟨sub, hsub⟩ : ∃ sub, sub = (s.take e).drop p := ⟨_, rfl⟩
  have hsl : ∀ w, (Instr.slice 9 (S s) (some (.int .i64 (p : Int))) (some (.int .i64 (e : Nat))) none).run Try.prog w = .ok (S sub) w := fun w => by rw [hsub]; exact slice_S s p e (by omega) hes w
  rw [← hsub] at hst hnl
  have hsubl : sub.length ≤ 1000000 := by rw [hsub, List.length_drop, List.length_take]; omega
  have HN := Px.hid (fun w => number6 sub hsubl w)
  obtain ⟨⟨n, wh⟩, hnum⟩ : ∃ r, R6.number sub = r := ⟨_, rfl⟩
  rw [hnum] at hst hnl
  simp only [hnum] at HN
  simp only at hst hnl
  have hsl2 : ∀ w, (Instr.slice 9 (S s) (some (.int .i64 (p : Int))) (some (.int .i64 ((p : Int) + (n : Int)))) none).run Try.prog w = .ok (S ((s.take (p + n)).drop p)) w := fun w => by
    have := slice_S s p (p + n) (by omega) (by omega) w
    rw [show ((p + n : Nat) : Int) = (p : Int) + (n : Int) by omega] at this
    exact this
  have hpn : p + n ≤ 1000000 := by omega
  have hwn : IntKind.i64.wrap ((p : Int) + (n : Int)) = (p : Int) + (n : Int) := IntWalk.i64_in _ ⟨by omega, by omega⟩
  have HE := Px.hid (And.intro he (And.intro hmb (And.intro hc (And.intro hes hpn))))
  have HST := Px.hid hst
  clear hst hnum hsub hsubl hnl he hes
  have hdb : 48 ≤ c ∧ c ≤ 57 := by unfold R6.digit at hdc; simpa using hdc
  have HD := Px.hid (fun w => digit6 c w)
  simp only [hdc] at HD
  have ne123 : ((c : Int) != 123) = true := by simp; omega
  have eq123 : ((c : Int) == 123) = false := by simp; omega
  have ne91 : ((c : Int) != 91) = true := by simp; omega
  have eq91 : ((c : Int) == 91) = false := by simp; omega
  have ne34 : ((c : Int) != 34) = true := by simp; omega
  have eq34 : ((c : Int) == 34) = false := by simp; omega
  have ne45 : ((c : Int) != 45) = true := by simp; omega
  have eq45 : ((c : Int) == 45) = false := by simp; omega
  have ne116 : ((c : Int) != 116) = true := by simp; omega
  have eq116 : ((c : Int) == 116) = false := by simp; omega
  have ne102 : ((c : Int) != 102) = true := by simp; omega
  have eq102 : ((c : Int) == 102) = false := by simp; omega
  have ne110 : ((c : Int) != 110) = true := by simp; omega
  have eq110 : ((c : Int) == 110) = false := by simp; omega
  clear hdb hdc
  simp only [hcc] at hix
  have HI := Px.hid hci
  have HH := Px.hid (Run6.refl h)
  clear hci h hw hcc hl hfr hdl hkk hps hpb hR hc hmay hlen hdp hmb
  go_enter Try.func30, Try.ntmps30
  go_wp2_with fail
  refine HI.out.mono ?_
  rintro e w1 ⟨rfl, h1, h2⟩
  have c0 := h1.c0
  obtain ⟨_, c1, c2, _⟩ := h1.rd.cells
  have c11 := h1.cell11
  have H1 := Px.hid (HH.out.it h1 h2)
  clear h1 h2
  go_wp2_with fail
  refine (HD.out _).mono ?_
  rintro e w1b ⟨rfl, rfl⟩
  go_wp2_with fail
  go_quiet (fail)
  obtain ⟨w2, hw2⟩ : ∃ w2, w2 = w1.drewN nq := ⟨_, rfl⟩
  rw [← hw2]
  have H2 := Px.hid (show Run6 w b s lim (.slice oa y.out.length oc) y w2 (.slice oa y.out.length oc) from by rw [hw2]; exact H1.out.drewN nq)
  clear c0 c1 c2 c11 hw2 H1 hge
  have c11 := H2.out.x.cell11
  have f11 := H2.out.x.rd.free 11
  have hbl := H2.out.x.lt
  have HOB := Px.hid H2.out.x.ob.ne
  obtain ⟨i0, hi0, hz0, hzz1, hz2⟩ := info_parts Try.infoVal
  go_wp2_with (at_builtin; go_must (refine wpList_append_lies _ rfl _ _ _ rfl 0 64 i0 _ 3 32 Try.underlying32 hi0 hz0 hzz1 hz2 rfl (by omega) _ y.out.length (y.out.flatMap cVal) rfl (H2.out.x.out.alloc _) ⟨w2.heap.size, 0, none⟩ 1 1 (cVal ⟨0, 0, []⟩) rfl rfl (World.news_of_block (cs := #[.int .i64 0, .int .i64 0, S []]) (t := 64) (fr := (0, 0)) (heap_alloc_new w2 _)) (by simp [cVal, Value.oneCell']) (by omega) (by unfold maxLen; omega) (by omega) (by omega) (w2.heap.size + 1) (by simp) ?_))
  intro gg cap w3 hown1 hgrow hat hltg
  have k11 := grown_cell1 hgrow c11 HOB.out
  have e11 := grown_free1 hgrow c11 f11 HOB.out
  have hd3 := H2.out.push hown1 (grown_alloc1 hgrow) (hat.elim .inl (fun e => .inr (by omega)))
  have H3 := Px.hid hd3
  clear hown1 hgrow hat hltg hd3 c11 f11 hi0 hz0 hzz1 hz2 hbl
  go_upto_region 30 with fail
  obtain ⟨w4, hw4⟩ : ∃ w4, w4 = w3.setCell ⟨b, 11, none⟩ (.slice (some ⟨gg, 0, none⟩) (y.out.length + 1) cap) := ⟨_, rfl⟩
  rw [← hw4]
  have HB := Px.hid (show Bgn w b s lim (.slice oa y.out.length oc) y w4 gg cap from ⟨by rw [hw4]; exact H3.out⟩)
  clear hw4 k11 e11 H3 H2 HOB
  obtain ⟨b11, b1, b2, bk, bf⟩ := HB.out.cells
  have H4 := Px.hid (HB.out.kind 3)
  clear HB
  have hszS : (ByteArray.mk s.toArray).size = s.length := size_S s
  have c0 := H4.out.x.c0
  have c3 := H4.out.x.rd.cells.2.2.2.1
  obtain ⟨w5, hw5⟩ : ∃ w5, w5 = w4.setCell ⟨gg, y.out.length * 3, none⟩ (.int .i64 3) := ⟨_, rfl⟩
  rw [← hw5] at c0 c3
  have H5 := Px.hid (show Run6 w b s lim (.slice oa y.out.length oc) { y with out := y.out ++ [⟨3, 0, []⟩] } w5 (.slice (some ⟨gg, 0, none⟩) (y.out.length + 1) cap) from by rw [hw5]; exact H4.out)
  go_upto_region 31 with fail
  rw [← hw5]
  clear hw5 H4 b11 b1 b2 bk bf
  obtain ⟨z, hz⟩ : ∃ z : R6.St, z = R6.take { y with out := y.out ++ [⟨3, 0, []⟩] } (p + n) := ⟨_, rfl⟩
  have HZ := Px.hid (show z.out = y.out ++ [⟨3, 0, []⟩] by rw [hz]; rfl)
  have hst := HST.out
  rw [← hz] at hst
  have HT := Px.hid (fun (w : World) (vo : Value) (h : X6 w b s lim { y with out := y.out ++ [⟨3, 0, []⟩] } vo) => take6 b (p + n) s lim { y with out := y.out ++ [⟨3, 0, []⟩] } vo w h)
  simp only [← hz] at HT
  clear hz HST
  have hgo : ∀ (e2 : Int), e2 = (e : Nat) → True := fun _ _ => trivial
  clear hgo
  cases wh with
  | true =>
    rw [if_pos rfl] at hst
    rw [HZ.out, R6.setText_mid] at hst
    have HS := Px.hid hst
    clear hst
    by_cases hbig : lim.b < (s.length : Int)
    · have hb1 : decide (lim.b < (s.length : Int)) = true := decide_eq_true hbig
      have hee : lim.b = (e : Nat) := by have := HE.out; omega
      simp only [← hee] at hsl
      clear hbig hee
      go_wp2_with fail
      refine (HN.out _).mono ?_
      rintro r w6 ⟨rfl, rfl⟩
      unfold numV
      go_wp2_with fail
      refine (HT.out _ _ H5.out.x).mono ?_
      rintro r w7 ⟨rfl, h1, h2⟩
      have H7 := Px.hid (H5.out.it h1 h2)
      obtain ⟨_, b11, b1, b2, bk, bf, hput⟩ := H7.out.last HZ.out
      have c0' := h1.c0
      have HP := Px.hid (hput ((s.take (p + n)).drop p))
      clear h1 h2 hput c0 c3
      go_upto_region 40 with fail
      go_region
      have HQ := Px.hid (HP.out.drewN 1).did
      go_wp2
      go_ret2
      rw [HS.out]
      exact ⟨rfl, HQ.out⟩
    · have hb1 : decide (lim.b < (s.length : Int)) = false := decide_eq_false hbig
      have hee : ((s.length : Nat) : Int) = (e : Nat) := by have := HE.out; omega
      simp only [← hee] at hsl
      clear hbig hee
      go_wp2_with fail
      refine (HN.out _).mono ?_
      rintro r w6 ⟨rfl, rfl⟩
      unfold numV
      go_wp2_with fail
      refine (HT.out _ _ H5.out.x).mono ?_
      rintro r w7 ⟨rfl, h1, h2⟩
      have H7 := Px.hid (H5.out.it h1 h2)
      obtain ⟨_, b11, b1, b2, bk, bf, hput⟩ := H7.out.last HZ.out
      have c0' := h1.c0
      have HP := Px.hid (hput ((s.take (p + n)).drop p))
      clear h1 h2 hput c0 c3
      go_upto_region 40 with fail
      go_region
      have HQ := Px.hid (HP.out.drewN 1).did
      go_wp2
      go_ret2
      rw [HS.out]
      exact ⟨rfl, HQ.out⟩
  | false =>
    rw [if_neg (by decide)] at hst
    have HW2 := Px.hid (fun (w : World) (vo : Value) (h : X6 w b s lim z vo) => want6 b (p + n) s lim z vo HE.out.2.2.1 (by have := HE.out; omega) w h)
    obtain ⟨⟨q, u⟩, hres⟩ : ∃ r, R6.want s lim z (p + n) = r := ⟨_, rfl⟩
    rw [hres] at hst
    simp only [hres] at HW2
    have HST := Px.hid hst
    clear hst hres
    have key : lim.b < (s.length : Int) ∧ lim.b = (e : Nat) ∨ ¬ lim.b < (s.length : Int) ∧ ((s.length : Nat) : Int) = (e : Nat) := by have := HE.out; omega
    rcases key with ⟨hbig, hee⟩ | ⟨hbig, hee⟩
    · have hb1 : decide (lim.b < (s.length : Int)) = true := decide_eq_true hbig
      simp only [← hee] at hsl
      clear hbig hee
      go_wp2_with fail
      refine (HN.out _).mono ?_
      rintro r w6 ⟨rfl, rfl⟩
      unfold numV
      go_wp2_with fail
      refine (HT.out _ _ H5.out.x).mono ?_
      rintro r w7 ⟨rfl, h1, h2⟩
      have H7 := Px.hid (H5.out.it h1 h2)
      clear h1 h2 c0 c3
      go_wp2_with fail
      refine (HW2.out _ _ H7.out.x).mono ?_
      rintro r w8 ⟨rfl, h1, h2⟩
      have H8 := Px.hid (H7.out.it h1 h2)
      clear h1 h2
      cases q with
      | false =>
        have HS := Px.hid (show R = (none, u) from HST.out)
        go_wp2
        go_ret2
        rw [HS.out]
        exact ⟨rfl, H8.out.did⟩
      | true =>
        have HS := Px.hid (show R = (none, R6.fault u (p + n : Nat) 9) from HST.out)
        go_wp2_with fail
        refine (fault6 b (p + n : Nat) 9 s lim u _ _ H8.out.x).mono ?_
        rintro r w9 ⟨rfl, h1, h2⟩
        have H9 := Px.hid (H8.out.it h1 h2)
        clear h1 h2
        go_wp2
        go_ret2
        rw [HS.out]
        exact ⟨rfl, H9.out.did⟩
    · have hb1 : decide (lim.b < (s.length : Int)) = false := decide_eq_false hbig
      simp only [← hee] at hsl
      clear hbig hee
      go_wp2_with fail
      refine (HN.out _).mono ?_
      rintro r w6 ⟨rfl, rfl⟩
      unfold numV
      go_wp2_with fail
      refine (HT.out _ _ H5.out.x).mono ?_
      rintro r w7 ⟨rfl, h1, h2⟩
      have H7 := Px.hid (H5.out.it h1 h2)
      clear h1 h2 c0 c3
      go_wp2_with fail
      refine (HW2.out _ _ H7.out.x).mono ?_
      rintro r w8 ⟨rfl, h1, h2⟩
      have H8 := Px.hid (H7.out.it h1 h2)
      clear h1 h2
      cases q with
      | false =>
        have HS := Px.hid (show R = (none, u) from HST.out)
        go_wp2
        go_ret2
        rw [HS.out]
        exact ⟨rfl, H8.out.did⟩
      | true =>
        have HS := Px.hid (show R = (none, R6.fault u (p + n : Nat) 9) from HST.out)
        go_wp2_with fail
        refine (fault6 b (p + n : Nat) 9 s lim u _ _ H8.out.x).mono ?_
        rintro r w9 ⟨rfl, h1, h2⟩
        have H9 := Px.hid (H8.out.it h1 h2)
        clear h1 h2
        go_wp2
        go_ret2
        rw [HS.out]
        exact ⟨rfl, H9.out.did⟩

end Go.Proofs.Ytahojodgmjmpnaa
