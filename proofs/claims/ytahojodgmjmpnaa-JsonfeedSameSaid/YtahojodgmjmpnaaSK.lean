/-
  Several texts in one: The walks over the program's reader of package json: value, case by case.
-/
import Derived.Test.YtahojodgmjmpnaaSJ
/-! The walks over the program's reader of package json: value, case by case. -/
namespace Go.Proofs.Ytahojodgmjmpnaa
open Go.RowKit Go.Px

theorem jtext_no {b p : Nat} {s : Bytes} {lim : Lim} {vs vo : Value} {w : World} {e : D6.Flt} (hc : Cj s lim) (hp : p < min s.length lim.b.toNat) (h : Jr w b s lim p vs vo) (he : D6.text s lim p = .error e) :
    Calls Try.prog 53 #[.pointer (some ⟨b, 0, none⟩)] w fun r w' => r = jpanics e ∧ Fr (It b) w w' := by
  have := jtext_any b p s lim vs vo hc hp w h
  rw [he] at this
  exact this
theorem jtext_yes {b p q : Nat} {s l : Bytes} {lim : Lim} {vs vo : Value} {w : World} (hc : Cj s lim) (hp : p < min s.length lim.b.toNat) (h : Jr w b s lim p vs vo) (he : D6.text s lim p = .ok (l, q)) :
    Calls Try.prog 53 #[.pointer (some ⟨b, 0, none⟩)] w fun r w' => r = .returned (S l) ∧ Jr w' b s lim q vs vo ∧ Fr (It b) w w' := by
  have := jtext_any b p s lim vs vo hc hp w h
  rw [he] at this
  exact this
theorem jnum_no {b p : Nat} {s : Bytes} {lim : Lim} {vs vo : Value} {w : World} {e : D6.Flt} (hc : Cj s lim) (hp : p ≤ min s.length lim.b.toNat) (h : Jr w b s lim p vs vo) (he : D6.number s lim p = .error e) :
    Calls Try.prog 54 #[.pointer (some ⟨b, 0, none⟩)] w fun r w' => r = jpanics e ∧ Fr (It b) w w' := by
  have := jnum_any b p s lim vs vo hc hp w h
  rw [he] at this
  exact this
theorem jnum_yes {b p q : Nat} {s : Bytes} {lim : Lim} {vs vo : Value} {w : World} (hc : Cj s lim) (hp : p ≤ min s.length lim.b.toNat) (h : Jr w b s lim p vs vo) (he : D6.number s lim p = .ok q) :
    Calls Try.prog 54 #[.pointer (some ⟨b, 0, none⟩)] w fun r w' => r = .returned (S ((s.take q).drop p)) ∧ Jr w' b s lim q vs vo ∧ Fr (It b) w w' := by
  have := jnum_any b p s lim vs vo hc hp w h
  rw [he] at this
  exact this
theorem jword_no {b p : Nat} {s l : Bytes} {lim : Lim} {vs vo : Value} {w : World} {e : D6.Flt} (hc : Cj s lim) (hp : p ≤ 140737488355327) (hl : l.length ≤ 5) (h : Jr w b s lim p vs vo) (he : D6.wordN s lim l p = .error e) :
    Calls Try.prog 55 #[.pointer (some ⟨b, 0, none⟩), S l] w fun r w' => r = jpanics e ∧ Fr (It b) w w' := by
  have := jword_any b p s l lim vs vo hc hp hl w h
  rw [he] at this
  exact this
theorem jword_yes {b p q : Nat} {s l : Bytes} {lim : Lim} {vs vo : Value} {w : World} (hc : Cj s lim) (hp : p ≤ 140737488355327) (hl : l.length ≤ 5) (h : Jr w b s lim p vs vo) (he : D6.wordN s lim l p = .ok q) :
    Calls Try.prog 55 #[.pointer (some ⟨b, 0, none⟩), S l] w fun r w' => r = .returned (.tuple #[]) ∧ Jr w' b s lim q vs vo ∧ Fr (It b) w w' := by
  have := jword_any b p s l lim vs vo hc hp hl w h
  rw [he] at this
  exact this
theorem Try.infoFmJ : (Try.prog.info? 84).map (fun i => (i.zero, i.size, i.bytes)) = some (some (.agg #[.int .i64 0, .slice none 0 0]), 2, 32) := by kernel_rfl
/-- What value leaves. -/
def JVal (w : World) (b : Nat) (s : Bytes) (lim : Lim) (vs vo : Value) (ps : List (D6.Fm × Value)) (res : Except D6.Flt D6.Nx) (r : Ending) (w' : World) : Prop := match res with
  | .error e => r = jpanics e ∧ Fr (foot b (jbl vo vs ps)) w w'
  | .ok (n, y) => r = .returned (.int .i64 (n : Nat)) ∧ ∃ vs' vo' ps', JRun w b s lim vs vo ps y w' vs' vo' ps'
section
variable {w w' : World} {b : Nat} {s : Bytes} {lim : Lim} {vs vo vs' vo' : Value} {ps ps' : List (D6.Fm × Value)} {res : Except D6.Flt D6.Nx}
theorem JVal.bad {e : D6.Flt} (h : res = .error e) (hf : Fr (foot b (jbl vo vs ps)) w w') : JVal w b s lim vs vo ps res (jpanics e) w' := by
  rw [h]; exact ⟨rfl, hf⟩
theorem JVal.good {n : Nat} {y : D6.Dx} (h : res = .ok (n, y)) (hr : JRun w b s lim vs vo ps y w' vs' vo' ps') : JVal w b s lim vs vo ps res (.returned (.int .i64 (n : Nat))) w' := by
  rw [h]; exact ⟨rfl, _, _, _, hr⟩
end
theorem bumpTop_len (l : List Val) (st : List D6.Fm) : (D6.bumpTop l st).length = l.length := by
  cases st with
  | nil => rfl
  | cons f r => exact J6.vbump_len _ _ _
theorem setText_set (l : List Val) (a : Val) (t : Bytes) : R6.setText (l ++ [a]) l.length t = (l ++ [a]).set l.length { a with text := t } := by
  rw [R6.setText_mid]
  simp

set_option maxRecDepth 100000 in
set_option maxHeartbeats 4000000 in
theorem jfull_str (b : Nat) (s : Bytes) (lim : Lim) (x : D6.Dx) (w : World) (vs vo : Value) (ps : List (D6.Fm × Value)) (h : JRep w b s lim x vs vo ps) (hok : JOk s lim x) (hps : x.at_ < min s.length lim.b.toNat) (hi : (x.out.length : Int) = lim.i) :
    Calls Try.prog 36 #[.pointer (some ⟨b, 0, none⟩), .int .u8 (34 : Nat)] w (JVal w b s lim vs vo ps (D6.value s lim x 34)) := by
  obtain ⟨RR, hRR⟩ : ∃ RR, RR = D6.value s lim x 34 := ⟨_, rfl⟩
  rw [← hRR]
  have hv : D6.value s lim x 34 = D6.strV s lim x := by
    unfold D6.value
    rw [if_neg (by decide), if_pos (by decide)]
  have hlen := hok.ctx.len
  have hmay := J6.may_of hok.ctx.may
  have hol := hok.ol
  have hol2 : x.out.length ≤ 4096 := by omega
  have hp1 : x.at_ ≤ 140737488355327 := by omega
  have hwa := wrap1 x.at_ hp1
  obtain ⟨_, c1, c2, _, c5, c6, c7⟩ := h.jr.cells
  obtain ⟨oa, oc, hov, _⟩ := h.parts.out.len
  rw [hov] at c7
  have HX := Px.hid (JRun.refl h)
  have HOK := Px.hid hok
  have HR := Px.hid (show RR = .error ((x.at_ : Nat), 10) by
    rw [hRR, hv]
    unfold D6.strV D6.one
    rw [if_pos hi])
  have HO := Px.hid (fun (v : Val) => jone_full b s lim x v w vs vo ps h hi)
  clear h hok hol hlen hmay hol2 hp1 hwa hRR hv hps hi hov
  go_enter Try.func36, Try.ntmps36
  go_wp2_with fail
  refine (HO.out ⟨4, 0, []⟩).mono ?_
  rintro r w1 ⟨rfl, hs⟩
  have HS := Px.hid (HX.out.same hs)
  clear hs
  unfold jpanics
  go_wp2
  exact ⟨rfl, JVal.bad HR.out HS.out.fr⟩
set_option maxRecDepth 100000 in
set_option maxHeartbeats 4000000 in
theorem jno_str (b : Nat) (s : Bytes) (lim : Lim) (x : D6.Dx) (w : World) (vs vo : Value) (ps : List (D6.Fm × Value)) (h : JRep w b s lim x vs vo ps) (hok : JOk s lim x) (hps : x.at_ < min s.length lim.b.toNat) (hi : ¬ (x.out.length : Int) = lim.i) (e : D6.Flt) (ht : D6.text s lim x.at_ = .error e) :
    Calls Try.prog 36 #[.pointer (some ⟨b, 0, none⟩), .int .u8 (34 : Nat)] w (JVal w b s lim vs vo ps (D6.value s lim x 34)) := by
  obtain ⟨RR, hRR⟩ : ∃ RR, RR = D6.value s lim x 34 := ⟨_, rfl⟩
  rw [← hRR]
  have hv : D6.value s lim x 34 = D6.strV s lim x := by
    unfold D6.value
    rw [if_neg (by decide), if_pos (by decide)]
  have hlen := hok.ctx.len
  have hmay := J6.may_of hok.ctx.may
  have hol := hok.ol
  have hol2 : x.out.length ≤ 4096 := by omega
  have hp1 : x.at_ ≤ 140737488355327 := by omega
  have hwa := wrap1 x.at_ hp1
  obtain ⟨_, c1, c2, _, c5, c6, c7⟩ := h.jr.cells
  obtain ⟨oa, oc, hov, _⟩ := h.parts.out.len
  rw [hov] at c7
  have HX := Px.hid (JRun.refl h)
  have HOK := Px.hid hok
  obtain ⟨l1, hl1⟩ : ∃ l1, D6.bumpTop x.out x.stack = l1 := ⟨_, rfl⟩
  have hl1n : l1.length = x.out.length := by rw [← hl1, bumpTop_len]
  have HO := Px.hid (fun (v : Val) => jone_yes b s lim x v w vs vo ps h hok hi)
  simp only [hl1] at HO
  have hone : D6.one lim x ⟨4, 0, []⟩ = .ok { x with out := l1 ++ [⟨4, 0, []⟩] } := by unfold D6.one; rw [if_neg hi, hl1]
  have HR := Px.hid (show RR = .error e by
    rw [hRR, hv]
    unfold D6.strV
    rw [hone]
    simp only
    rw [ht])
  have HT := Px.hid (fun (w : World) (vo : Value) (h : Jr w b s lim x.at_ vs vo) => jtext_no HOK.out.ctx hps h ht)
  obtain ⟨L, hL⟩ : ∃ L, l1.length = L := ⟨_, rfl⟩
  have HL := Px.hid hL
  rw [← hl1n, hL] at c7
  have hL2 : L ≤ 4096 := by omega
  clear h hok hol hlen hmay hol2 hp1 hwa hRR hv hi hov hone ht hl1 hl1n hL
  go_enter Try.func36, Try.ntmps36
  go_wp2_with fail
  refine (HO.out ⟨4, 0, []⟩).mono ?_
  rintro r w1 ⟨rfl, vo1, hd⟩
  have H1 := Px.hid hd
  clear hd
  obtain ⟨g, cap, hvo, o1, o2, k0, _, k2, kf⟩ := H1.out.rep.val (j := L) (a := ⟨4, 0, []⟩) (by rw [← HL.out]; simp)
  simp only [List.length_append, List.length_singleton, HL.out] at hvo o1
  subst hvo
  have c7 := H1.out.rep.jr.cells.2.2.2.2.2.2
  unfold maxLen at o2
  have kf2 := kf (L * 3 + 2)
  clear kf k0
  go_upto_region 15 with fail
  refine wp_region_any (by kernel_rfl) ?_
  refine wpAny_take (i := 0) (v := ?_) rfl (by kernel_rfl) (by kernel_rfl) (by kernel_rfl) (fun _ _ _ h => h) (Or.inl ⟨by rfl, ?_⟩) ?_
  rotate_left
  · intro w
    go_simp
    try (with_reducible rfl)
  refine wpAny_take (i := 1) (v := ?_) rfl (by kernel_rfl) (by kernel_rfl) (by kernel_rfl) (fun _ _ _ h => h) (Or.inl ⟨by rfl, ?_⟩) ?_
  rotate_left
  · intro w
    go_simp
    try (with_reducible rfl)
  refine wpAny_take (i := 2) (v := ?_) rfl (by kernel_rfl) (by kernel_rfl) (by kernel_rfl) (fun _ _ _ h => h) (Or.inl ⟨by rfl, ?_⟩) ?_
  rotate_left
  · intro w
    go_simp
    try (with_reducible rfl)
  refine wpAny_take (i := 4) (v := ?_) rfl (by kernel_rfl) (by kernel_rfl) (by kernel_rfl) (fun _ _ _ h => h) (Or.inl ⟨by rfl, ?_⟩) ?_
  rotate_left
  · intro w
    go_simp
    try (with_reducible rfl)
  refine wpAny_take (i := 5) (v := ?_) rfl (by kernel_rfl) (by kernel_rfl) (by kernel_rfl) (fun _ _ _ h => h) (Or.inl ⟨by rfl, ?_⟩) ?_
  rotate_left
  · intro w
    go_simp
    try (with_reducible rfl)
  refine wpAny_ready (rs := [3, 6]) (by kernel_rfl) (by simp) ?_
  refine AllReady.cons rfl (fun K hK => ?_) (AllReady.cons rfl (fun K hK => ?_) AllReady.nil)
  · go_simp
    refine hK _ _ ?_
    clear hK K
    refine wpAny_ready (rs := [6]) (by kernel_rfl) (by simp) ?_
    refine AllReady.cons rfl (fun K hK => ?_) AllReady.nil
    go_simp
    refine (HT.out _ _ H1.out.rep.jr.drew).mono ?_
    rintro r w2 ⟨rfl, hf⟩
    exact ⟨rfl, JVal.bad HR.out (H1.out.drew.frit hf)⟩
  · go_simp
    refine (HT.out _ _ H1.out.rep.jr.drew).mono ?_
    rintro r w2 ⟨rfl, hf⟩
    exact ⟨rfl, JVal.bad HR.out (H1.out.drew.frit hf)⟩
set_option maxRecDepth 100000 in
set_option maxHeartbeats 4000000 in
theorem jyes_str (b : Nat) (s : Bytes) (lim : Lim) (x : D6.Dx) (w : World) (vs vo : Value) (ps : List (D6.Fm × Value)) (h : JRep w b s lim x vs vo ps) (hok : JOk s lim x) (hps : x.at_ < min s.length lim.b.toNat) (hi : ¬ (x.out.length : Int) = lim.i) (l : Bytes) (q : Nat) (ht : D6.text s lim x.at_ = .ok (l, q)) :
    Calls Try.prog 36 #[.pointer (some ⟨b, 0, none⟩), .int .u8 (34 : Nat)] w (JVal w b s lim vs vo ps (D6.value s lim x 34)) := by
  obtain ⟨RR, hRR⟩ : ∃ RR, RR = D6.value s lim x 34 := ⟨_, rfl⟩
  rw [← hRR]
  have hv : D6.value s lim x 34 = D6.strV s lim x := by
    unfold D6.value
    rw [if_neg (by decide), if_pos (by decide)]
  have hlen := hok.ctx.len
  have hmay := J6.may_of hok.ctx.may
  have hol := hok.ol
  have hol2 : x.out.length ≤ 4096 := by omega
  have hp1 : x.at_ ≤ 140737488355327 := by omega
  have hwa := wrap1 x.at_ hp1
  obtain ⟨_, c1, c2, _, c5, c6, c7⟩ := h.jr.cells
  obtain ⟨oa, oc, hov, _⟩ := h.parts.out.len
  rw [hov] at c7
  have HX := Px.hid (JRun.refl h)
  have HOK := Px.hid hok
  obtain ⟨l1, hl1⟩ : ∃ l1, D6.bumpTop x.out x.stack = l1 := ⟨_, rfl⟩
  have hl1n : l1.length = x.out.length := by rw [← hl1, bumpTop_len]
  have HO := Px.hid (fun (v : Val) => jone_yes b s lim x v w vs vo ps h hok hi)
  simp only [hl1] at HO
  have hone : D6.one lim x ⟨4, 0, []⟩ = .ok { x with out := l1 ++ [⟨4, 0, []⟩] } := by unfold D6.one; rw [if_neg hi, hl1]
  obtain ⟨T, hT⟩ : ∃ T, l = T := ⟨_, rfl⟩
  have HR := Px.hid (show RR = .ok (D6.over x, { x with at_ := q, out := (l1 ++ [(⟨4, 0, []⟩ : Val)]).set l1.length ⟨4, 0, T⟩ }) by
    rw [hRR, hv]
    unfold D6.strV
    rw [hone]
    simp only
    rw [ht]
    simp only
    rw [← hl1n, setText_set, ← hT])
  have HT := Px.hid (fun (w : World) (vo : Value) (h : Jr w b s lim x.at_ vs vo) => jtext_yes HOK.out.ctx hps h ht)
  simp only [hT] at HT
  obtain ⟨L, hL⟩ : ∃ L, l1.length = L := ⟨_, rfl⟩
  have HL := Px.hid hL
  rw [← hl1n, hL] at c7
  have hL2 : L ≤ 4096 := by omega
  rw [hL] at HR
  clear h hok hol hlen hmay hol2 hp1 hwa hRR hv hi hov hone ht hl1 hl1n hL hT
  go_enter Try.func36, Try.ntmps36
  go_wp2_with fail
  refine (HO.out ⟨4, 0, []⟩).mono ?_
  rintro r w1 ⟨rfl, vo1, hd⟩
  have H1 := Px.hid hd
  clear hd
  obtain ⟨g, cap, hvo, o1, o2, k0, _, k2, kf⟩ := H1.out.rep.val (j := L) (a := ⟨4, 0, []⟩) (by rw [← HL.out]; simp)
  simp only [List.length_append, List.length_singleton, HL.out] at hvo o1
  subst hvo
  have c7 := H1.out.rep.jr.cells.2.2.2.2.2.2
  unfold maxLen at o2
  have kf2 := kf (L * 3 + 2)
  clear kf k0
  have hgl := H1.out.rep.parts.lt (k := g) (mem_jbl.2 (.inl rfl))
  have hgb : g ≠ b := fun e => H1.out.rep.nb (mem_jbl.2 (.inl (by rw [← e]; rfl)))
  have HG := Px.hid (And.intro hgl hgb)
  have hLL : (L : Int) < (L : Int) + 1 := by omega
  clear hgl hgb
  go_upto_region 15 with fail
  go_region_with (go_at_call 53; refine (HT.out _ _ H1.out.rep.jr.drew).mono ?_; rintro r w2 ⟨rfl, hj, hf⟩; have c7b := hj.cells.2.2.2.2.2.2; have k2b : w2.cell? ⟨g, L * 3 + 2, none⟩ = some (S []) := (hf.cell (p := ⟨g, L * 3 + 2, none⟩) HG.out.1 (fun e => HG.out.2 e)).trans k2; have kfb : w2.frozen? ⟨g, L * 3 + 2, none⟩ = false := (World.frozen?_of_block (w := w1.drew) (a := ⟨g, L * 3 + 2, none⟩) (hf.block g HG.out.1 (fun e => HG.out.2 e))).trans kf2; have HW2 := Px.hid (H1.out.drew.it hj hf); clear hj hf)
  all_goals
    have HS := Px.hid (HW2.out.setVal (j := L) (a := ⟨4, 0, []⟩) (a' := ⟨4, 0, T⟩) (by simp only; rw [← HL.out]; simp) 2 (by decide) (S T) rfl)
    clear c7 c7b k2 k2b kf2 kfb o1 o2
    go_wp2_with fail
    refine (jover_any b s lim _ _ _ _ _ HS.out.rep).mono ?_
    rintro r w3 ⟨rfl, rfl⟩
    go_wp2
    go_ret
    exact JVal.good HR.out HS.out
set_option maxRecDepth 100000 in
set_option maxHeartbeats 4000000 in
theorem jfull_min (b : Nat) (s : Bytes) (lim : Lim) (x : D6.Dx) (w : World) (vs vo : Value) (ps : List (D6.Fm × Value)) (h : JRep w b s lim x vs vo ps) (hok : JOk s lim x) (hps : x.at_ < min s.length lim.b.toNat) (hi : (x.out.length : Int) = lim.i) :
    Calls Try.prog 36 #[.pointer (some ⟨b, 0, none⟩), .int .u8 (45 : Nat)] w (JVal w b s lim vs vo ps (D6.value s lim x 45)) := by
  obtain ⟨RR, hRR⟩ : ∃ RR, RR = D6.value s lim x 45 := ⟨_, rfl⟩
  rw [← hRR]
  have hv : D6.value s lim x 45 = D6.numV s lim x := by
    unfold D6.value
    rw [if_neg (by decide), if_neg (by decide), if_pos (by decide)]
  have hlen := hok.ctx.len
  have hmay := J6.may_of hok.ctx.may
  have hol := hok.ol
  have hol2 : x.out.length ≤ 4096 := by omega
  have hp1 : x.at_ ≤ 140737488355327 := by omega
  have hwa := wrap1 x.at_ hp1
  obtain ⟨_, c1, c2, _, c5, c6, c7⟩ := h.jr.cells
  obtain ⟨oa, oc, hov, _⟩ := h.parts.out.len
  rw [hov] at c7
  have HX := Px.hid (JRun.refl h)
  have HOK := Px.hid hok
  have HR := Px.hid (show RR = .error ((x.at_ : Nat), 10) by
    rw [hRR, hv]
    unfold D6.numV D6.one
    rw [if_pos hi])
  have HO := Px.hid (fun (v : Val) => jone_full b s lim x v w vs vo ps h hi)
  clear h hok hol hlen hmay hol2 hp1 hwa hRR hv hps hi hov
  go_enter Try.func36, Try.ntmps36
  go_wp2_with fail
  refine (HO.out ⟨3, 0, []⟩).mono ?_
  rintro r w1 ⟨rfl, hs⟩
  have HS := Px.hid (HX.out.same hs)
  clear hs
  unfold jpanics
  go_wp2
  exact ⟨rfl, JVal.bad HR.out HS.out.fr⟩
set_option maxRecDepth 100000 in
set_option maxHeartbeats 4000000 in
theorem jno_min (b : Nat) (s : Bytes) (lim : Lim) (x : D6.Dx) (w : World) (vs vo : Value) (ps : List (D6.Fm × Value)) (h : JRep w b s lim x vs vo ps) (hok : JOk s lim x) (hps : x.at_ < min s.length lim.b.toNat) (hi : ¬ (x.out.length : Int) = lim.i) (e : D6.Flt) (ht : D6.number s lim x.at_ = .error e) :
    Calls Try.prog 36 #[.pointer (some ⟨b, 0, none⟩), .int .u8 (45 : Nat)] w (JVal w b s lim vs vo ps (D6.value s lim x 45)) := by
  obtain ⟨RR, hRR⟩ : ∃ RR, RR = D6.value s lim x 45 := ⟨_, rfl⟩
  rw [← hRR]
  have hv : D6.value s lim x 45 = D6.numV s lim x := by
    unfold D6.value
    rw [if_neg (by decide), if_neg (by decide), if_pos (by decide)]
  have hlen := hok.ctx.len
  have hmay := J6.may_of hok.ctx.may
  have hol := hok.ol
  have hol2 : x.out.length ≤ 4096 := by omega
  have hp1 : x.at_ ≤ 140737488355327 := by omega
  have hwa := wrap1 x.at_ hp1
  obtain ⟨_, c1, c2, _, c5, c6, c7⟩ := h.jr.cells
  obtain ⟨oa, oc, hov, _⟩ := h.parts.out.len
  rw [hov] at c7
  have HX := Px.hid (JRun.refl h)
  have HOK := Px.hid hok
  obtain ⟨l1, hl1⟩ : ∃ l1, D6.bumpTop x.out x.stack = l1 := ⟨_, rfl⟩
  have hl1n : l1.length = x.out.length := by rw [← hl1, bumpTop_len]
  have HO := Px.hid (fun (v : Val) => jone_yes b s lim x v w vs vo ps h hok hi)
  simp only [hl1] at HO
  have hone : D6.one lim x ⟨3, 0, []⟩ = .ok { x with out := l1 ++ [⟨3, 0, []⟩] } := by unfold D6.one; rw [if_neg hi, hl1]
  have HR := Px.hid (show RR = .error e by
    rw [hRR, hv]
    unfold D6.numV
    rw [hone]
    simp only
    rw [ht])
  have HT := Px.hid (fun (w : World) (vo : Value) (h : Jr w b s lim x.at_ vs vo) => jnum_no HOK.out.ctx (Nat.le_of_lt hps) h ht)
  obtain ⟨L, hL⟩ : ∃ L, l1.length = L := ⟨_, rfl⟩
  have HL := Px.hid hL
  rw [← hl1n, hL] at c7
  have hL2 : L ≤ 4096 := by omega
  clear h hok hol hlen hmay hol2 hp1 hwa hRR hv hi hov hone ht hl1 hl1n hL
  go_enter Try.func36, Try.ntmps36
  go_wp2_with fail
  refine (HO.out ⟨3, 0, []⟩).mono ?_
  rintro r w1 ⟨rfl, vo1, hd⟩
  have H1 := Px.hid hd
  clear hd
  obtain ⟨g, cap, hvo, o1, o2, k0, _, k2, kf⟩ := H1.out.rep.val (j := L) (a := ⟨3, 0, []⟩) (by rw [← HL.out]; simp)
  simp only [List.length_append, List.length_singleton, HL.out] at hvo o1
  subst hvo
  have c7 := H1.out.rep.jr.cells.2.2.2.2.2.2
  unfold maxLen at o2
  have kf2 := kf (L * 3 + 2)
  clear kf k0
  go_upto_region 18 with fail
  refine wp_region_any (by kernel_rfl) ?_
  refine wpAny_take (i := 0) (v := ?_) rfl (by kernel_rfl) (by kernel_rfl) (by kernel_rfl) (fun _ _ _ h => h) (Or.inl ⟨by rfl, ?_⟩) ?_
  rotate_left
  · intro w
    go_simp
    try (with_reducible rfl)
  refine wpAny_take (i := 1) (v := ?_) rfl (by kernel_rfl) (by kernel_rfl) (by kernel_rfl) (fun _ _ _ h => h) (Or.inl ⟨by rfl, ?_⟩) ?_
  rotate_left
  · intro w
    go_simp
    try (with_reducible rfl)
  refine wpAny_take (i := 2) (v := ?_) rfl (by kernel_rfl) (by kernel_rfl) (by kernel_rfl) (fun _ _ _ h => h) (Or.inl ⟨by rfl, ?_⟩) ?_
  rotate_left
  · intro w
    go_simp
    try (with_reducible rfl)
  refine wpAny_take (i := 4) (v := ?_) rfl (by kernel_rfl) (by kernel_rfl) (by kernel_rfl) (fun _ _ _ h => h) (Or.inl ⟨by rfl, ?_⟩) ?_
  rotate_left
  · intro w
    go_simp
    try (with_reducible rfl)
  refine wpAny_take (i := 5) (v := ?_) rfl (by kernel_rfl) (by kernel_rfl) (by kernel_rfl) (fun _ _ _ h => h) (Or.inl ⟨by rfl, ?_⟩) ?_
  rotate_left
  · intro w
    go_simp
    try (with_reducible rfl)
  refine wpAny_ready (rs := [3, 6]) (by kernel_rfl) (by simp) ?_
  refine AllReady.cons rfl (fun K hK => ?_) (AllReady.cons rfl (fun K hK => ?_) AllReady.nil)
  · go_simp
    refine hK _ _ ?_
    clear hK K
    refine wpAny_ready (rs := [6]) (by kernel_rfl) (by simp) ?_
    refine AllReady.cons rfl (fun K hK => ?_) AllReady.nil
    go_simp
    refine (HT.out _ _ H1.out.rep.jr.drew).mono ?_
    rintro r w2 ⟨rfl, hf⟩
    exact ⟨rfl, JVal.bad HR.out (H1.out.drew.frit hf)⟩
  · go_simp
    refine (HT.out _ _ H1.out.rep.jr.drew).mono ?_
    rintro r w2 ⟨rfl, hf⟩
    exact ⟨rfl, JVal.bad HR.out (H1.out.drew.frit hf)⟩
set_option maxRecDepth 100000 in
set_option maxHeartbeats 4000000 in
theorem jyes_min (b : Nat) (s : Bytes) (lim : Lim) (x : D6.Dx) (w : World) (vs vo : Value) (ps : List (D6.Fm × Value)) (h : JRep w b s lim x vs vo ps) (hok : JOk s lim x) (hps : x.at_ < min s.length lim.b.toNat) (hi : ¬ (x.out.length : Int) = lim.i) (q : Nat) (ht : D6.number s lim x.at_ = .ok q) :
    Calls Try.prog 36 #[.pointer (some ⟨b, 0, none⟩), .int .u8 (45 : Nat)] w (JVal w b s lim vs vo ps (D6.value s lim x 45)) := by
  obtain ⟨RR, hRR⟩ : ∃ RR, RR = D6.value s lim x 45 := ⟨_, rfl⟩
  rw [← hRR]
  have hv : D6.value s lim x 45 = D6.numV s lim x := by
    unfold D6.value
    rw [if_neg (by decide), if_neg (by decide), if_pos (by decide)]
  have hlen := hok.ctx.len
  have hmay := J6.may_of hok.ctx.may
  have hol := hok.ol
  have hol2 : x.out.length ≤ 4096 := by omega
  have hp1 : x.at_ ≤ 140737488355327 := by omega
  have hwa := wrap1 x.at_ hp1
  obtain ⟨_, c1, c2, _, c5, c6, c7⟩ := h.jr.cells
  obtain ⟨oa, oc, hov, _⟩ := h.parts.out.len
  rw [hov] at c7
  have HX := Px.hid (JRun.refl h)
  have HOK := Px.hid hok
  obtain ⟨l1, hl1⟩ : ∃ l1, D6.bumpTop x.out x.stack = l1 := ⟨_, rfl⟩
  have hl1n : l1.length = x.out.length := by rw [← hl1, bumpTop_len]
  have HO := Px.hid (fun (v : Val) => jone_yes b s lim x v w vs vo ps h hok hi)
  simp only [hl1] at HO
  have hone : D6.one lim x ⟨3, 0, []⟩ = .ok { x with out := l1 ++ [⟨3, 0, []⟩] } := by unfold D6.one; rw [if_neg hi, hl1]
  obtain ⟨T, hT⟩ : ∃ T, ((s.take q).drop x.at_) = T := ⟨_, rfl⟩
  have HR := Px.hid (show RR = .ok (D6.over x, { x with at_ := q, out := (l1 ++ [(⟨3, 0, []⟩ : Val)]).set l1.length ⟨3, 0, T⟩ }) by
    rw [hRR, hv]
    unfold D6.numV
    rw [hone]
    simp only
    rw [ht]
    simp only
    rw [← hl1n, setText_set, ← hT])
  have HT := Px.hid (fun (w : World) (vo : Value) (h : Jr w b s lim x.at_ vs vo) => jnum_yes HOK.out.ctx (Nat.le_of_lt hps) h ht)
  simp only [hT] at HT
  obtain ⟨L, hL⟩ : ∃ L, l1.length = L := ⟨_, rfl⟩
  have HL := Px.hid hL
  rw [← hl1n, hL] at c7
  have hL2 : L ≤ 4096 := by omega
  rw [hL] at HR
  clear h hok hol hlen hmay hol2 hp1 hwa hRR hv hi hov hone ht hl1 hl1n hL hT
  go_enter Try.func36, Try.ntmps36
  go_wp2_with fail
  refine (HO.out ⟨3, 0, []⟩).mono ?_
  rintro r w1 ⟨rfl, vo1, hd⟩
  have H1 := Px.hid hd
  clear hd
  obtain ⟨g, cap, hvo, o1, o2, k0, _, k2, kf⟩ := H1.out.rep.val (j := L) (a := ⟨3, 0, []⟩) (by rw [← HL.out]; simp)
  simp only [List.length_append, List.length_singleton, HL.out] at hvo o1
  subst hvo
  have c7 := H1.out.rep.jr.cells.2.2.2.2.2.2
  unfold maxLen at o2
  have kf2 := kf (L * 3 + 2)
  clear kf k0
  have hgl := H1.out.rep.parts.lt (k := g) (mem_jbl.2 (.inl rfl))
  have hgb : g ≠ b := fun e => H1.out.rep.nb (mem_jbl.2 (.inl (by rw [← e]; rfl)))
  have HG := Px.hid (And.intro hgl hgb)
  have hLL : (L : Int) < (L : Int) + 1 := by omega
  clear hgl hgb
  go_upto_region 18 with fail
  go_region_with (go_at_call 54; refine (HT.out _ _ H1.out.rep.jr.drew).mono ?_; rintro r w2 ⟨rfl, hj, hf⟩; have c7b := hj.cells.2.2.2.2.2.2; have k2b : w2.cell? ⟨g, L * 3 + 2, none⟩ = some (S []) := (hf.cell (p := ⟨g, L * 3 + 2, none⟩) HG.out.1 (fun e => HG.out.2 e)).trans k2; have kfb : w2.frozen? ⟨g, L * 3 + 2, none⟩ = false := (World.frozen?_of_block (w := w1.drew) (a := ⟨g, L * 3 + 2, none⟩) (hf.block g HG.out.1 (fun e => HG.out.2 e))).trans kf2; have HW2 := Px.hid (H1.out.drew.it hj hf); clear hj hf)
  all_goals
    have HS := Px.hid (HW2.out.setVal (j := L) (a := ⟨3, 0, []⟩) (a' := ⟨3, 0, T⟩) (by simp only; rw [← HL.out]; simp) 2 (by decide) (S T) rfl)
    clear c7 c7b k2 k2b kf2 kfb o1 o2
    go_wp2_with fail
    refine (jover_any b s lim _ _ _ _ _ HS.out.rep).mono ?_
    rintro r w3 ⟨rfl, rfl⟩
    go_wp2
    go_ret
    exact JVal.good HR.out HS.out
set_option maxRecDepth 100000 in
set_option maxHeartbeats 4000000 in
theorem jfull_dig (b : Nat) (s : Bytes) (lim : Lim) (x : D6.Dx) (w : World) (vs vo : Value) (ps : List (D6.Fm × Value)) (h : JRep w b s lim x vs vo ps) (hok : JOk s lim x) (hps : x.at_ < min s.length lim.b.toNat) (c : Nat) (hdc : R6.digit c = true) (hi : (x.out.length : Int) = lim.i) :
    Calls Try.prog 36 #[.pointer (some ⟨b, 0, none⟩), .int .u8 (c : Nat)] w (JVal w b s lim vs vo ps (D6.value s lim x c)) := by
  obtain ⟨RR, hRR⟩ : ∃ RR, RR = D6.value s lim x c := ⟨_, rfl⟩
  rw [← hRR]
  have hv : D6.value s lim x c = D6.numV s lim x := by
    unfold D6.value
    have hdb : 48 ≤ c ∧ c ≤ 57 := by unfold R6.digit at hdc; simpa using hdc
    rw [if_neg (by simp; omega), if_neg (by simp; omega), if_pos (by simp [hdc])]
  have hlen := hok.ctx.len
  have hmay := J6.may_of hok.ctx.may
  have hol := hok.ol
  have hol2 : x.out.length ≤ 4096 := by omega
  have hp1 : x.at_ ≤ 140737488355327 := by omega
  have hwa := wrap1 x.at_ hp1
  obtain ⟨_, c1, c2, _, c5, c6, c7⟩ := h.jr.cells
  obtain ⟨oa, oc, hov, _⟩ := h.parts.out.len
  rw [hov] at c7
  have HX := Px.hid (JRun.refl h)
  have HOK := Px.hid hok
  have hdb : 48 ≤ c ∧ c ≤ 57 := by unfold R6.digit at hdc; simpa using hdc
  have eq123 : ((c : Int) == 123) = false := by simp; omega
  have eq91 : ((c : Int) == 91) = false := by simp; omega
  have eq34 : ((c : Int) == 34) = false := by simp; omega
  have eq45 : ((c : Int) == 45) = false := by simp; omega
  have ge48 : (48 : Int) ≤ (c : Int) := by omega
  have le57 : (c : Int) ≤ 57 := by omega
  have HR := Px.hid (show RR = .error ((x.at_ : Nat), 10) by
    rw [hRR, hv]
    unfold D6.numV D6.one
    rw [if_pos hi])
  have HO := Px.hid (fun (v : Val) => jone_full b s lim x v w vs vo ps h hi)
  clear h hok hol hlen hmay hol2 hp1 hwa hRR hv hps hi hov hdc hdb
  go_enter Try.func36, Try.ntmps36
  go_wp2_with fail
  refine (HO.out ⟨3, 0, []⟩).mono ?_
  rintro r w1 ⟨rfl, hs⟩
  have HS := Px.hid (HX.out.same hs)
  clear hs
  unfold jpanics
  go_wp2
  exact ⟨rfl, JVal.bad HR.out HS.out.fr⟩
set_option maxRecDepth 100000 in
set_option maxHeartbeats 4000000 in
theorem jno_dig (b : Nat) (s : Bytes) (lim : Lim) (x : D6.Dx) (w : World) (vs vo : Value) (ps : List (D6.Fm × Value)) (h : JRep w b s lim x vs vo ps) (hok : JOk s lim x) (hps : x.at_ < min s.length lim.b.toNat) (c : Nat) (hdc : R6.digit c = true) (hi : ¬ (x.out.length : Int) = lim.i) (e : D6.Flt) (ht : D6.number s lim x.at_ = .error e) :
    Calls Try.prog 36 #[.pointer (some ⟨b, 0, none⟩), .int .u8 (c : Nat)] w (JVal w b s lim vs vo ps (D6.value s lim x c)) := by
  obtain ⟨RR, hRR⟩ : ∃ RR, RR = D6.value s lim x c := ⟨_, rfl⟩
  rw [← hRR]
  have hv : D6.value s lim x c = D6.numV s lim x := by
    unfold D6.value
    have hdb : 48 ≤ c ∧ c ≤ 57 := by unfold R6.digit at hdc; simpa using hdc
    rw [if_neg (by simp; omega), if_neg (by simp; omega), if_pos (by simp [hdc])]
  have hlen := hok.ctx.len
  have hmay := J6.may_of hok.ctx.may
  have hol := hok.ol
  have hol2 : x.out.length ≤ 4096 := by omega
  have hp1 : x.at_ ≤ 140737488355327 := by omega
  have hwa := wrap1 x.at_ hp1
  obtain ⟨_, c1, c2, _, c5, c6, c7⟩ := h.jr.cells
  obtain ⟨oa, oc, hov, _⟩ := h.parts.out.len
  rw [hov] at c7
  have HX := Px.hid (JRun.refl h)
  have HOK := Px.hid hok
  have hdb : 48 ≤ c ∧ c ≤ 57 := by unfold R6.digit at hdc; simpa using hdc
  have eq123 : ((c : Int) == 123) = false := by simp; omega
  have eq91 : ((c : Int) == 91) = false := by simp; omega
  have eq34 : ((c : Int) == 34) = false := by simp; omega
  have eq45 : ((c : Int) == 45) = false := by simp; omega
  have ge48 : (48 : Int) ≤ (c : Int) := by omega
  have le57 : (c : Int) ≤ 57 := by omega
  obtain ⟨l1, hl1⟩ : ∃ l1, D6.bumpTop x.out x.stack = l1 := ⟨_, rfl⟩
  have hl1n : l1.length = x.out.length := by rw [← hl1, bumpTop_len]
  have HO := Px.hid (fun (v : Val) => jone_yes b s lim x v w vs vo ps h hok hi)
  simp only [hl1] at HO
  have hone : D6.one lim x ⟨3, 0, []⟩ = .ok { x with out := l1 ++ [⟨3, 0, []⟩] } := by unfold D6.one; rw [if_neg hi, hl1]
  have HR := Px.hid (show RR = .error e by
    rw [hRR, hv]
    unfold D6.numV
    rw [hone]
    simp only
    rw [ht])
  have HT := Px.hid (fun (w : World) (vo : Value) (h : Jr w b s lim x.at_ vs vo) => jnum_no HOK.out.ctx (Nat.le_of_lt hps) h ht)
  obtain ⟨L, hL⟩ : ∃ L, l1.length = L := ⟨_, rfl⟩
  have HL := Px.hid hL
  rw [← hl1n, hL] at c7
  have hL2 : L ≤ 4096 := by omega
  clear h hok hol hlen hmay hol2 hp1 hwa hRR hv hi hov hone ht hl1 hl1n hL hdc hdb
  go_enter Try.func36, Try.ntmps36
  go_wp2_with fail
  refine (HO.out ⟨3, 0, []⟩).mono ?_
  rintro r w1 ⟨rfl, vo1, hd⟩
  have H1 := Px.hid hd
  clear hd
  obtain ⟨g, cap, hvo, o1, o2, k0, _, k2, kf⟩ := H1.out.rep.val (j := L) (a := ⟨3, 0, []⟩) (by rw [← HL.out]; simp)
  simp only [List.length_append, List.length_singleton, HL.out] at hvo o1
  subst hvo
  have c7 := H1.out.rep.jr.cells.2.2.2.2.2.2
  unfold maxLen at o2
  have kf2 := kf (L * 3 + 2)
  clear kf k0
  go_upto_region 18 with fail
  refine wp_region_any (by kernel_rfl) ?_
  refine wpAny_take (i := 0) (v := ?_) rfl (by kernel_rfl) (by kernel_rfl) (by kernel_rfl) (fun _ _ _ h => h) (Or.inl ⟨by rfl, ?_⟩) ?_
  rotate_left
  · intro w
    go_simp
    try (with_reducible rfl)
  refine wpAny_take (i := 1) (v := ?_) rfl (by kernel_rfl) (by kernel_rfl) (by kernel_rfl) (fun _ _ _ h => h) (Or.inl ⟨by rfl, ?_⟩) ?_
  rotate_left
  · intro w
    go_simp
    try (with_reducible rfl)
  refine wpAny_take (i := 2) (v := ?_) rfl (by kernel_rfl) (by kernel_rfl) (by kernel_rfl) (fun _ _ _ h => h) (Or.inl ⟨by rfl, ?_⟩) ?_
  rotate_left
  · intro w
    go_simp
    try (with_reducible rfl)
  refine wpAny_take (i := 4) (v := ?_) rfl (by kernel_rfl) (by kernel_rfl) (by kernel_rfl) (fun _ _ _ h => h) (Or.inl ⟨by rfl, ?_⟩) ?_
  rotate_left
  · intro w
    go_simp
    try (with_reducible rfl)
  refine wpAny_take (i := 5) (v := ?_) rfl (by kernel_rfl) (by kernel_rfl) (by kernel_rfl) (fun _ _ _ h => h) (Or.inl ⟨by rfl, ?_⟩) ?_
  rotate_left
  · intro w
    go_simp
    try (with_reducible rfl)
  refine wpAny_ready (rs := [3, 6]) (by kernel_rfl) (by simp) ?_
  refine AllReady.cons rfl (fun K hK => ?_) (AllReady.cons rfl (fun K hK => ?_) AllReady.nil)
  · go_simp
    refine hK _ _ ?_
    clear hK K
    refine wpAny_ready (rs := [6]) (by kernel_rfl) (by simp) ?_
    refine AllReady.cons rfl (fun K hK => ?_) AllReady.nil
    go_simp
    refine (HT.out _ _ H1.out.rep.jr.drew).mono ?_
    rintro r w2 ⟨rfl, hf⟩
    exact ⟨rfl, JVal.bad HR.out (H1.out.drew.frit hf)⟩
  · go_simp
    refine (HT.out _ _ H1.out.rep.jr.drew).mono ?_
    rintro r w2 ⟨rfl, hf⟩
    exact ⟨rfl, JVal.bad HR.out (H1.out.drew.frit hf)⟩
set_option maxRecDepth 100000 in
set_option maxHeartbeats 4000000 in
theorem jyes_dig (b : Nat) (s : Bytes) (lim : Lim) (x : D6.Dx) (w : World) (vs vo : Value) (ps : List (D6.Fm × Value)) (h : JRep w b s lim x vs vo ps) (hok : JOk s lim x) (hps : x.at_ < min s.length lim.b.toNat) (c : Nat) (hdc : R6.digit c = true) (hi : ¬ (x.out.length : Int) = lim.i) (q : Nat) (ht : D6.number s lim x.at_ = .ok q) :
    Calls Try.prog 36 #[.pointer (some ⟨b, 0, none⟩), .int .u8 (c : Nat)] w (JVal w b s lim vs vo ps (D6.value s lim x c)) := by
  obtain ⟨RR, hRR⟩ : ∃ RR, RR = D6.value s lim x c := ⟨_, rfl⟩
  rw [← hRR]
  have hv : D6.value s lim x c = D6.numV s lim x := by
    unfold D6.value
    have hdb : 48 ≤ c ∧ c ≤ 57 := by unfold R6.digit at hdc; simpa using hdc
    rw [if_neg (by simp; omega), if_neg (by simp; omega), if_pos (by simp [hdc])]
  have hlen := hok.ctx.len
  have hmay := J6.may_of hok.ctx.may
  have hol := hok.ol
  have hol2 : x.out.length ≤ 4096 := by omega
  have hp1 : x.at_ ≤ 140737488355327 := by omega
  have hwa := wrap1 x.at_ hp1
  obtain ⟨_, c1, c2, _, c5, c6, c7⟩ := h.jr.cells
  obtain ⟨oa, oc, hov, _⟩ := h.parts.out.len
  rw [hov] at c7
  have HX := Px.hid (JRun.refl h)
  have HOK := Px.hid hok
  have hdb : 48 ≤ c ∧ c ≤ 57 := by unfold R6.digit at hdc; simpa using hdc
  have eq123 : ((c : Int) == 123) = false := by simp; omega
  have eq91 : ((c : Int) == 91) = false := by simp; omega
  have eq34 : ((c : Int) == 34) = false := by simp; omega
  have eq45 : ((c : Int) == 45) = false := by simp; omega
  have ge48 : (48 : Int) ≤ (c : Int) := by omega
  have le57 : (c : Int) ≤ 57 := by omega
  obtain ⟨l1, hl1⟩ : ∃ l1, D6.bumpTop x.out x.stack = l1 := ⟨_, rfl⟩
  have hl1n : l1.length = x.out.length := by rw [← hl1, bumpTop_len]
  have HO := Px.hid (fun (v : Val) => jone_yes b s lim x v w vs vo ps h hok hi)
  simp only [hl1] at HO
  have hone : D6.one lim x ⟨3, 0, []⟩ = .ok { x with out := l1 ++ [⟨3, 0, []⟩] } := by unfold D6.one; rw [if_neg hi, hl1]
  obtain ⟨T, hT⟩ : ∃ T, ((s.take q).drop x.at_) = T := ⟨_, rfl⟩
  have HR := Px.hid (show RR = .ok (D6.over x, { x with at_ := q, out := (l1 ++ [(⟨3, 0, []⟩ : Val)]).set l1.length ⟨3, 0, T⟩ }) by
    rw [hRR, hv]
    unfold D6.numV
    rw [hone]
    simp only
    rw [ht]
    simp only
    rw [← hl1n, setText_set, ← hT])
  have HT := Px.hid (fun (w : World) (vo : Value) (h : Jr w b s lim x.at_ vs vo) => jnum_yes HOK.out.ctx (Nat.le_of_lt hps) h ht)
  simp only [hT] at HT
  obtain ⟨L, hL⟩ : ∃ L, l1.length = L := ⟨_, rfl⟩
  have HL := Px.hid hL
  rw [← hl1n, hL] at c7
  have hL2 : L ≤ 4096 := by omega
  rw [hL] at HR
  clear h hok hol hlen hmay hol2 hp1 hwa hRR hv hi hov hone ht hl1 hl1n hL hT hdc hdb
  go_enter Try.func36, Try.ntmps36
  go_wp2_with fail
  refine (HO.out ⟨3, 0, []⟩).mono ?_
  rintro r w1 ⟨rfl, vo1, hd⟩
  have H1 := Px.hid hd
  clear hd
  obtain ⟨g, cap, hvo, o1, o2, k0, _, k2, kf⟩ := H1.out.rep.val (j := L) (a := ⟨3, 0, []⟩) (by rw [← HL.out]; simp)
  simp only [List.length_append, List.length_singleton, HL.out] at hvo o1
  subst hvo
  have c7 := H1.out.rep.jr.cells.2.2.2.2.2.2
  unfold maxLen at o2
  have kf2 := kf (L * 3 + 2)
  clear kf k0
  have hgl := H1.out.rep.parts.lt (k := g) (mem_jbl.2 (.inl rfl))
  have hgb : g ≠ b := fun e => H1.out.rep.nb (mem_jbl.2 (.inl (by rw [← e]; rfl)))
  have HG := Px.hid (And.intro hgl hgb)
  have hLL : (L : Int) < (L : Int) + 1 := by omega
  clear hgl hgb
  go_upto_region 18 with fail
  go_region_with (go_at_call 54; refine (HT.out _ _ H1.out.rep.jr.drew).mono ?_; rintro r w2 ⟨rfl, hj, hf⟩; have c7b := hj.cells.2.2.2.2.2.2; have k2b : w2.cell? ⟨g, L * 3 + 2, none⟩ = some (S []) := (hf.cell (p := ⟨g, L * 3 + 2, none⟩) HG.out.1 (fun e => HG.out.2 e)).trans k2; have kfb : w2.frozen? ⟨g, L * 3 + 2, none⟩ = false := (World.frozen?_of_block (w := w1.drew) (a := ⟨g, L * 3 + 2, none⟩) (hf.block g HG.out.1 (fun e => HG.out.2 e))).trans kf2; have HW2 := Px.hid (H1.out.drew.it hj hf); clear hj hf)
  all_goals
    have HS := Px.hid (HW2.out.setVal (j := L) (a := ⟨3, 0, []⟩) (a' := ⟨3, 0, T⟩) (by simp only; rw [← HL.out]; simp) 2 (by decide) (S T) rfl)
    clear c7 c7b k2 k2b kf2 kfb o1 o2
    go_wp2_with fail
    refine (jover_any b s lim _ _ _ _ _ HS.out.rep).mono ?_
    rintro r w3 ⟨rfl, rfl⟩
    go_wp2
    go_ret
    exact JVal.good HR.out HS.out
set_option maxRecDepth 100000 in
set_option maxHeartbeats 4000000 in
theorem jfull_true (b : Nat) (s : Bytes) (lim : Lim) (x : D6.Dx) (w : World) (vs vo : Value) (ps : List (D6.Fm × Value)) (h : JRep w b s lim x vs vo ps) (hok : JOk s lim x) (hps : x.at_ < min s.length lim.b.toNat) (hi : (x.out.length : Int) = lim.i) :
    Calls Try.prog 36 #[.pointer (some ⟨b, 0, none⟩), .int .u8 (116 : Nat)] w (JVal w b s lim vs vo ps (D6.value s lim x 116)) := by
  obtain ⟨RR, hRR⟩ : ∃ RR, RR = D6.value s lim x 116 := ⟨_, rfl⟩
  rw [← hRR]
  have hv : D6.value s lim x 116 = D6.wordV s lim x 2 [116, 114, 117, 101] := by
    unfold D6.value
    rfl
  have hlen := hok.ctx.len
  have hmay := J6.may_of hok.ctx.may
  have hol := hok.ol
  have hol2 : x.out.length ≤ 4096 := by omega
  have hp1 : x.at_ ≤ 140737488355327 := by omega
  have hwa := wrap1 x.at_ hp1
  obtain ⟨_, c1, c2, _, c5, c6, c7⟩ := h.jr.cells
  obtain ⟨oa, oc, hov, _⟩ := h.parts.out.len
  rw [hov] at c7
  have HX := Px.hid (JRun.refl h)
  have HOK := Px.hid hok
  have HR := Px.hid (show RR = .error ((x.at_ : Nat), 10) by
    rw [hRR, hv]
    unfold D6.wordV D6.one
    rw [if_pos hi])
  have HO := Px.hid (fun (v : Val) => jone_full b s lim x v w vs vo ps h hi)
  clear h hok hol hlen hmay hol2 hp1 hwa hRR hv hps hi hov
  go_enter Try.func36, Try.ntmps36
  go_wp2_with fail
  refine (HO.out ⟨2, 0, []⟩).mono ?_
  rintro r w1 ⟨rfl, hs⟩
  have HS := Px.hid (HX.out.same hs)
  clear hs
  unfold jpanics
  go_wp2
  exact ⟨rfl, JVal.bad HR.out HS.out.fr⟩
set_option maxRecDepth 100000 in
set_option maxHeartbeats 4000000 in
theorem jno_true (b : Nat) (s : Bytes) (lim : Lim) (x : D6.Dx) (w : World) (vs vo : Value) (ps : List (D6.Fm × Value)) (h : JRep w b s lim x vs vo ps) (hok : JOk s lim x) (hps : x.at_ < min s.length lim.b.toNat) (hi : ¬ (x.out.length : Int) = lim.i) (e : D6.Flt) (ht : D6.wordN s lim [116, 114, 117, 101] x.at_ = .error e) :
    Calls Try.prog 36 #[.pointer (some ⟨b, 0, none⟩), .int .u8 (116 : Nat)] w (JVal w b s lim vs vo ps (D6.value s lim x 116)) := by
  obtain ⟨RR, hRR⟩ : ∃ RR, RR = D6.value s lim x 116 := ⟨_, rfl⟩
  rw [← hRR]
  have hv : D6.value s lim x 116 = D6.wordV s lim x 2 [116, 114, 117, 101] := by
    unfold D6.value
    rfl
  have hlen := hok.ctx.len
  have hmay := J6.may_of hok.ctx.may
  have hol := hok.ol
  have hol2 : x.out.length ≤ 4096 := by omega
  have hp1 : x.at_ ≤ 140737488355327 := by omega
  have hwa := wrap1 x.at_ hp1
  obtain ⟨_, c1, c2, _, c5, c6, c7⟩ := h.jr.cells
  obtain ⟨oa, oc, hov, _⟩ := h.parts.out.len
  rw [hov] at c7
  have HX := Px.hid (JRun.refl h)
  have HOK := Px.hid hok
  obtain ⟨l1, hl1⟩ : ∃ l1, D6.bumpTop x.out x.stack = l1 := ⟨_, rfl⟩
  have hl1n : l1.length = x.out.length := by rw [← hl1, bumpTop_len]
  have HO := Px.hid (fun (v : Val) => jone_yes b s lim x v w vs vo ps h hok hi)
  simp only [hl1] at HO
  have hone : D6.one lim x ⟨2, 0, []⟩ = .ok { x with out := l1 ++ [⟨2, 0, []⟩] } := by unfold D6.one; rw [if_neg hi, hl1]
  have HR := Px.hid (show RR = .error e by
    rw [hRR, hv]
    unfold D6.wordV
    rw [hone]
    simp only
    rw [ht])
  have HT := Px.hid (fun (w : World) (vo : Value) (h : Jr w b s lim x.at_ vs vo) => jword_no HOK.out.ctx hp1 (by decide) h ht)
  clear h hok hol hlen hmay hol2 hp1 hwa hRR hv hi hov hone ht hl1 hl1n
  go_enter Try.func36, Try.ntmps36
  go_wp2_with fail
  refine (HO.out ⟨2, 0, []⟩).mono ?_
  rintro r w1 ⟨rfl, vo1, hd⟩
  have H1 := Px.hid hd
  clear hd
  go_wp2_with fail
  refine (HT.out _ _ H1.out.rep.jr).mono ?_
  rintro r w2 ⟨rfl, hf⟩
  have HS := Px.hid (H1.out.frit hf)
  clear hf
  unfold jpanics
  go_wp2
  exact ⟨rfl, JVal.bad HR.out HS.out⟩
set_option maxRecDepth 100000 in
set_option maxHeartbeats 4000000 in
theorem jyes_true (b : Nat) (s : Bytes) (lim : Lim) (x : D6.Dx) (w : World) (vs vo : Value) (ps : List (D6.Fm × Value)) (h : JRep w b s lim x vs vo ps) (hok : JOk s lim x) (hps : x.at_ < min s.length lim.b.toNat) (hi : ¬ (x.out.length : Int) = lim.i) (q : Nat) (ht : D6.wordN s lim [116, 114, 117, 101] x.at_ = .ok q) :
    Calls Try.prog 36 #[.pointer (some ⟨b, 0, none⟩), .int .u8 (116 : Nat)] w (JVal w b s lim vs vo ps (D6.value s lim x 116)) := by
  obtain ⟨RR, hRR⟩ : ∃ RR, RR = D6.value s lim x 116 := ⟨_, rfl⟩
  rw [← hRR]
  have hv : D6.value s lim x 116 = D6.wordV s lim x 2 [116, 114, 117, 101] := by
    unfold D6.value
    rfl
  have hlen := hok.ctx.len
  have hmay := J6.may_of hok.ctx.may
  have hol := hok.ol
  have hol2 : x.out.length ≤ 4096 := by omega
  have hp1 : x.at_ ≤ 140737488355327 := by omega
  have hwa := wrap1 x.at_ hp1
  obtain ⟨_, c1, c2, _, c5, c6, c7⟩ := h.jr.cells
  obtain ⟨oa, oc, hov, _⟩ := h.parts.out.len
  rw [hov] at c7
  have HX := Px.hid (JRun.refl h)
  have HOK := Px.hid hok
  obtain ⟨l1, hl1⟩ : ∃ l1, D6.bumpTop x.out x.stack = l1 := ⟨_, rfl⟩
  have hl1n : l1.length = x.out.length := by rw [← hl1, bumpTop_len]
  have HO := Px.hid (fun (v : Val) => jone_yes b s lim x v w vs vo ps h hok hi)
  simp only [hl1] at HO
  have hone : D6.one lim x ⟨2, 0, []⟩ = .ok { x with out := l1 ++ [⟨2, 0, []⟩] } := by unfold D6.one; rw [if_neg hi, hl1]
  have HR := Px.hid (show RR = .ok (D6.over x, { x with at_ := q, out := l1 ++ [⟨2, 0, []⟩] }) by
    rw [hRR, hv]
    unfold D6.wordV
    rw [hone]
    simp only
    rw [ht])
  have HT := Px.hid (fun (w : World) (vo : Value) (h : Jr w b s lim x.at_ vs vo) => jword_yes HOK.out.ctx hp1 (by decide) h ht)
  clear h hok hol hlen hmay hol2 hp1 hwa hRR hv hi hov hone ht hl1 hl1n
  go_enter Try.func36, Try.ntmps36
  go_wp2_with fail
  refine (HO.out ⟨2, 0, []⟩).mono ?_
  rintro r w1 ⟨rfl, vo1, hd⟩
  have H1 := Px.hid hd
  clear hd
  go_wp2_with fail
  refine (HT.out _ _ H1.out.rep.jr).mono ?_
  rintro r w2 ⟨rfl, hj, hf⟩
  have HS := Px.hid (H1.out.it hj hf)
  clear hj hf
  go_wp2_with fail
  refine (jover_any b s lim _ _ _ _ _ HS.out.rep).mono ?_
  rintro r w3 ⟨rfl, rfl⟩
  go_wp2
  go_ret
  exact JVal.good HR.out HS.out
set_option maxRecDepth 100000 in
set_option maxHeartbeats 4000000 in
theorem jfull_false (b : Nat) (s : Bytes) (lim : Lim) (x : D6.Dx) (w : World) (vs vo : Value) (ps : List (D6.Fm × Value)) (h : JRep w b s lim x vs vo ps) (hok : JOk s lim x) (hps : x.at_ < min s.length lim.b.toNat) (hi : (x.out.length : Int) = lim.i) :
    Calls Try.prog 36 #[.pointer (some ⟨b, 0, none⟩), .int .u8 (102 : Nat)] w (JVal w b s lim vs vo ps (D6.value s lim x 102)) := by
  obtain ⟨RR, hRR⟩ : ∃ RR, RR = D6.value s lim x 102 := ⟨_, rfl⟩
  rw [← hRR]
  have hv : D6.value s lim x 102 = D6.wordV s lim x 1 [102, 97, 108, 115, 101] := by
    unfold D6.value
    rfl
  have hlen := hok.ctx.len
  have hmay := J6.may_of hok.ctx.may
  have hol := hok.ol
  have hol2 : x.out.length ≤ 4096 := by omega
  have hp1 : x.at_ ≤ 140737488355327 := by omega
  have hwa := wrap1 x.at_ hp1
  obtain ⟨_, c1, c2, _, c5, c6, c7⟩ := h.jr.cells
  obtain ⟨oa, oc, hov, _⟩ := h.parts.out.len
  rw [hov] at c7
  have HX := Px.hid (JRun.refl h)
  have HOK := Px.hid hok
  have HR := Px.hid (show RR = .error ((x.at_ : Nat), 10) by
    rw [hRR, hv]
    unfold D6.wordV D6.one
    rw [if_pos hi])
  have HO := Px.hid (fun (v : Val) => jone_full b s lim x v w vs vo ps h hi)
  clear h hok hol hlen hmay hol2 hp1 hwa hRR hv hps hi hov
  go_enter Try.func36, Try.ntmps36
  go_wp2_with fail
  refine (HO.out ⟨1, 0, []⟩).mono ?_
  rintro r w1 ⟨rfl, hs⟩
  have HS := Px.hid (HX.out.same hs)
  clear hs
  unfold jpanics
  go_wp2
  exact ⟨rfl, JVal.bad HR.out HS.out.fr⟩
set_option maxRecDepth 100000 in
set_option maxHeartbeats 4000000 in
theorem jno_false (b : Nat) (s : Bytes) (lim : Lim) (x : D6.Dx) (w : World) (vs vo : Value) (ps : List (D6.Fm × Value)) (h : JRep w b s lim x vs vo ps) (hok : JOk s lim x) (hps : x.at_ < min s.length lim.b.toNat) (hi : ¬ (x.out.length : Int) = lim.i) (e : D6.Flt) (ht : D6.wordN s lim [102, 97, 108, 115, 101] x.at_ = .error e) :
    Calls Try.prog 36 #[.pointer (some ⟨b, 0, none⟩), .int .u8 (102 : Nat)] w (JVal w b s lim vs vo ps (D6.value s lim x 102)) := by
  obtain ⟨RR, hRR⟩ : ∃ RR, RR = D6.value s lim x 102 := ⟨_, rfl⟩
  rw [← hRR]
  have hv : D6.value s lim x 102 = D6.wordV s lim x 1 [102, 97, 108, 115, 101] := by
    unfold D6.value
    rfl
  have hlen := hok.ctx.len
  have hmay := J6.may_of hok.ctx.may
  have hol := hok.ol
  have hol2 : x.out.length ≤ 4096 := by omega
  have hp1 : x.at_ ≤ 140737488355327 := by omega
  have hwa := wrap1 x.at_ hp1
  obtain ⟨_, c1, c2, _, c5, c6, c7⟩ := h.jr.cells
  obtain ⟨oa, oc, hov, _⟩ := h.parts.out.len
  rw [hov] at c7
  have HX := Px.hid (JRun.refl h)
  have HOK := Px.hid hok
  obtain ⟨l1, hl1⟩ : ∃ l1, D6.bumpTop x.out x.stack = l1 := ⟨_, rfl⟩
  have hl1n : l1.length = x.out.length := by rw [← hl1, bumpTop_len]
  have HO := Px.hid (fun (v : Val) => jone_yes b s lim x v w vs vo ps h hok hi)
  simp only [hl1] at HO
  have hone : D6.one lim x ⟨1, 0, []⟩ = .ok { x with out := l1 ++ [⟨1, 0, []⟩] } := by unfold D6.one; rw [if_neg hi, hl1]
  have HR := Px.hid (show RR = .error e by
    rw [hRR, hv]
    unfold D6.wordV
    rw [hone]
    simp only
    rw [ht])
  have HT := Px.hid (fun (w : World) (vo : Value) (h : Jr w b s lim x.at_ vs vo) => jword_no HOK.out.ctx hp1 (by decide) h ht)
  clear h hok hol hlen hmay hol2 hp1 hwa hRR hv hi hov hone ht hl1 hl1n
  go_enter Try.func36, Try.ntmps36
  go_wp2_with fail
  refine (HO.out ⟨1, 0, []⟩).mono ?_
  rintro r w1 ⟨rfl, vo1, hd⟩
  have H1 := Px.hid hd
  clear hd
  go_wp2_with fail
  refine (HT.out _ _ H1.out.rep.jr).mono ?_
  rintro r w2 ⟨rfl, hf⟩
  have HS := Px.hid (H1.out.frit hf)
  clear hf
  unfold jpanics
  go_wp2
  exact ⟨rfl, JVal.bad HR.out HS.out⟩
set_option maxRecDepth 100000 in
set_option maxHeartbeats 4000000 in
theorem jyes_false (b : Nat) (s : Bytes) (lim : Lim) (x : D6.Dx) (w : World) (vs vo : Value) (ps : List (D6.Fm × Value)) (h : JRep w b s lim x vs vo ps) (hok : JOk s lim x) (hps : x.at_ < min s.length lim.b.toNat) (hi : ¬ (x.out.length : Int) = lim.i) (q : Nat) (ht : D6.wordN s lim [102, 97, 108, 115, 101] x.at_ = .ok q) :
    Calls Try.prog 36 #[.pointer (some ⟨b, 0, none⟩), .int .u8 (102 : Nat)] w (JVal w b s lim vs vo ps (D6.value s lim x 102)) := by
  obtain ⟨RR, hRR⟩ : ∃ RR, RR = D6.value s lim x 102 := ⟨_, rfl⟩
  rw [← hRR]
  have hv : D6.value s lim x 102 = D6.wordV s lim x 1 [102, 97, 108, 115, 101] := by
    unfold D6.value
    rfl
  have hlen := hok.ctx.len
  have hmay := J6.may_of hok.ctx.may
  have hol := hok.ol
  have hol2 : x.out.length ≤ 4096 := by omega
  have hp1 : x.at_ ≤ 140737488355327 := by omega
  have hwa := wrap1 x.at_ hp1
  obtain ⟨_, c1, c2, _, c5, c6, c7⟩ := h.jr.cells
  obtain ⟨oa, oc, hov, _⟩ := h.parts.out.len
  rw [hov] at c7
  have HX := Px.hid (JRun.refl h)
  have HOK := Px.hid hok
  obtain ⟨l1, hl1⟩ : ∃ l1, D6.bumpTop x.out x.stack = l1 := ⟨_, rfl⟩
  have hl1n : l1.length = x.out.length := by rw [← hl1, bumpTop_len]
  have HO := Px.hid (fun (v : Val) => jone_yes b s lim x v w vs vo ps h hok hi)
  simp only [hl1] at HO
  have hone : D6.one lim x ⟨1, 0, []⟩ = .ok { x with out := l1 ++ [⟨1, 0, []⟩] } := by unfold D6.one; rw [if_neg hi, hl1]
  have HR := Px.hid (show RR = .ok (D6.over x, { x with at_ := q, out := l1 ++ [⟨1, 0, []⟩] }) by
    rw [hRR, hv]
    unfold D6.wordV
    rw [hone]
    simp only
    rw [ht])
  have HT := Px.hid (fun (w : World) (vo : Value) (h : Jr w b s lim x.at_ vs vo) => jword_yes HOK.out.ctx hp1 (by decide) h ht)
  clear h hok hol hlen hmay hol2 hp1 hwa hRR hv hi hov hone ht hl1 hl1n
  go_enter Try.func36, Try.ntmps36
  go_wp2_with fail
  refine (HO.out ⟨1, 0, []⟩).mono ?_
  rintro r w1 ⟨rfl, vo1, hd⟩
  have H1 := Px.hid hd
  clear hd
  go_wp2_with fail
  refine (HT.out _ _ H1.out.rep.jr).mono ?_
  rintro r w2 ⟨rfl, hj, hf⟩
  have HS := Px.hid (H1.out.it hj hf)
  clear hj hf
  go_wp2_with fail
  refine (jover_any b s lim _ _ _ _ _ HS.out.rep).mono ?_
  rintro r w3 ⟨rfl, rfl⟩
  go_wp2
  go_ret
  exact JVal.good HR.out HS.out
set_option maxRecDepth 100000 in
set_option maxHeartbeats 4000000 in
theorem jfull_null (b : Nat) (s : Bytes) (lim : Lim) (x : D6.Dx) (w : World) (vs vo : Value) (ps : List (D6.Fm × Value)) (h : JRep w b s lim x vs vo ps) (hok : JOk s lim x) (hps : x.at_ < min s.length lim.b.toNat) (hi : (x.out.length : Int) = lim.i) :
    Calls Try.prog 36 #[.pointer (some ⟨b, 0, none⟩), .int .u8 (110 : Nat)] w (JVal w b s lim vs vo ps (D6.value s lim x 110)) := by
  obtain ⟨RR, hRR⟩ : ∃ RR, RR = D6.value s lim x 110 := ⟨_, rfl⟩
  rw [← hRR]
  have hv : D6.value s lim x 110 = D6.wordV s lim x 0 [110, 117, 108, 108] := by
    unfold D6.value
    rfl
  have hlen := hok.ctx.len
  have hmay := J6.may_of hok.ctx.may
  have hol := hok.ol
  have hol2 : x.out.length ≤ 4096 := by omega
  have hp1 : x.at_ ≤ 140737488355327 := by omega
  have hwa := wrap1 x.at_ hp1
  obtain ⟨_, c1, c2, _, c5, c6, c7⟩ := h.jr.cells
  obtain ⟨oa, oc, hov, _⟩ := h.parts.out.len
  rw [hov] at c7
  have HX := Px.hid (JRun.refl h)
  have HOK := Px.hid hok
  have HR := Px.hid (show RR = .error ((x.at_ : Nat), 10) by
    rw [hRR, hv]
    unfold D6.wordV D6.one
    rw [if_pos hi])
  have HO := Px.hid (fun (v : Val) => jone_full b s lim x v w vs vo ps h hi)
  clear h hok hol hlen hmay hol2 hp1 hwa hRR hv hps hi hov
  go_enter Try.func36, Try.ntmps36
  go_wp2_with fail
  refine (HO.out ⟨0, 0, []⟩).mono ?_
  rintro r w1 ⟨rfl, hs⟩
  have HS := Px.hid (HX.out.same hs)
  clear hs
  unfold jpanics
  go_wp2
  exact ⟨rfl, JVal.bad HR.out HS.out.fr⟩
set_option maxRecDepth 100000 in
set_option maxHeartbeats 4000000 in
theorem jno_null (b : Nat) (s : Bytes) (lim : Lim) (x : D6.Dx) (w : World) (vs vo : Value) (ps : List (D6.Fm × Value)) (h : JRep w b s lim x vs vo ps) (hok : JOk s lim x) (hps : x.at_ < min s.length lim.b.toNat) (hi : ¬ (x.out.length : Int) = lim.i) (e : D6.Flt) (ht : D6.wordN s lim [110, 117, 108, 108] x.at_ = .error e) :
    Calls Try.prog 36 #[.pointer (some ⟨b, 0, none⟩), .int .u8 (110 : Nat)] w (JVal w b s lim vs vo ps (D6.value s lim x 110)) := by
  obtain ⟨RR, hRR⟩ : ∃ RR, RR = D6.value s lim x 110 := ⟨_, rfl⟩
  rw [← hRR]
  have hv : D6.value s lim x 110 = D6.wordV s lim x 0 [110, 117, 108, 108] := by
    unfold D6.value
    rfl
  have hlen := hok.ctx.len
  have hmay := J6.may_of hok.ctx.may
  have hol := hok.ol
  have hol2 : x.out.length ≤ 4096 := by omega
  have hp1 : x.at_ ≤ 140737488355327 := by omega
  have hwa := wrap1 x.at_ hp1
  obtain ⟨_, c1, c2, _, c5, c6, c7⟩ := h.jr.cells
  obtain ⟨oa, oc, hov, _⟩ := h.parts.out.len
  rw [hov] at c7
  have HX := Px.hid (JRun.refl h)
  have HOK := Px.hid hok
  obtain ⟨l1, hl1⟩ : ∃ l1, D6.bumpTop x.out x.stack = l1 := ⟨_, rfl⟩
  have hl1n : l1.length = x.out.length := by rw [← hl1, bumpTop_len]
  have HO := Px.hid (fun (v : Val) => jone_yes b s lim x v w vs vo ps h hok hi)
  simp only [hl1] at HO
  have hone : D6.one lim x ⟨0, 0, []⟩ = .ok { x with out := l1 ++ [⟨0, 0, []⟩] } := by unfold D6.one; rw [if_neg hi, hl1]
  have HR := Px.hid (show RR = .error e by
    rw [hRR, hv]
    unfold D6.wordV
    rw [hone]
    simp only
    rw [ht])
  have HT := Px.hid (fun (w : World) (vo : Value) (h : Jr w b s lim x.at_ vs vo) => jword_no HOK.out.ctx hp1 (by decide) h ht)
  clear h hok hol hlen hmay hol2 hp1 hwa hRR hv hi hov hone ht hl1 hl1n
  go_enter Try.func36, Try.ntmps36
  go_wp2_with fail
  refine (HO.out ⟨0, 0, []⟩).mono ?_
  rintro r w1 ⟨rfl, vo1, hd⟩
  have H1 := Px.hid hd
  clear hd
  go_wp2_with fail
  refine (HT.out _ _ H1.out.rep.jr).mono ?_
  rintro r w2 ⟨rfl, hf⟩
  have HS := Px.hid (H1.out.frit hf)
  clear hf
  unfold jpanics
  go_wp2
  exact ⟨rfl, JVal.bad HR.out HS.out⟩
set_option maxRecDepth 100000 in
set_option maxHeartbeats 4000000 in
theorem jyes_null (b : Nat) (s : Bytes) (lim : Lim) (x : D6.Dx) (w : World) (vs vo : Value) (ps : List (D6.Fm × Value)) (h : JRep w b s lim x vs vo ps) (hok : JOk s lim x) (hps : x.at_ < min s.length lim.b.toNat) (hi : ¬ (x.out.length : Int) = lim.i) (q : Nat) (ht : D6.wordN s lim [110, 117, 108, 108] x.at_ = .ok q) :
    Calls Try.prog 36 #[.pointer (some ⟨b, 0, none⟩), .int .u8 (110 : Nat)] w (JVal w b s lim vs vo ps (D6.value s lim x 110)) := by
  obtain ⟨RR, hRR⟩ : ∃ RR, RR = D6.value s lim x 110 := ⟨_, rfl⟩
  rw [← hRR]
  have hv : D6.value s lim x 110 = D6.wordV s lim x 0 [110, 117, 108, 108] := by
    unfold D6.value
    rfl
  have hlen := hok.ctx.len
  have hmay := J6.may_of hok.ctx.may
  have hol := hok.ol
  have hol2 : x.out.length ≤ 4096 := by omega
  have hp1 : x.at_ ≤ 140737488355327 := by omega
  have hwa := wrap1 x.at_ hp1
  obtain ⟨_, c1, c2, _, c5, c6, c7⟩ := h.jr.cells
  obtain ⟨oa, oc, hov, _⟩ := h.parts.out.len
  rw [hov] at c7
  have HX := Px.hid (JRun.refl h)
  have HOK := Px.hid hok
  obtain ⟨l1, hl1⟩ : ∃ l1, D6.bumpTop x.out x.stack = l1 := ⟨_, rfl⟩
  have hl1n : l1.length = x.out.length := by rw [← hl1, bumpTop_len]
  have HO := Px.hid (fun (v : Val) => jone_yes b s lim x v w vs vo ps h hok hi)
  simp only [hl1] at HO
  have hone : D6.one lim x ⟨0, 0, []⟩ = .ok { x with out := l1 ++ [⟨0, 0, []⟩] } := by unfold D6.one; rw [if_neg hi, hl1]
  have HR := Px.hid (show RR = .ok (D6.over x, { x with at_ := q, out := l1 ++ [⟨0, 0, []⟩] }) by
    rw [hRR, hv]
    unfold D6.wordV
    rw [hone]
    simp only
    rw [ht])
  have HT := Px.hid (fun (w : World) (vo : Value) (h : Jr w b s lim x.at_ vs vo) => jword_yes HOK.out.ctx hp1 (by decide) h ht)
  clear h hok hol hlen hmay hol2 hp1 hwa hRR hv hi hov hone ht hl1 hl1n
  go_enter Try.func36, Try.ntmps36
  go_wp2_with fail
  refine (HO.out ⟨0, 0, []⟩).mono ?_
  rintro r w1 ⟨rfl, vo1, hd⟩
  have H1 := Px.hid hd
  clear hd
  go_wp2_with fail
  refine (HT.out _ _ H1.out.rep.jr).mono ?_
  rintro r w2 ⟨rfl, hj, hf⟩
  have HS := Px.hid (H1.out.it hj hf)
  clear hj hf
  go_wp2_with fail
  refine (jover_any b s lim _ _ _ _ _ HS.out.rep).mono ?_
  rintro r w3 ⟨rfl, rfl⟩
  go_wp2
  go_ret
  exact JVal.good HR.out HS.out
end Go.Proofs.Ytahojodgmjmpnaa
