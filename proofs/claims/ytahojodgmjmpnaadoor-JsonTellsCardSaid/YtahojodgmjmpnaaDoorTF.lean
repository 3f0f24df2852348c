/-
  Several texts in one: The walks over the program's reader of package json: value, case by case. The walks over the program's reader of package json: what opens, a wrong byte; value joined.
-/
import Derived.Test.YtahojodgmjmpnaaDoorTE
import Derived.Test.YtahojodgmjmpnaaDoorGdJ
/-! The walks over the program's reader of package json: value, case by case. -/
namespace Go.Proofs.YtahojodgmjmpnaaDoor
open Go.RowKit Go.Px

theorem jtext_no {b p : Nat} {s : Bytes} {lim : Lim} {vs vo : Value} {w : World} {e : D6.Flt} (hc : Cj s lim) (hp : p < min s.length lim.b.toNat) (h : Jr w b s lim p vs vo) (he : D6.text s lim p = .error e) :
    Calls Tryd.prog 46 #[.pointer (some ⟨b, 0, none⟩)] w fun r w' => r = jpanics e ∧ Fr (It b) w w' := by
  have := jtext_any b p s lim vs vo hc hp w h
  rw [he] at this
  exact this
theorem jtext_yes {b p q : Nat} {s l : Bytes} {lim : Lim} {vs vo : Value} {w : World} (hc : Cj s lim) (hp : p < min s.length lim.b.toNat) (h : Jr w b s lim p vs vo) (he : D6.text s lim p = .ok (l, q)) :
    Calls Tryd.prog 46 #[.pointer (some ⟨b, 0, none⟩)] w fun r w' => r = .returned (S l) ∧ Jr w' b s lim q vs vo ∧ Fr (It b) w w' := by
  have := jtext_any b p s lim vs vo hc hp w h
  rw [he] at this
  exact this
theorem jnum_no {b p : Nat} {s : Bytes} {lim : Lim} {vs vo : Value} {w : World} {e : D6.Flt} (hc : Cj s lim) (hp : p ≤ min s.length lim.b.toNat) (h : Jr w b s lim p vs vo) (he : D6.number s lim p = .error e) :
    Calls Tryd.prog 47 #[.pointer (some ⟨b, 0, none⟩)] w fun r w' => r = jpanics e ∧ Fr (It b) w w' := by
  have := jnum_any b p s lim vs vo hc hp w h
  rw [he] at this
  exact this
theorem jnum_yes {b p q : Nat} {s : Bytes} {lim : Lim} {vs vo : Value} {w : World} (hc : Cj s lim) (hp : p ≤ min s.length lim.b.toNat) (h : Jr w b s lim p vs vo) (he : D6.number s lim p = .ok q) :
    Calls Tryd.prog 47 #[.pointer (some ⟨b, 0, none⟩)] w fun r w' => r = .returned (S ((s.take q).drop p)) ∧ Jr w' b s lim q vs vo ∧ Fr (It b) w w' := by
  have := jnum_any b p s lim vs vo hc hp w h
  rw [he] at this
  exact this
theorem jword_no {b p : Nat} {s l : Bytes} {lim : Lim} {vs vo : Value} {w : World} {e : D6.Flt} (hc : Cj s lim) (hp : p ≤ 140737488355327) (hl : l.length ≤ 5) (h : Jr w b s lim p vs vo) (he : D6.wordN s lim l p = .error e) :
    Calls Tryd.prog 48 #[.pointer (some ⟨b, 0, none⟩), S l] w fun r w' => r = jpanics e ∧ Fr (It b) w w' := by
  have := jword_any b p s l lim vs vo hc hp hl w h
  rw [he] at this
  exact this
theorem jword_yes {b p q : Nat} {s l : Bytes} {lim : Lim} {vs vo : Value} {w : World} (hc : Cj s lim) (hp : p ≤ 140737488355327) (hl : l.length ≤ 5) (h : Jr w b s lim p vs vo) (he : D6.wordN s lim l p = .ok q) :
    Calls Tryd.prog 48 #[.pointer (some ⟨b, 0, none⟩), S l] w fun r w' => r = .returned (.tuple #[]) ∧ Jr w' b s lim q vs vo ∧ Fr (It b) w w' := by
  have := jword_any b p s l lim vs vo hc hp hl w h
  rw [he] at this
  exact this
theorem Tryd.infoFmJ : (Tryd.prog.info? 77).map (fun i => (i.zero, i.size, i.bytes)) = some (some (.agg #[.int .i64 0, .slice none 0 0]), 2, 32) := by kernel_rfl
/-- What value leaves. -/
def JVal (w : World) (b : Nat) (s : Bytes) (lim : Lim) (vs vo : Value) (ps : List (D6.Fm × Value)) (res : Except D6.Flt D6.Nx) (r : Ending) (w' : World) : Prop := match res with
  | .error e => r = jpanics e ∧ Fr (foot b (jbl vo vs ps)) w w'
  | .ok (n, y) => r = .returned (.int .i64 (n : Nat)) ∧ ∃ vs' vo' ps', JRun w b s lim vs vo ps y w' vs' vo' ps'
section
variable {w w' : World} {b : Nat} {s : Bytes} {lim : Lim} {vs vo vs' vo' : Value} {ps ps' : List (D6.Fm × Value)} {res : Except D6.Flt D6.Nx}
theorem JVal.bad {e : D6.Flt} (h : res = .error e) (hf : Fr (foot b (jbl vo vs ps)) w w') : JVal w b s lim vs vo ps res (jpanics e) w' := by
  rw [h]; exact ⟨rfl, hf⟩
theorem JVal.good {n : Nat} {y : D6.Dx} (h : res = .ok (n, y)) (hr : JRun w b s lim vs vo ps y w' vs' vo' ps') : JVal w b s lim vs vo ps res (.returned (.int .i64 (n : Nat))) w' := by
  rw [h]; exact ⟨rfl, _, _, _, hr⟩
end
theorem bumpTop_len (l : List Val) (st : List D6.Fm) : (D6.bumpTop l st).length = l.length := by
  cases st with
  | nil => rfl
  | cons f r => exact J6.vbump_len _ _ _
theorem setText_set (l : List Val) (a : Val) (t : Bytes) : R6.setText (l ++ [a]) l.length t = (l ++ [a]).set l.length { a with text := t } := by
  rw [R6.setText_mid]
  simp

set_option maxRecDepth 100000 in
set_option maxHeartbeats 4000000 in
theorem jfull_str (b : Nat) (s : Bytes) (lim : Lim) (x : D6.Dx) (w : World) (vs vo : Value) (ps : List (D6.Fm × Value)) (h : JRep w b s lim x vs vo ps) (hok : JOk s lim x) (hps : x.at_ < min s.length lim.b.toNat) (hi : (x.out.length : Int) = lim.i) :
    Calls Tryd.prog 32 #[.pointer (some ⟨b, 0, none⟩), .int .u8 (34 : Nat)] w (JVal w b s lim vs vo ps (D6.value s lim x 34)) := by
  obtain ⟨RR, hRR⟩ : ∃ RR, RR = D6.value s lim x 34 := ⟨_, rfl⟩
  rw [← hRR]
  have hv : D6.value s lim x 34 = D6.strV s lim x := by
    unfold D6.value
    rw [if_neg (by decide), if_pos (by decide)]
  have hlen := hok.ctx.len
  have hmay := J6.may_of hok.ctx.may
  have hol := hok.ol
  have hol2 : x.out.length ≤ 4096 := by omega
  have hp1 : x.at_ ≤ 140737488355327 := by omega
  have hwa := wrap1 x.at_ hp1
  obtain ⟨_, c1, c2, _, c5, c6, c7⟩ := h.jr.cells
  obtain ⟨oa, oc, hov, _⟩ := h.parts.out.len
  rw [hov] at c7
  have HX := Px.hid (JRun.refl h)
  have HOK := Px.hid hok
  have HR := Px.hid (show RR = .error ((x.at_ : Nat), 10) by
    rw [hRR, hv]
    unfold D6.strV D6.one
    rw [if_pos hi])
  have HO := Px.hid (fun (v : Val) => jone_full b s lim x v w vs vo ps h hi)
  clear h hok hol hlen hmay hol2 hp1 hwa hRR hv hps hi hov
  go_enter Tryd.func32, Tryd.ntmps32
  go_wp2_with fail
  refine (HO.out ⟨4, 0, []⟩).mono ?_
  rintro r w1 ⟨rfl, hs⟩
  have HS := Px.hid (HX.out.same hs)
  clear hs
  unfold jpanics
  go_wp2
  exact ⟨rfl, JVal.bad HR.out HS.out.fr⟩
set_option maxRecDepth 100000 in
set_option maxHeartbeats 4000000 in
theorem jno_str (b : Nat) (s : Bytes) (lim : Lim) (x : D6.Dx) (w : World) (vs vo : Value) (ps : List (D6.Fm × Value)) (h : JRep w b s lim x vs vo ps) (hok : JOk s lim x) (hps : x.at_ < min s.length lim.b.toNat) (hi : ¬ (x.out.length : Int) = lim.i) (e : D6.Flt) (ht : D6.text s lim x.at_ = .error e) :
    Calls Tryd.prog 32 #[.pointer (some ⟨b, 0, none⟩), .int .u8 (34 : Nat)] w (JVal w b s lim vs vo ps (D6.value s lim x 34)) := by
  obtain ⟨RR, hRR⟩ : ∃ RR, RR = D6.value s lim x 34 := ⟨_, rfl⟩
  rw [← hRR]
  have hv : D6.value s lim x 34 = D6.strV s lim x := by
    unfold D6.value
    rw [if_neg (by decide), if_pos (by decide)]
  have hlen := hok.ctx.len
  have hmay := J6.may_of hok.ctx.may
  have hol := hok.ol
  have hol2 : x.out.length ≤ 4096 := by omega
  have hp1 : x.at_ ≤ 140737488355327 := by omega
  have hwa := wrap1 x.at_ hp1
  obtain ⟨_, c1, c2, _, c5, c6, c7⟩ := h.jr.cells
  obtain ⟨oa, oc, hov, _⟩ := h.parts.out.len
  rw [hov] at c7
  have HX := Px.hid (JRun.refl h)
  have HOK := Px.hid hok
  obtain ⟨l1, hl1⟩ : ∃ l1, D6.bumpTop x.out x.stack = l1 := ⟨_, rfl⟩
  have hl1n : l1.length = x.out.length := by rw [← hl1, bumpTop_len]
  have HO := Px.hid (fun (v : Val) => jone_yes b s lim x v w vs vo ps h hok hi)
  simp only [hl1] at HO
  have hone : D6.one lim x ⟨4, 0, []⟩ = .ok { x with out := l1 ++ [⟨4, 0, []⟩] } := by unfold D6.one; rw [if_neg hi, hl1]
  have HR := Px.hid (show RR = .error e by
    rw [hRR, hv]
    unfold D6.strV
    rw [hone]
    simp only
    rw [ht])
  have HT := Px.hid (fun (w : World) (vo : Value) (h : Jr w b s lim x.at_ vs vo) => jtext_no HOK.out.ctx hps h ht)
  obtain ⟨L, hL⟩ : ∃ L, l1.length = L := ⟨_, rfl⟩
  have HL := Px.hid hL
  rw [← hl1n, hL] at c7
  have hL2 : L ≤ 4096 := by omega
  clear h hok hol hlen hmay hol2 hp1 hwa hRR hv hi hov hone ht hl1 hl1n hL
  go_enter Tryd.func32, Tryd.ntmps32
  go_wp2_with fail
  refine (HO.out ⟨4, 0, []⟩).mono ?_
  rintro r w1 ⟨rfl, vo1, hd⟩
  have H1 := Px.hid hd
  clear hd
  obtain ⟨g, cap, hvo, o1, o2, k0, _, k2, kf⟩ := H1.out.rep.val (j := L) (a := ⟨4, 0, []⟩) (by rw [← HL.out]; simp)
  simp only [List.length_append, List.length_singleton, HL.out] at hvo o1
  subst hvo
  have c7 := H1.out.rep.jr.cells.2.2.2.2.2.2
  unfold maxLen at o2
  have kf2 := kf (L * 3 + 2)
  clear kf k0
  go_upto_region 15 with fail
  refine wp_region_any (by kernel_rfl) ?_
  refine wpAny_take (i := 0) (v := ?_) rfl (by kernel_rfl) (by kernel_rfl) (by kernel_rfl) (fun _ _ _ h => h) (Or.inl ⟨by rfl, ?_⟩) ?_
  rotate_left
  · intro w
    go_simp
    try (with_reducible rfl)
  refine wpAny_take (i := 1) (v := ?_) rfl (by kernel_rfl) (by kernel_rfl) (by kernel_rfl) (fun _ _ _ h => h) (Or.inl ⟨by rfl, ?_⟩) ?_
  rotate_left
  · intro w
    go_simp
    try (with_reducible rfl)
  refine wpAny_take (i := 2) (v := ?_) rfl (by kernel_rfl) (by kernel_rfl) (by kernel_rfl) (fun _ _ _ h => h) (Or.inl ⟨by rfl, ?_⟩) ?_
  rotate_left
  · intro w
    go_simp
    try (with_reducible rfl)
  refine wpAny_take (i := 4) (v := ?_) rfl (by kernel_rfl) (by kernel_rfl) (by kernel_rfl) (fun _ _ _ h => h) (Or.inl ⟨by rfl, ?_⟩) ?_
  rotate_left
  · intro w
    go_simp
    try (with_reducible rfl)
  refine wpAny_take (i := 5) (v := ?_) rfl (by kernel_rfl) (by kernel_rfl) (by kernel_rfl) (fun _ _ _ h => h) (Or.inl ⟨by rfl, ?_⟩) ?_
  rotate_left
  · intro w
    go_simp
    try (with_reducible rfl)
  refine wpAny_ready (rs := [3, 6]) (by kernel_rfl) (by simp) ?_
  refine AllReady.cons rfl (fun K hK => ?_) (AllReady.cons rfl (fun K hK => ?_) AllReady.nil)
  · go_simp
    refine hK _ _ ?_
    clear hK K
    refine wpAny_ready (rs := [6]) (by kernel_rfl) (by simp) ?_
    refine AllReady.cons rfl (fun K hK => ?_) AllReady.nil
    go_simp
    refine (HT.out _ _ H1.out.rep.jr.drew).mono ?_
    rintro r w2 ⟨rfl, hf⟩
    exact ⟨rfl, JVal.bad HR.out (H1.out.drew.frit hf)⟩
  · go_simp
    refine (HT.out _ _ H1.out.rep.jr.drew).mono ?_
    rintro r w2 ⟨rfl, hf⟩
    exact ⟨rfl, JVal.bad HR.out (H1.out.drew.frit hf)⟩
set_option maxRecDepth 100000 in
set_option maxHeartbeats 4000000 in
theorem jyes_str (b : Nat) (s : Bytes) (lim : Lim) (x : D6.Dx) (w : World) (vs vo : Value) (ps : List (D6.Fm × Value)) (h : JRep w b s lim x vs vo ps) (hok : JOk s lim x) (hps : x.at_ < min s.length lim.b.toNat) (hi : ¬ (x.out.length : Int) = lim.i) (l : Bytes) (q : Nat) (ht : D6.text s lim x.at_ = .ok (l, q)) :
    Calls Tryd.prog 32 #[.pointer (some ⟨b, 0, none⟩), .int .u8 (34 : Nat)] w (JVal w b s lim vs vo ps (D6.value s lim x 34)) := by
  obtain ⟨RR, hRR⟩ : ∃ RR, RR = D6.value s lim x 34 := ⟨_, rfl⟩
  rw [← hRR]
  have hv : D6.value s lim x 34 = D6.strV s lim x := by
    unfold D6.value
    rw [if_neg (by decide), if_pos (by decide)]
  have hlen := hok.ctx.len
  have hmay := J6.may_of hok.ctx.may
  have hol := hok.ol
  have hol2 : x.out.length ≤ 4096 := by omega
  have hp1 : x.at_ ≤ 140737488355327 := by omega
  have hwa := wrap1 x.at_ hp1
  obtain ⟨_, c1, c2, _, c5, c6, c7⟩ := h.jr.cells
  obtain ⟨oa, oc, hov, _⟩ := h.parts.out.len
  rw [hov] at c7
  have HX := Px.hid (JRun.refl h)
  have HOK := Px.hid hok
  obtain ⟨l1, hl1⟩ : ∃ l1, D6.bumpTop x.out x.stack = l1 := ⟨_, rfl⟩
  have hl1n : l1.length = x.out.length := by rw [← hl1, bumpTop_len]
  have HO := Px.hid (fun (v : Val) => jone_yes b s lim x v w vs vo ps h hok hi)
  simp only [hl1] at HO
  have hone : D6.one lim x ⟨4, 0, []⟩ = .ok { x with out := l1 ++ [⟨4, 0, []⟩] } := by unfold D6.one; rw [if_neg hi, hl1]
  obtain ⟨T, hT⟩ : ∃ T, l = T := ⟨_, rfl⟩
  have HR := Px.hid (show RR = .ok (D6.over x, { x with at_ := q, out := (l1 ++ [(⟨4, 0, []⟩ : Val)]).set l1.length ⟨4, 0, T⟩ }) by
    rw [hRR, hv]
    unfold D6.strV
    rw [hone]
    simp only
    rw [ht]
    simp only
    rw [← hl1n, setText_set, ← hT])
  have HT := Px.hid (fun (w : World) (vo : Value) (h : Jr w b s lim x.at_ vs vo) => jtext_yes HOK.out.ctx hps h ht)
  simp only [hT] at HT
  obtain ⟨L, hL⟩ : ∃ L, l1.length = L := ⟨_, rfl⟩
  have HL := Px.hid hL
  rw [← hl1n, hL] at c7
  have hL2 : L ≤ 4096 := by omega
  rw [hL] at HR
  clear h hok hol hlen hmay hol2 hp1 hwa hRR hv hi hov hone ht hl1 hl1n hL hT
  go_enter Tryd.func32, Tryd.ntmps32
  go_wp2_with fail
  refine (HO.out ⟨4, 0, []⟩).mono ?_
  rintro r w1 ⟨rfl, vo1, hd⟩
  have H1 := Px.hid hd
  clear hd
  obtain ⟨g, cap, hvo, o1, o2, k0, _, k2, kf⟩ := H1.out.rep.val (j := L) (a := ⟨4, 0, []⟩) (by rw [← HL.out]; simp)
  simp only [List.length_append, List.length_singleton, HL.out] at hvo o1
  subst hvo
  have c7 := H1.out.rep.jr.cells.2.2.2.2.2.2
  unfold maxLen at o2
  have kf2 := kf (L * 3 + 2)
  clear kf k0
  have hgl := H1.out.rep.parts.lt (k := g) (mem_jbl.2 (.inl rfl))
  have hgb : g ≠ b := fun e => H1.out.rep.nb (mem_jbl.2 (.inl (by rw [← e]; rfl)))
  have HG := Px.hid (And.intro hgl hgb)
  have hLL : (L : Int) < (L : Int) + 1 := by omega
  clear hgl hgb
  go_upto_region 15 with fail
  go_region_with (go_at_call 46; refine (HT.out _ _ H1.out.rep.jr.drew).mono ?_; rintro r w2 ⟨rfl, hj, hf⟩; have c7b := hj.cells.2.2.2.2.2.2; have k2b : w2.cell? ⟨g, L * 3 + 2, none⟩ = some (S []) := (hf.cell (p := ⟨g, L * 3 + 2, none⟩) HG.out.1 (fun e => HG.out.2 e)).trans k2; have kfb : w2.frozen? ⟨g, L * 3 + 2, none⟩ = false := (World.frozen?_of_block (w := w1.drew) (a := ⟨g, L * 3 + 2, none⟩) (hf.block g HG.out.1 (fun e => HG.out.2 e))).trans kf2; have HW2 := Px.hid (H1.out.drew.it hj hf); clear hj hf)
  all_goals
    have HS := Px.hid (HW2.out.setVal (j := L) (a := ⟨4, 0, []⟩) (a' := ⟨4, 0, T⟩) (by simp only; rw [← HL.out]; simp) 2 (by decide) (S T) rfl)
    clear c7 c7b k2 k2b kf2 kfb o1 o2
    go_wp2_with fail
    refine (jover_any b s lim _ _ _ _ _ HS.out.rep).mono ?_
    rintro r w3 ⟨rfl, rfl⟩
    go_wp2
    go_ret
    exact JVal.good HR.out HS.out
set_option maxRecDepth 100000 in
set_option maxHeartbeats 4000000 in
theorem jfull_min (b : Nat) (s : Bytes) (lim : Lim) (x : D6.Dx) (w : World) (vs vo : Value) (ps : List (D6.Fm × Value)) (h : JRep w b s lim x vs vo ps) (hok : JOk s lim x) (hps : x.at_ < min s.length lim.b.toNat) (hi : (x.out.length : Int) = lim.i) :
    Calls Tryd.prog 32 #[.pointer (some ⟨b, 0, none⟩), .int .u8 (45 : Nat)] w (JVal w b s lim vs vo ps (D6.value s lim x 45)) := by
  obtain ⟨RR, hRR⟩ : ∃ RR, RR = D6.value s lim x 45 := ⟨_, rfl⟩
  rw [← hRR]
  have hv : D6.value s lim x 45 = D6.numV s lim x := by
    unfold D6.value
    rw [if_neg (by decide), if_neg (by decide), if_pos (by decide)]
  have hlen := hok.ctx.len
  have hmay := J6.may_of hok.ctx.may
  have hol := hok.ol
  have hol2 : x.out.length ≤ 4096 := by omega
  have hp1 : x.at_ ≤ 140737488355327 := by omega
  have hwa := wrap1 x.at_ hp1
  obtain ⟨_, c1, c2, _, c5, c6, c7⟩ := h.jr.cells
  obtain ⟨oa, oc, hov, _⟩ := h.parts.out.len
  rw [hov] at c7
  have HX := Px.hid (JRun.refl h)
  have HOK := Px.hid hok
  have HR := Px.hid (show RR = .error ((x.at_ : Nat), 10) by
    rw [hRR, hv]
    unfold D6.numV D6.one
    rw [if_pos hi])
  have HO := Px.hid (fun (v : Val) => jone_full b s lim x v w vs vo ps h hi)
  clear h hok hol hlen hmay hol2 hp1 hwa hRR hv hps hi hov
  go_enter Tryd.func32, Tryd.ntmps32
  go_wp2_with fail
  refine (HO.out ⟨3, 0, []⟩).mono ?_
  rintro r w1 ⟨rfl, hs⟩
  have HS := Px.hid (HX.out.same hs)
  clear hs
  unfold jpanics
  go_wp2
  exact ⟨rfl, JVal.bad HR.out HS.out.fr⟩
set_option maxRecDepth 100000 in
set_option maxHeartbeats 4000000 in
theorem jno_min (b : Nat) (s : Bytes) (lim : Lim) (x : D6.Dx) (w : World) (vs vo : Value) (ps : List (D6.Fm × Value)) (h : JRep w b s lim x vs vo ps) (hok : JOk s lim x) (hps : x.at_ < min s.length lim.b.toNat) (hi : ¬ (x.out.length : Int) = lim.i) (e : D6.Flt) (ht : D6.number s lim x.at_ = .error e) :
    Calls Tryd.prog 32 #[.pointer (some ⟨b, 0, none⟩), .int .u8 (45 : Nat)] w (JVal w b s lim vs vo ps (D6.value s lim x 45)) := by
  obtain ⟨RR, hRR⟩ : ∃ RR, RR = D6.value s lim x 45 := ⟨_, rfl⟩
  rw [← hRR]
  have hv : D6.value s lim x 45 = D6.numV s lim x := by
    unfold D6.value
    rw [if_neg (by decide), if_neg (by decide), if_pos (by decide)]
  have hlen := hok.ctx.len
  have hmay := J6.may_of hok.ctx.may
  have hol := hok.ol
  have hol2 : x.out.length ≤ 4096 := by omega
  have hp1 : x.at_ ≤ 140737488355327 := by omega
  have hwa := wrap1 x.at_ hp1
  obtain ⟨_, c1, c2, _, c5, c6, c7⟩ := h.jr.cells
  obtain ⟨oa, oc, hov, _⟩ := h.parts.out.len
  rw [hov] at c7
  have HX := Px.hid (JRun.refl h)
  have HOK := Px.hid hok
  obtain ⟨l1, hl1⟩ : ∃ l1, D6.bumpTop x.out x.stack = l1 := ⟨_, rfl⟩
  have hl1n : l1.length = x.out.length := by rw [← hl1, bumpTop_len]
  have HO := Px.hid (fun (v : Val) => jone_yes b s lim x v w vs vo ps h hok hi)
  simp only [hl1] at HO
  have hone : D6.one lim x ⟨3, 0, []⟩ = .ok { x with out := l1 ++ [⟨3, 0, []⟩] } := by unfold D6.one; rw [if_neg hi, hl1]
  have HR := Px.hid (show RR = .error e by
    rw [hRR, hv]
    unfold D6.numV
    rw [hone]
    simp only
    rw [ht])
  have HT := Px.hid (fun (w : World) (vo : Value) (h : Jr w b s lim x.at_ vs vo) => jnum_no HOK.out.ctx (Nat.le_of_lt hps) h ht)
  obtain ⟨L, hL⟩ : ∃ L, l1.length = L := ⟨_, rfl⟩
  have HL := Px.hid hL
  rw [← hl1n, hL] at c7
  have hL2 : L ≤ 4096 := by omega
  clear h hok hol hlen hmay hol2 hp1 hwa hRR hv hi hov hone ht hl1 hl1n hL
  go_enter Tryd.func32, Tryd.ntmps32
  go_wp2_with fail
  refine (HO.out ⟨3, 0, []⟩).mono ?_
  rintro r w1 ⟨rfl, vo1, hd⟩
  have H1 := Px.hid hd
  clear hd
  obtain ⟨g, cap, hvo, o1, o2, k0, _, k2, kf⟩ := H1.out.rep.val (j := L) (a := ⟨3, 0, []⟩) (by rw [← HL.out]; simp)
  simp only [List.length_append, List.length_singleton, HL.out] at hvo o1
  subst hvo
  have c7 := H1.out.rep.jr.cells.2.2.2.2.2.2
  unfold maxLen at o2
  have kf2 := kf (L * 3 + 2)
  clear kf k0
  go_upto_region 18 with fail
  refine wp_region_any (by kernel_rfl) ?_
  refine wpAny_take (i := 0) (v := ?_) rfl (by kernel_rfl) (by kernel_rfl) (by kernel_rfl) (fun _ _ _ h => h) (Or.inl ⟨by rfl, ?_⟩) ?_
  rotate_left
  · intro w
    go_simp
    try (with_reducible rfl)
  refine wpAny_take (i := 1) (v := ?_) rfl (by kernel_rfl) (by kernel_rfl) (by kernel_rfl) (fun _ _ _ h => h) (Or.inl ⟨by rfl, ?_⟩) ?_
  rotate_left
  · intro w
    go_simp
    try (with_reducible rfl)
  refine wpAny_take (i := 2) (v := ?_) rfl (by kernel_rfl) (by kernel_rfl) (by kernel_rfl) (fun _ _ _ h => h) (Or.inl ⟨by rfl, ?_⟩) ?_
  rotate_left
  · intro w
    go_simp
    try (with_reducible rfl)
  refine wpAny_take (i := 4) (v := ?_) rfl (by kernel_rfl) (by kernel_rfl) (by kernel_rfl) (fun _ _ _ h => h) (Or.inl ⟨by rfl, ?_⟩) ?_
  rotate_left
  · intro w
    go_simp
    try (with_reducible rfl)
  refine wpAny_take (i := 5) (v := ?_) rfl (by kernel_rfl) (by kernel_rfl) (by kernel_rfl) (fun _ _ _ h => h) (Or.inl ⟨by rfl, ?_⟩) ?_
  rotate_left
  · intro w
    go_simp
    try (with_reducible rfl)
  refine wpAny_ready (rs := [3, 6]) (by kernel_rfl) (by simp) ?_
  refine AllReady.cons rfl (fun K hK => ?_) (AllReady.cons rfl (fun K hK => ?_) AllReady.nil)
  · go_simp
    refine hK _ _ ?_
    clear hK K
    refine wpAny_ready (rs := [6]) (by kernel_rfl) (by simp) ?_
    refine AllReady.cons rfl (fun K hK => ?_) AllReady.nil
    go_simp
    refine (HT.out _ _ H1.out.rep.jr.drew).mono ?_
    rintro r w2 ⟨rfl, hf⟩
    exact ⟨rfl, JVal.bad HR.out (H1.out.drew.frit hf)⟩
  · go_simp
    refine (HT.out _ _ H1.out.rep.jr.drew).mono ?_
    rintro r w2 ⟨rfl, hf⟩
    exact ⟨rfl, JVal.bad HR.out (H1.out.drew.frit hf)⟩
set_option maxRecDepth 100000 in
set_option maxHeartbeats 4000000 in
theorem jyes_min (b : Nat) (s : Bytes) (lim : Lim) (x : D6.Dx) (w : World) (vs vo : Value) (ps : List (D6.Fm × Value)) (h : JRep w b s lim x vs vo ps) (hok : JOk s lim x) (hps : x.at_ < min s.length lim.b.toNat) (hi : ¬ (x.out.length : Int) = lim.i) (q : Nat) (ht : D6.number s lim x.at_ = .ok q) :
    Calls Tryd.prog 32 #[.pointer (some ⟨b, 0, none⟩), .int .u8 (45 : Nat)] w (JVal w b s lim vs vo ps (D6.value s lim x 45)) := by
  obtain ⟨RR, hRR⟩ : ∃ RR, RR = D6.value s lim x 45 := ⟨_, rfl⟩
  rw [← hRR]
  have hv : D6.value s lim x 45 = D6.numV s lim x := by
    unfold D6.value
    rw [if_neg (by decide), if_neg (by decide), if_pos (by decide)]
  have hlen := hok.ctx.len
  have hmay := J6.may_of hok.ctx.may
  have hol := hok.ol
  have hol2 : x.out.length ≤ 4096 := by omega
  have hp1 : x.at_ ≤ 140737488355327 := by omega
  have hwa := wrap1 x.at_ hp1
  obtain ⟨_, c1, c2, _, c5, c6, c7⟩ := h.jr.cells
  obtain ⟨oa, oc, hov, _⟩ := h.parts.out.len
  rw [hov] at c7
  have HX := Px.hid (JRun.refl h)
  have HOK := Px.hid hok
  obtain ⟨l1, hl1⟩ : ∃ l1, D6.bumpTop x.out x.stack = l1 := ⟨_, rfl⟩
  have hl1n : l1.length = x.out.length := by rw [← hl1, bumpTop_len]
  have HO := Px.hid (fun (v : Val) => jone_yes b s lim x v w vs vo ps h hok hi)
  simp only [hl1] at HO
  have hone : D6.one lim x ⟨3, 0, []⟩ = .ok { x with out := l1 ++ [⟨3, 0, []⟩] } := by unfold D6.one; rw [if_neg hi, hl1]
  obtain ⟨T, hT⟩ : ∃ T, ((s.take q).drop x.at_) = T := ⟨_, rfl⟩
  have HR := Px.hid (show RR = .ok (D6.over x, { x with at_ := q, out := (l1 ++ [(⟨3, 0, []⟩ : Val)]).set l1.length ⟨3, 0, T⟩ }) by
    rw [hRR, hv]
    unfold D6.numV
    rw [hone]
    simp only
    rw [ht]
    simp only
    rw [← hl1n, setText_set, ← hT])
  have HT := Px.hid (fun (w : World) (vo : Value) (h : Jr w b s lim x.at_ vs vo) => jnum_yes HOK.out.ctx (Nat.le_of_lt hps) h ht)
  simp only [hT] at HT
  obtain ⟨L, hL⟩ : ∃ L, l1.length = L := ⟨_, rfl⟩
  have HL := Px.hid hL
  rw [← hl1n, hL] at c7
  have hL2 : L ≤ 4096 := by omega
  rw [hL] at HR
  clear h hok hol hlen hmay hol2 hp1 hwa hRR hv hi hov hone ht hl1 hl1n hL hT
  go_enter Tryd.func32, Tryd.ntmps32
  go_wp2_with fail
  refine (HO.out ⟨3, 0, []⟩).mono ?_
  rintro r w1 ⟨rfl, vo1, hd⟩
  have H1 := Px.hid hd
  clear hd
  obtain ⟨g, cap, hvo, o1, o2, k0, _, k2, kf⟩ := H1.out.rep.val (j := L) (a := ⟨3, 0, []⟩) (by rw [← HL.out]; simp)
  simp only [List.length_append, List.length_singleton, HL.out] at hvo o1
  subst hvo
  have c7 := H1.out.rep.jr.cells.2.2.2.2.2.2
  unfold maxLen at o2
  have kf2 := kf (L * 3 + 2)
  clear kf k0
  have hgl := H1.out.rep.parts.lt (k := g) (mem_jbl.2 (.inl rfl))
  have hgb : g ≠ b := fun e => H1.out.rep.nb (mem_jbl.2 (.inl (by rw [← e]; rfl)))
  have HG := Px.hid (And.intro hgl hgb)
  have hLL : (L : Int) < (L : Int) + 1 := by omega
  clear hgl hgb
  go_upto_region 18 with fail
  go_region_with (go_at_call 47; refine (HT.out _ _ H1.out.rep.jr.drew).mono ?_; rintro r w2 ⟨rfl, hj, hf⟩; have c7b := hj.cells.2.2.2.2.2.2; have k2b : w2.cell? ⟨g, L * 3 + 2, none⟩ = some (S []) := (hf.cell (p := ⟨g, L * 3 + 2, none⟩) HG.out.1 (fun e => HG.out.2 e)).trans k2; have kfb : w2.frozen? ⟨g, L * 3 + 2, none⟩ = false := (World.frozen?_of_block (w := w1.drew) (a := ⟨g, L * 3 + 2, none⟩) (hf.block g HG.out.1 (fun e => HG.out.2 e))).trans kf2; have HW2 := Px.hid (H1.out.drew.it hj hf); clear hj hf)
  all_goals
    have HS := Px.hid (HW2.out.setVal (j := L) (a := ⟨3, 0, []⟩) (a' := ⟨3, 0, T⟩) (by simp only; rw [← HL.out]; simp) 2 (by decide) (S T) rfl)
    clear c7 c7b k2 k2b kf2 kfb o1 o2
    go_wp2_with fail
    refine (jover_any b s lim _ _ _ _ _ HS.out.rep).mono ?_
    rintro r w3 ⟨rfl, rfl⟩
    go_wp2
    go_ret
    exact JVal.good HR.out HS.out
set_option maxRecDepth 100000 in
set_option maxHeartbeats 4000000 in
theorem jfull_dig (b : Nat) (s : Bytes) (lim : Lim) (x : D6.Dx) (w : World) (vs vo : Value) (ps : List (D6.Fm × Value)) (h : JRep w b s lim x vs vo ps) (hok : JOk s lim x) (hps : x.at_ < min s.length lim.b.toNat) (c : Nat) (hdc : R6.digit c = true) (hi : (x.out.length : Int) = lim.i) :
    Calls Tryd.prog 32 #[.pointer (some ⟨b, 0, none⟩), .int .u8 (c : Nat)] w (JVal w b s lim vs vo ps (D6.value s lim x c)) := by
  obtain ⟨RR, hRR⟩ : ∃ RR, RR = D6.value s lim x c := ⟨_, rfl⟩
  rw [← hRR]
  have hv : D6.value s lim x c = D6.numV s lim x := by
    unfold D6.value
    have hdb : 48 ≤ c ∧ c ≤ 57 := by unfold R6.digit at hdc; simpa using hdc
    rw [if_neg (by simp; omega), if_neg (by simp; omega), if_pos (by simp [hdc])]
  have hlen := hok.ctx.len
  have hmay := J6.may_of hok.ctx.may
  have hol := hok.ol
  have hol2 : x.out.length ≤ 4096 := by omega
  have hp1 : x.at_ ≤ 140737488355327 := by omega
  have hwa := wrap1 x.at_ hp1
  obtain ⟨_, c1, c2, _, c5, c6, c7⟩ := h.jr.cells
  obtain ⟨oa, oc, hov, _⟩ := h.parts.out.len
  rw [hov] at c7
  have HX := Px.hid (JRun.refl h)
  have HOK := Px.hid hok
  have hdb : 48 ≤ c ∧ c ≤ 57 := by unfold R6.digit at hdc; simpa using hdc
  have eq123 : ((c : Int) == 123) = false := by simp; omega
  have eq91 : ((c : Int) == 91) = false := by simp; omega
  have eq34 : ((c : Int) == 34) = false := by simp; omega
  have eq45 : ((c : Int) == 45) = false := by simp; omega
  have ge48 : (48 : Int) ≤ (c : Int) := by omega
  have le57 : (c : Int) ≤ 57 := by omega
  have HR := Px.hid (show RR = .error ((x.at_ : Nat), 10) by
    rw [hRR, hv]
    unfold D6.numV D6.one
    rw [if_pos hi])
  have HO := Px.hid (fun (v : Val) => jone_full b s lim x v w vs vo ps h hi)
  clear h hok hol hlen hmay hol2 hp1 hwa hRR hv hps hi hov hdc hdb
  go_enter Tryd.func32, Tryd.ntmps32
  go_wp2_with fail
  refine (HO.out ⟨3, 0, []⟩).mono ?_
  rintro r w1 ⟨rfl, hs⟩
  have HS := Px.hid (HX.out.same hs)
  clear hs
  unfold jpanics
  go_wp2
  exact ⟨rfl, JVal.bad HR.out HS.out.fr⟩
set_option maxRecDepth 100000 in
set_option maxHeartbeats 4000000 in
theorem jno_dig (b : Nat) (s : Bytes) (lim : Lim) (x : D6.Dx) (w : World) (vs vo : Value) (ps : List (D6.Fm × Value)) (h : JRep w b s lim x vs vo ps) (hok : JOk s lim x) (hps : x.at_ < min s.length lim.b.toNat) (c : Nat) (hdc : R6.digit c = true) (hi : ¬ (x.out.length : Int) = lim.i) (e : D6.Flt) (ht : D6.number s lim x.at_ = .error e) :
    Calls Tryd.prog 32 #[.pointer (some ⟨b, 0, none⟩), .int .u8 (c : Nat)] w (JVal w b s lim vs vo ps (D6.value s lim x c)) := by
  obtain ⟨RR, hRR⟩ : ∃ RR, RR = D6.value s lim x c := ⟨_, rfl⟩
  rw [← hRR]
  have hv : D6.value s lim x c = D6.numV s lim x := by
    unfold D6.value
    have hdb : 48 ≤ c ∧ c ≤ 57 := by unfold R6.digit at hdc; simpa using hdc
    rw [if_neg (by simp; omega), if_neg (by simp; omega), if_pos (by simp [hdc])]
  have hlen := hok.ctx.len
  have hmay := J6.may_of hok.ctx.may
  have hol := hok.ol
  have hol2 : x.out.length ≤ 4096 := by omega
  have hp1 : x.at_ ≤ 140737488355327 := by omega
  have hwa := wrap1 x.at_ hp1
  obtain ⟨_, c1, c2, _, c5, c6, c7⟩ := h.jr.cells
  obtain ⟨oa, oc, hov, _⟩ := h.parts.out.len
  rw [hov] at c7
  have HX := Px.hid (JRun.refl h)
  have HOK := Px.hid hok
  have hdb : 48 ≤ c ∧ c ≤ 57 := by unfold R6.digit at hdc; simpa using hdc
  have eq123 : ((c : Int) == 123) = false := by simp; omega
  have eq91 : ((c : Int) == 91) = false := by simp; omega
  have eq34 : ((c : Int) == 34) = false := by simp; omega
  have eq45 : ((c : Int) == 45) = false := by simp; omega
  have ge48 : (48 : Int) ≤ (c : Int) := by omega
  have le57 : (c : Int) ≤ 57 := by omega
  obtain ⟨l1, hl1⟩ : ∃ l1, D6.bumpTop x.out x.stack = l1 := ⟨_, rfl⟩
  have hl1n : l1.length = x.out.length := by rw [← hl1, bumpTop_len]
  have HO := Px.hid (fun (v : Val) => jone_yes b s lim x v w vs vo ps h hok hi)
  simp only [hl1] at HO
  have hone : D6.one lim x ⟨3, 0, []⟩ = .ok { x with out := l1 ++ [⟨3, 0, []⟩] } := by unfold D6.one; rw [if_neg hi, hl1]
  have HR := Px.hid (show RR = .error e by
    rw [hRR, hv]
    unfold D6.numV
    rw [hone]
    simp only
    rw [ht])
  have HT := Px.hid (fun (w : World) (vo : Value) (h : Jr w b s lim x.at_ vs vo) => jnum_no HOK.out.ctx (Nat.le_of_lt hps) h ht)
  obtain ⟨L, hL⟩ : ∃ L, l1.length = L := ⟨_, rfl⟩
  have HL := Px.hid hL
  rw [← hl1n, hL] at c7
  have hL2 : L ≤ 4096 := by omega
  clear h hok hol hlen hmay hol2 hp1 hwa hRR hv hi hov hone ht hl1 hl1n hL hdc hdb
  go_enter Tryd.func32, Tryd.ntmps32
  go_wp2_with fail
  refine (HO.out ⟨3, 0, []⟩).mono ?_
  rintro r w1 ⟨rfl, vo1, hd⟩
  have H1 := Px.hid hd
  clear hd
  obtain ⟨g, cap, hvo, o1, o2, k0, _, k2, kf⟩ := H1.out.rep.val (j := L) (a := ⟨3, 0, []⟩) (by rw [← HL.out]; simp)
  simp only [List.length_append, List.length_singleton, HL.out] at hvo o1
  subst hvo
  have c7 := H1.out.rep.jr.cells.2.2.2.2.2.2
  unfold maxLen at o2
  have kf2 := kf (L * 3 + 2)
  clear kf k0
  go_upto_region 18 with fail
  refine wp_region_any (by kernel_rfl) ?_
  refine wpAny_take (i := 0) (v := ?_) rfl (by kernel_rfl) (by kernel_rfl) (by kernel_rfl) (fun _ _ _ h => h) (Or.inl ⟨by rfl, ?_⟩) ?_
  rotate_left
  · intro w
    go_simp
    try (with_reducible rfl)
  refine wpAny_take (i := 1) (v := ?_) rfl (by kernel_rfl) (by kernel_rfl) (by kernel_rfl) (fun _ _ _ h => h) (Or.inl ⟨by rfl, ?_⟩) ?_
  rotate_left
  · intro w
    go_simp
    try (with_reducible rfl)
  refine wpAny_take (i := 2) (v := ?_) rfl (by kernel_rfl) (by kernel_rfl) (by kernel_rfl) (fun _ _ _ h => h) (Or.inl ⟨by rfl, ?_⟩) ?_
  rotate_left
  · intro w
    go_simp
    try (with_reducible rfl)
  refine wpAny_take (i := 4) (v := ?_) rfl (by kernel_rfl) (by kernel_rfl) (by kernel_rfl) (fun _ _ _ h => h) (Or.inl ⟨by rfl, ?_⟩) ?_
  rotate_left
  · intro w
    go_simp
    try (with_reducible rfl)
  refine wpAny_take (i := 5) (v := ?_) rfl (by kernel_rfl) (by kernel_rfl) (by kernel_rfl) (fun _ _ _ h => h) (Or.inl ⟨by rfl, ?_⟩) ?_
  rotate_left
  · intro w
    go_simp
    try (with_reducible rfl)
  refine wpAny_ready (rs := [3, 6]) (by kernel_rfl) (by simp) ?_
  refine AllReady.cons rfl (fun K hK => ?_) (AllReady.cons rfl (fun K hK => ?_) AllReady.nil)
  · go_simp
    refine hK _ _ ?_
    clear hK K
    refine wpAny_ready (rs := [6]) (by kernel_rfl) (by simp) ?_
    refine AllReady.cons rfl (fun K hK => ?_) AllReady.nil
    go_simp
    refine (HT.out _ _ H1.out.rep.jr.drew).mono ?_
    rintro r w2 ⟨rfl, hf⟩
    exact ⟨rfl, JVal.bad HR.out (H1.out.drew.frit hf)⟩
  · go_simp
    refine (HT.out _ _ H1.out.rep.jr.drew).mono ?_
    rintro r w2 ⟨rfl, hf⟩
    exact ⟨rfl, JVal.bad HR.out (H1.out.drew.frit hf)⟩
set_option maxRecDepth 100000 in
set_option maxHeartbeats 4000000 in
theorem jyes_dig (b : Nat) (s : Bytes) (lim : Lim) (x : D6.Dx) (w : World) (vs vo : Value) (ps : List (D6.Fm × Value)) (h : JRep w b s lim x vs vo ps) (hok : JOk s lim x) (hps : x.at_ < min s.length lim.b.toNat) (c : Nat) (hdc : R6.digit c = true) (hi : ¬ (x.out.length : Int) = lim.i) (q : Nat) (ht : D6.number s lim x.at_ = .ok q) :
    Calls Tryd.prog 32 #[.pointer (some ⟨b, 0, none⟩), .int .u8 (c : Nat)] w (JVal w b s lim vs vo ps (D6.value s lim x c)) := by
  obtain ⟨RR, hRR⟩ : ∃ RR, RR = D6.value s lim x c := ⟨_, rfl⟩
  rw [← hRR]
  have hv : D6.value s lim x c = D6.numV s lim x := by
    unfold D6.value
    have hdb : 48 ≤ c ∧ c ≤ 57 := by unfold R6.digit at hdc; simpa using hdc
    rw [if_neg (by simp; omega), if_neg (by simp; omega), if_pos (by simp [hdc])]
  have hlen := hok.ctx.len
  have hmay := J6.may_of hok.ctx.may
  have hol := hok.ol
  have hol2 : x.out.length ≤ 4096 := by omega
  have hp1 : x.at_ ≤ 140737488355327 := by omega
  have hwa := wrap1 x.at_ hp1
  obtain ⟨_, c1, c2, _, c5, c6, c7⟩ := h.jr.cells
  obtain ⟨oa, oc, hov, _⟩ := h.parts.out.len
  rw [hov] at c7
  have HX := Px.hid (JRun.refl h)
  have HOK := Px.hid hok
  have hdb : 48 ≤ c ∧ c ≤ 57 := by unfold R6.digit at hdc; simpa using hdc
  have eq123 : ((c : Int) == 123) = false := by simp; omega
  have eq91 : ((c : Int) == 91) = false := by simp; omega
  have eq34 : ((c : Int) == 34) = false := by simp; omega
  have eq45 : ((c : Int) == 45) = false := by simp; omega
  have ge48 : (48 : Int) ≤ (c : Int) := by omega
  have le57 : (c : Int) ≤ 57 := by omega
  obtain ⟨l1, hl1⟩ : ∃ l1, D6.bumpTop x.out x.stack = l1 := ⟨_, rfl⟩
  have hl1n : l1.length = x.out.length := by rw [← hl1, bumpTop_len]
  have HO := Px.hid (fun (v : Val) => jone_yes b s lim x v w vs vo ps h hok hi)
  simp only [hl1] at HO
  have hone : D6.one lim x ⟨3, 0, []⟩ = .ok { x with out := l1 ++ [⟨3, 0, []⟩] } := by unfold D6.one; rw [if_neg hi, hl1]
  obtain ⟨T, hT⟩ : ∃ T, ((s.take q).drop x.at_) = T := ⟨_, rfl⟩
  have HR := Px.hid (show RR = .ok (D6.over x, { x with at_ := q, out := (l1 ++ [(⟨3, 0, []⟩ : Val)]).set l1.length ⟨3, 0, T⟩ }) by
    rw [hRR, hv]
    unfold D6.numV
    rw [hone]
    simp only
    rw [ht]
    simp only
    rw [← hl1n, setText_set, ← hT])
  have HT := Px.hid (fun (w : World) (vo : Value) (h : Jr w b s lim x.at_ vs vo) => jnum_yes HOK.out.ctx (Nat.le_of_lt hps) h ht)
  simp only [hT] at HT
  obtain ⟨L, hL⟩ : ∃ L, l1.length = L := ⟨_, rfl⟩
  have HL := Px.hid hL
  rw [← hl1n, hL] at c7
  have hL2 : L ≤ 4096 := by omega
  rw [hL] at HR
  clear h hok hol hlen hmay hol2 hp1 hwa hRR hv hi hov hone ht hl1 hl1n hL hT hdc hdb
  go_enter Tryd.func32, Tryd.ntmps32
  go_wp2_with fail
  refine (HO.out ⟨3, 0, []⟩).mono ?_
  rintro r w1 ⟨rfl, vo1, hd⟩
  have H1 := Px.hid hd
  clear hd
  obtain ⟨g, cap, hvo, o1, o2, k0, _, k2, kf⟩ := H1.out.rep.val (j := L) (a := ⟨3, 0, []⟩) (by rw [← HL.out]; simp)
  simp only [List.length_append, List.length_singleton, HL.out] at hvo o1
  subst hvo
  have c7 := H1.out.rep.jr.cells.2.2.2.2.2.2
  unfold maxLen at o2
  have kf2 := kf (L * 3 + 2)
  clear kf k0
  have hgl := H1.out.rep.parts.lt (k := g) (mem_jbl.2 (.inl rfl))
  have hgb : g ≠ b := fun e => H1.out.rep.nb (mem_jbl.2 (.inl (by rw [← e]; rfl)))
  have HG := Px.hid (And.intro hgl hgb)
  have hLL : (L : Int) < (L : Int) + 1 := by omega
  clear hgl hgb
  go_upto_region 18 with fail
  go_region_with (go_at_call 47; refine (HT.out _ _ H1.out.rep.jr.drew).mono ?_; rintro r w2 ⟨rfl, hj, hf⟩; have c7b := hj.cells.2.2.2.2.2.2; have k2b : w2.cell? ⟨g, L * 3 + 2, none⟩ = some (S []) := (hf.cell (p := ⟨g, L * 3 + 2, none⟩) HG.out.1 (fun e => HG.out.2 e)).trans k2; have kfb : w2.frozen? ⟨g, L * 3 + 2, none⟩ = false := (World.frozen?_of_block (w := w1.drew) (a := ⟨g, L * 3 + 2, none⟩) (hf.block g HG.out.1 (fun e => HG.out.2 e))).trans kf2; have HW2 := Px.hid (H1.out.drew.it hj hf); clear hj hf)
  all_goals
    have HS := Px.hid (HW2.out.setVal (j := L) (a := ⟨3, 0, []⟩) (a' := ⟨3, 0, T⟩) (by simp only; rw [← HL.out]; simp) 2 (by decide) (S T) rfl)
    clear c7 c7b k2 k2b kf2 kfb o1 o2
    go_wp2_with fail
    refine (jover_any b s lim _ _ _ _ _ HS.out.rep).mono ?_
    rintro r w3 ⟨rfl, rfl⟩
    go_wp2
    go_ret
    exact JVal.good HR.out HS.out
set_option maxRecDepth 100000 in
set_option maxHeartbeats 4000000 in
theorem jfull_true (b : Nat) (s : Bytes) (lim : Lim) (x : D6.Dx) (w : World) (vs vo : Value) (ps : List (D6.Fm × Value)) (h : JRep w b s lim x vs vo ps) (hok : JOk s lim x) (hps : x.at_ < min s.length lim.b.toNat) (hi : (x.out.length : Int) = lim.i) :
    Calls Tryd.prog 32 #[.pointer (some ⟨b, 0, none⟩), .int .u8 (116 : Nat)] w (JVal w b s lim vs vo ps (D6.value s lim x 116)) := by
  obtain ⟨RR, hRR⟩ : ∃ RR, RR = D6.value s lim x 116 := ⟨_, rfl⟩
  rw [← hRR]
  have hv : D6.value s lim x 116 = D6.wordV s lim x 2 [116, 114, 117, 101] := by
    unfold D6.value
    rfl
  have hlen := hok.ctx.len
  have hmay := J6.may_of hok.ctx.may
  have hol := hok.ol
  have hol2 : x.out.length ≤ 4096 := by omega
  have hp1 : x.at_ ≤ 140737488355327 := by omega
  have hwa := wrap1 x.at_ hp1
  obtain ⟨_, c1, c2, _, c5, c6, c7⟩ := h.jr.cells
  obtain ⟨oa, oc, hov, _⟩ := h.parts.out.len
  rw [hov] at c7
  have HX := Px.hid (JRun.refl h)
  have HOK := Px.hid hok
  have HR := Px.hid (show RR = .error ((x.at_ : Nat), 10) by
    rw [hRR, hv]
    unfold D6.wordV D6.one
    rw [if_pos hi])
  have HO := Px.hid (fun (v : Val) => jone_full b s lim x v w vs vo ps h hi)
  clear h hok hol hlen hmay hol2 hp1 hwa hRR hv hps hi hov
  go_enter Tryd.func32, Tryd.ntmps32
  go_wp2_with fail
  refine (HO.out ⟨2, 0, []⟩).mono ?_
  rintro r w1 ⟨rfl, hs⟩
  have HS := Px.hid (HX.out.same hs)
  clear hs
  unfold jpanics
  go_wp2
  exact ⟨rfl, JVal.bad HR.out HS.out.fr⟩
set_option maxRecDepth 100000 in
set_option maxHeartbeats 4000000 in
theorem jno_true (b : Nat) (s : Bytes) (lim : Lim) (x : D6.Dx) (w : World) (vs vo : Value) (ps : List (D6.Fm × Value)) (h : JRep w b s lim x vs vo ps) (hok : JOk s lim x) (hps : x.at_ < min s.length lim.b.toNat) (hi : ¬ (x.out.length : Int) = lim.i) (e : D6.Flt) (ht : D6.wordN s lim [116, 114, 117, 101] x.at_ = .error e) :
    Calls Tryd.prog 32 #[.pointer (some ⟨b, 0, none⟩), .int .u8 (116 : Nat)] w (JVal w b s lim vs vo ps (D6.value s lim x 116)) := by
  obtain ⟨RR, hRR⟩ : ∃ RR, RR = D6.value s lim x 116 := ⟨_, rfl⟩
  rw [← hRR]
  have hv : D6.value s lim x 116 = D6.wordV s lim x 2 [116, 114, 117, 101] := by
    unfold D6.value
    rfl
  have hlen := hok.ctx.len
  have hmay := J6.may_of hok.ctx.may
  have hol := hok.ol
  have hol2 : x.out.length ≤ 4096 := by omega
  have hp1 : x.at_ ≤ 140737488355327 := by omega
  have hwa := wrap1 x.at_ hp1
  obtain ⟨_, c1, c2, _, c5, c6, c7⟩ := h.jr.cells
  obtain ⟨oa, oc, hov, _⟩ := h.parts.out.len
  rw [hov] at c7
  have HX := Px.hid (JRun.refl h)
  have HOK := Px.hid hok
  obtain ⟨l1, hl1⟩ : ∃ l1, D6.bumpTop x.out x.stack = l1 := ⟨_, rfl⟩
  have hl1n : l1.length = x.out.length := by rw [← hl1, bumpTop_len]
  have HO := Px.hid (fun (v : Val) => jone_yes b s lim x v w vs vo ps h hok hi)
  simp only [hl1] at HO
  have hone : D6.one lim x ⟨2, 0, []⟩ = .ok { x with out := l1 ++ [⟨2, 0, []⟩] } := by unfold D6.one; rw [if_neg hi, hl1]
  have HR := Px.hid (show RR = .error e by
    rw [hRR, hv]
    unfold D6.wordV
    rw [hone]
    simp only
    rw [ht])
  have HT := Px.hid (fun (w : World) (vo : Value) (h : Jr w b s lim x.at_ vs vo) => jword_no HOK.out.ctx hp1 (by decide) h ht)
  clear h hok hol hlen hmay hol2 hp1 hwa hRR hv hi hov hone ht hl1 hl1n
  go_enter Tryd.func32, Tryd.ntmps32
  go_wp2_with fail
  refine (HO.out ⟨2, 0, []⟩).mono ?_
  rintro r w1 ⟨rfl, vo1, hd⟩
  have H1 := Px.hid hd
  clear hd
  go_wp2_with fail
  refine (HT.out _ _ H1.out.rep.jr).mono ?_
  rintro r w2 ⟨rfl, hf⟩
  have HS := Px.hid (H1.out.frit hf)
  clear hf
  unfold jpanics
  go_wp2
  exact ⟨rfl, JVal.bad HR.out HS.out⟩
set_option maxRecDepth 100000 in
set_option maxHeartbeats 4000000 in
theorem jyes_true (b : Nat) (s : Bytes) (lim : Lim) (x : D6.Dx) (w : World) (vs vo : Value) (ps : List (D6.Fm × Value)) (h : JRep w b s lim x vs vo ps) (hok : JOk s lim x) (hps : x.at_ < min s.length lim.b.toNat) (hi : ¬ (x.out.length : Int) = lim.i) (q : Nat) (ht : D6.wordN s lim [116, 114, 117, 101] x.at_ = .ok q) :
    Calls Tryd.prog 32 #[.pointer (some ⟨b, 0, none⟩), .int .u8 (116 : Nat)] w (JVal w b s lim vs vo ps (D6.value s lim x 116)) := by
  obtain ⟨RR, hRR⟩ : ∃ RR, RR = D6.value s lim x 116 := ⟨_, rfl⟩
  rw [← hRR]
  have hv : D6.value s lim x 116 = D6.wordV s lim x 2 [116, 114, 117, 101] := by
    unfold D6.value
    rfl
  have hlen := hok.ctx.len
  have hmay := J6.may_of hok.ctx.may
  have hol := hok.ol
  have hol2 : x.out.length ≤ 4096 := by omega
  have hp1 : x.at_ ≤ 140737488355327 := by omega
  have hwa := wrap1 x.at_ hp1
  obtain ⟨_, c1, c2, _, c5, c6, c7⟩ := h.jr.cells
  obtain ⟨oa, oc, hov, _⟩ := h.parts.out.len
  rw [hov] at c7
  have HX := Px.hid (JRun.refl h)
  have HOK := Px.hid hok
  obtain ⟨l1, hl1⟩ : ∃ l1, D6.bumpTop x.out x.stack = l1 := ⟨_, rfl⟩
  have hl1n : l1.length = x.out.length := by rw [← hl1, bumpTop_len]
  have HO := Px.hid (fun (v : Val) => jone_yes b s lim x v w vs vo ps h hok hi)
  simp only [hl1] at HO
  have hone : D6.one lim x ⟨2, 0, []⟩ = .ok { x with out := l1 ++ [⟨2, 0, []⟩] } := by unfold D6.one; rw [if_neg hi, hl1]
  have HR := Px.hid (show RR = .ok (D6.over x, { x with at_ := q, out := l1 ++ [⟨2, 0, []⟩] }) by
    rw [hRR, hv]
    unfold D6.wordV
    rw [hone]
    simp only
    rw [ht])
  have HT := Px.hid (fun (w : World) (vo : Value) (h : Jr w b s lim x.at_ vs vo) => jword_yes HOK.out.ctx hp1 (by decide) h ht)
  clear h hok hol hlen hmay hol2 hp1 hwa hRR hv hi hov hone ht hl1 hl1n
  go_enter Tryd.func32, Tryd.ntmps32
  go_wp2_with fail
  refine (HO.out ⟨2, 0, []⟩).mono ?_
  rintro r w1 ⟨rfl, vo1, hd⟩
  have H1 := Px.hid hd
  clear hd
  go_wp2_with fail
  refine (HT.out _ _ H1.out.rep.jr).mono ?_
  rintro r w2 ⟨rfl, hj, hf⟩
  have HS := Px.hid (H1.out.it hj hf)
  clear hj hf
  go_wp2_with fail
  refine (jover_any b s lim _ _ _ _ _ HS.out.rep).mono ?_
  rintro r w3 ⟨rfl, rfl⟩
  go_wp2
  go_ret
  exact JVal.good HR.out HS.out
set_option maxRecDepth 100000 in
set_option maxHeartbeats 4000000 in
theorem jfull_false (b : Nat) (s : Bytes) (lim : Lim) (x : D6.Dx) (w : World) (vs vo : Value) (ps : List (D6.Fm × Value)) (h : JRep w b s lim x vs vo ps) (hok : JOk s lim x) (hps : x.at_ < min s.length lim.b.toNat) (hi : (x.out.length : Int) = lim.i) :
    Calls Tryd.prog 32 #[.pointer (some ⟨b, 0, none⟩), .int .u8 (102 : Nat)] w (JVal w b s lim vs vo ps (D6.value s lim x 102)) := by
  obtain ⟨RR, hRR⟩ : ∃ RR, RR = D6.value s lim x 102 := ⟨_, rfl⟩
  rw [← hRR]
  have hv : D6.value s lim x 102 = D6.wordV s lim x 1 [102, 97, 108, 115, 101] := by
    unfold D6.value
    rfl
  have hlen := hok.ctx.len
  have hmay := J6.may_of hok.ctx.may
  have hol := hok.ol
  have hol2 : x.out.length ≤ 4096 := by omega
  have hp1 : x.at_ ≤ 140737488355327 := by omega
  have hwa := wrap1 x.at_ hp1
  obtain ⟨_, c1, c2, _, c5, c6, c7⟩ := h.jr.cells
  obtain ⟨oa, oc, hov, _⟩ := h.parts.out.len
  rw [hov] at c7
  have HX := Px.hid (JRun.refl h)
  have HOK := Px.hid hok
  have HR := Px.hid (show RR = .error ((x.at_ : Nat), 10) by
    rw [hRR, hv]
    unfold D6.wordV D6.one
    rw [if_pos hi])
  have HO := Px.hid (fun (v : Val) => jone_full b s lim x v w vs vo ps h hi)
  clear h hok hol hlen hmay hol2 hp1 hwa hRR hv hps hi hov
  go_enter Tryd.func32, Tryd.ntmps32
  go_wp2_with fail
  refine (HO.out ⟨1, 0, []⟩).mono ?_
  rintro r w1 ⟨rfl, hs⟩
  have HS := Px.hid (HX.out.same hs)
  clear hs
  unfold jpanics
  go_wp2
  exact ⟨rfl, JVal.bad HR.out HS.out.fr⟩
set_option maxRecDepth 100000 in
set_option maxHeartbeats 4000000 in
theorem jno_false (b : Nat) (s : Bytes) (lim : Lim) (x : D6.Dx) (w : World) (vs vo : Value) (ps : List (D6.Fm × Value)) (h : JRep w b s lim x vs vo ps) (hok : JOk s lim x) (hps : x.at_ < min s.length lim.b.toNat) (hi : ¬ (x.out.length : Int) = lim.i) (e : D6.Flt) (ht : D6.wordN s lim [102, 97, 108, 115, 101] x.at_ = .error e) :
    Calls Tryd.prog 32 #[.pointer (some ⟨b, 0, none⟩), .int .u8 (102 : Nat)] w (JVal w b s lim vs vo ps (D6.value s lim x 102)) := by
  obtain ⟨RR, hRR⟩ : ∃ RR, RR = D6.value s lim x 102 := ⟨_, rfl⟩
  rw [← hRR]
  have hv : D6.value s lim x 102 = D6.wordV s lim x 1 [102, 97, 108, 115, 101] := by
    unfold D6.value
    rfl
  have hlen := hok.ctx.len
  have hmay := J6.may_of hok.ctx.may
  have hol := hok.ol
  have hol2 : x.out.length ≤ 4096 := by omega
  have hp1 : x.at_ ≤ 140737488355327 := by omega
  have hwa := wrap1 x.at_ hp1
  obtain ⟨_, c1, c2, _, c5, c6, c7⟩ := h.jr.cells
  obtain ⟨oa, oc, hov, _⟩ := h.parts.out.len
  rw [hov] at c7
  have HX := Px.hid (JRun.refl h)
  have HOK := Px.hid hok
  obtain ⟨l1, hl1⟩ : ∃ l1, D6.bumpTop x.out x.stack = l1 := ⟨_, rfl⟩
  have hl1n : l1.length = x.out.length := by rw [← hl1, bumpTop_len]
  have HO := Px.hid (fun (v : Val) => jone_yes b s lim x v w vs vo ps h hok hi)
  simp only [hl1] at HO
  have hone : D6.one lim x ⟨1, 0, []⟩ = .ok { x with out := l1 ++ [⟨1, 0, []⟩] } := by unfold D6.one; rw [if_neg hi, hl1]
  have HR := Px.hid (show RR = .error e by
    rw [hRR, hv]
    unfold D6.wordV
    rw [hone]
    simp only
    rw [ht])
  have HT := Px.hid (fun (w : World) (vo : Value) (h : Jr w b s lim x.at_ vs vo) => jword_no HOK.out.ctx hp1 (by decide) h ht)
  clear h hok hol hlen hmay hol2 hp1 hwa hRR hv hi hov hone ht hl1 hl1n
  go_enter Tryd.func32, Tryd.ntmps32
  go_wp2_with fail
  refine (HO.out ⟨1, 0, []⟩).mono ?_
  rintro r w1 ⟨rfl, vo1, hd⟩
  have H1 := Px.hid hd
  clear hd
  go_wp2_with fail
  refine (HT.out _ _ H1.out.rep.jr).mono ?_
  rintro r w2 ⟨rfl, hf⟩
  have HS := Px.hid (H1.out.frit hf)
  clear hf
  unfold jpanics
  go_wp2
  exact ⟨rfl, JVal.bad HR.out HS.out⟩
set_option maxRecDepth 100000 in
set_option maxHeartbeats 4000000 in
theorem jyes_false (b : Nat) (s : Bytes) (lim : Lim) (x : D6.Dx) (w : World) (vs vo : Value) (ps : List (D6.Fm × Value)) (h : JRep w b s lim x vs vo ps) (hok : JOk s lim x) (hps : x.at_ < min s.length lim.b.toNat) (hi : ¬ (x.out.length : Int) = lim.i) (q : Nat) (ht : D6.wordN s lim [102, 97, 108, 115, 101] x.at_ = .ok q) :
    Calls Tryd.prog 32 #[.pointer (some ⟨b, 0, none⟩), .int .u8 (102 : Nat)] w (JVal w b s lim vs vo ps (D6.value s lim x 102)) := by
  obtain ⟨RR, hRR⟩ : ∃ RR, RR = D6.value s lim x 102 := ⟨_, rfl⟩
  rw [← hRR]
  have hv : D6.value s lim x 102 = D6.wordV s lim x 1 [102, 97, 108, 115, 101] := by
    unfold D6.value
    rfl
  have hlen := hok.ctx.len
  have hmay := J6.may_of hok.ctx.may
  have hol := hok.ol
  have hol2 : x.out.length ≤ 4096 := by omega
  have hp1 : x.at_ ≤ 140737488355327 := by omega
  have hwa := wrap1 x.at_ hp1
  obtain ⟨_, c1, c2, _, c5, c6, c7⟩ := h.jr.cells
  obtain ⟨oa, oc, hov, _⟩ := h.parts.out.len
  rw [hov] at c7
  have HX := Px.hid (JRun.refl h)
  have HOK := Px.hid hok
  obtain ⟨l1, hl1⟩ : ∃ l1, D6.bumpTop x.out x.stack = l1 := ⟨_, rfl⟩
  have hl1n : l1.length = x.out.length := by rw [← hl1, bumpTop_len]
  have HO := Px.hid (fun (v : Val) => jone_yes b s lim x v w vs vo ps h hok hi)
  simp only [hl1] at HO
  have hone : D6.one lim x ⟨1, 0, []⟩ = .ok { x with out := l1 ++ [⟨1, 0, []⟩] } := by unfold D6.one; rw [if_neg hi, hl1]
  have HR := Px.hid (show RR = .ok (D6.over x, { x with at_ := q, out := l1 ++ [⟨1, 0, []⟩] }) by
    rw [hRR, hv]
    unfold D6.wordV
    rw [hone]
    simp only
    rw [ht])
  have HT := Px.hid (fun (w : World) (vo : Value) (h : Jr w b s lim x.at_ vs vo) => jword_yes HOK.out.ctx hp1 (by decide) h ht)
  clear h hok hol hlen hmay hol2 hp1 hwa hRR hv hi hov hone ht hl1 hl1n
  go_enter Tryd.func32, Tryd.ntmps32
  go_wp2_with fail
  refine (HO.out ⟨1, 0, []⟩).mono ?_
  rintro r w1 ⟨rfl, vo1, hd⟩
  have H1 := Px.hid hd
  clear hd
  go_wp2_with fail
  refine (HT.out _ _ H1.out.rep.jr).mono ?_
  rintro r w2 ⟨rfl, hj, hf⟩
  have HS := Px.hid (H1.out.it hj hf)
  clear hj hf
  go_wp2_with fail
  refine (jover_any b s lim _ _ _ _ _ HS.out.rep).mono ?_
  rintro r w3 ⟨rfl, rfl⟩
  go_wp2
  go_ret
  exact JVal.good HR.out HS.out
set_option maxRecDepth 100000 in
set_option maxHeartbeats 4000000 in
theorem jfull_null (b : Nat) (s : Bytes) (lim : Lim) (x : D6.Dx) (w : World) (vs vo : Value) (ps : List (D6.Fm × Value)) (h : JRep w b s lim x vs vo ps) (hok : JOk s lim x) (hps : x.at_ < min s.length lim.b.toNat) (hi : (x.out.length : Int) = lim.i) :
    Calls Tryd.prog 32 #[.pointer (some ⟨b, 0, none⟩), .int .u8 (110 : Nat)] w (JVal w b s lim vs vo ps (D6.value s lim x 110)) := by
  obtain ⟨RR, hRR⟩ : ∃ RR, RR = D6.value s lim x 110 := ⟨_, rfl⟩
  rw [← hRR]
  have hv : D6.value s lim x 110 = D6.wordV s lim x 0 [110, 117, 108, 108] := by
    unfold D6.value
    rfl
  have hlen := hok.ctx.len
  have hmay := J6.may_of hok.ctx.may
  have hol := hok.ol
  have hol2 : x.out.length ≤ 4096 := by omega
  have hp1 : x.at_ ≤ 140737488355327 := by omega
  have hwa := wrap1 x.at_ hp1
  obtain ⟨_, c1, c2, _, c5, c6, c7⟩ := h.jr.cells
  obtain ⟨oa, oc, hov, _⟩ := h.parts.out.len
  rw [hov] at c7
  have HX := Px.hid (JRun.refl h)
  have HOK := Px.hid hok
  have HR := Px.hid (show RR = .error ((x.at_ : Nat), 10) by
    rw [hRR, hv]
    unfold D6.wordV D6.one
    rw [if_pos hi])
  have HO := Px.hid (fun (v : Val) => jone_full b s lim x v w vs vo ps h hi)
  clear h hok hol hlen hmay hol2 hp1 hwa hRR hv hps hi hov
  go_enter Tryd.func32, Tryd.ntmps32
  go_wp2_with fail
  refine (HO.out ⟨0, 0, []⟩).mono ?_
  rintro r w1 ⟨rfl, hs⟩
  have HS := Px.hid (HX.out.same hs)
  clear hs
  unfold jpanics
  go_wp2
  exact ⟨rfl, JVal.bad HR.out HS.out.fr⟩
set_option maxRecDepth 100000 in
set_option maxHeartbeats 4000000 in
theorem jno_null (b : Nat) (s : Bytes) (lim : Lim) (x : D6.Dx) (w : World) (vs vo : Value) (ps : List (D6.Fm × Value)) (h : JRep w b s lim x vs vo ps) (hok : JOk s lim x) (hps : x.at_ < min s.length lim.b.toNat) (hi : ¬ (x.out.length : Int) = lim.i) (e : D6.Flt) (ht : D6.wordN s lim [110, 117, 108, 108] x.at_ = .error e) :
    Calls Tryd.prog 32 #[.pointer (some ⟨b, 0, none⟩), .int .u8 (110 : Nat)] w (JVal w b s lim vs vo ps (D6.value s lim x 110)) := by
  obtain ⟨RR, hRR⟩ : ∃ RR, RR = D6.value s lim x 110 := ⟨_, rfl⟩
  rw [← hRR]
  have hv : D6.value s lim x 110 = D6.wordV s lim x 0 [110, 117, 108, 108] := by
    unfold D6.value
    rfl
  have hlen := hok.ctx.len
  have hmay := J6.may_of hok.ctx.may
  have hol := hok.ol
  have hol2 : x.out.length ≤ 4096 := by omega
  have hp1 : x.at_ ≤ 140737488355327 := by omega
  have hwa := wrap1 x.at_ hp1
  obtain ⟨_, c1, c2, _, c5, c6, c7⟩ := h.jr.cells
  obtain ⟨oa, oc, hov, _⟩ := h.parts.out.len
  rw [hov] at c7
  have HX := Px.hid (JRun.refl h)
  have HOK := Px.hid hok
  obtain ⟨l1, hl1⟩ : ∃ l1, D6.bumpTop x.out x.stack = l1 := ⟨_, rfl⟩
  have hl1n : l1.length = x.out.length := by rw [← hl1, bumpTop_len]
  have HO := Px.hid (fun (v : Val) => jone_yes b s lim x v w vs vo ps h hok hi)
  simp only [hl1] at HO
  have hone : D6.one lim x ⟨0, 0, []⟩ = .ok { x with out := l1 ++ [⟨0, 0, []⟩] } := by unfold D6.one; rw [if_neg hi, hl1]
  have HR := Px.hid (show RR = .error e by
    rw [hRR, hv]
    unfold D6.wordV
    rw [hone]
    simp only
    rw [ht])
  have HT := Px.hid (fun (w : World) (vo : Value) (h : Jr w b s lim x.at_ vs vo) => jword_no HOK.out.ctx hp1 (by decide) h ht)
  clear h hok hol hlen hmay hol2 hp1 hwa hRR hv hi hov hone ht hl1 hl1n
  go_enter Tryd.func32, Tryd.ntmps32
  go_wp2_with fail
  refine (HO.out ⟨0, 0, []⟩).mono ?_
  rintro r w1 ⟨rfl, vo1, hd⟩
  have H1 := Px.hid hd
  clear hd
  go_wp2_with fail
  refine (HT.out _ _ H1.out.rep.jr).mono ?_
  rintro r w2 ⟨rfl, hf⟩
  have HS := Px.hid (H1.out.frit hf)
  clear hf
  unfold jpanics
  go_wp2
  exact ⟨rfl, JVal.bad HR.out HS.out⟩
set_option maxRecDepth 100000 in
set_option maxHeartbeats 4000000 in
theorem jyes_null (b : Nat) (s : Bytes) (lim : Lim) (x : D6.Dx) (w : World) (vs vo : Value) (ps : List (D6.Fm × Value)) (h : JRep w b s lim x vs vo ps) (hok : JOk s lim x) (hps : x.at_ < min s.length lim.b.toNat) (hi : ¬ (x.out.length : Int) = lim.i) (q : Nat) (ht : D6.wordN s lim [110, 117, 108, 108] x.at_ = .ok q) :
    Calls Tryd.prog 32 #[.pointer (some ⟨b, 0, none⟩), .int .u8 (110 : Nat)] w (JVal w b s lim vs vo ps (D6.value s lim x 110)) := by
  obtain ⟨RR, hRR⟩ : ∃ RR, RR = D6.value s lim x 110 := ⟨_, rfl⟩
  rw [← hRR]
  have hv : D6.value s lim x 110 = D6.wordV s lim x 0 [110, 117, 108, 108] := by
    unfold D6.value
    rfl
  have hlen := hok.ctx.len
  have hmay := J6.may_of hok.ctx.may
  have hol := hok.ol
  have hol2 : x.out.length ≤ 4096 := by omega
  have hp1 : x.at_ ≤ 140737488355327 := by omega
  have hwa := wrap1 x.at_ hp1
  obtain ⟨_, c1, c2, _, c5, c6, c7⟩ := h.jr.cells
  obtain ⟨oa, oc, hov, _⟩ := h.parts.out.len
  rw [hov] at c7
  have HX := Px.hid (JRun.refl h)
  have HOK := Px.hid hok
  obtain ⟨l1, hl1⟩ : ∃ l1, D6.bumpTop x.out x.stack = l1 := ⟨_, rfl⟩
  have hl1n : l1.length = x.out.length := by rw [← hl1, bumpTop_len]
  have HO := Px.hid (fun (v : Val) => jone_yes b s lim x v w vs vo ps h hok hi)
  simp only [hl1] at HO
  have hone : D6.one lim x ⟨0, 0, []⟩ = .ok { x with out := l1 ++ [⟨0, 0, []⟩] } := by unfold D6.one; rw [if_neg hi, hl1]
  have HR := Px.hid (show RR = .ok (D6.over x, { x with at_ := q, out := l1 ++ [⟨0, 0, []⟩] }) by
    rw [hRR, hv]
    unfold D6.wordV
    rw [hone]
    simp only
    rw [ht])
  have HT := Px.hid (fun (w : World) (vo : Value) (h : Jr w b s lim x.at_ vs vo) => jword_yes HOK.out.ctx hp1 (by decide) h ht)
  clear h hok hol hlen hmay hol2 hp1 hwa hRR hv hi hov hone ht hl1 hl1n
  go_enter Tryd.func32, Tryd.ntmps32
  go_wp2_with fail
  refine (HO.out ⟨0, 0, []⟩).mono ?_
  rintro r w1 ⟨rfl, vo1, hd⟩
  have H1 := Px.hid hd
  clear hd
  go_wp2_with fail
  refine (HT.out _ _ H1.out.rep.jr).mono ?_
  rintro r w2 ⟨rfl, hj, hf⟩
  have HS := Px.hid (H1.out.it hj hf)
  clear hj hf
  go_wp2_with fail
  refine (jover_any b s lim _ _ _ _ _ HS.out.rep).mono ?_
  rintro r w3 ⟨rfl, rfl⟩
  go_wp2
  go_ret
  exact JVal.good HR.out HS.out
end Go.Proofs.YtahojodgmjmpnaaDoor

/-! The walks over the program's reader of package json: what opens, a wrong byte; value joined. -/
namespace Go.Proofs.YtahojodgmjmpnaaDoor
open Go.RowKit Go.Px

set_option maxRecDepth 100000 in
set_option maxHeartbeats 4000000 in
theorem jfull_obj (b : Nat) (s : Bytes) (lim : Lim) (x : D6.Dx) (w : World) (vs vo : Value) (ps : List (D6.Fm × Value)) (h : JRep w b s lim x vs vo ps) (hok : JOk s lim x) (hi : (x.out.length : Int) = lim.i) :
    Calls Tryd.prog 32 #[.pointer (some ⟨b, 0, none⟩), .int .u8 (123 : Nat)] w (JVal w b s lim vs vo ps (D6.value s lim x 123)) := by
  obtain ⟨RR, hRR⟩ : ∃ RR, RR = D6.value s lim x 123 := ⟨_, rfl⟩
  rw [← hRR]
  have hlen := hok.ctx.len
  have hmay := J6.may_of hok.ctx.may
  have hol := hok.ol
  have hal := hok.al
  have hol2 : x.out.length ≤ 4096 := by omega
  have hp1 : x.at_ ≤ 140737488355327 := by omega
  have hwa := wrap1 x.at_ hp1
  obtain ⟨_, c1, c2, _, c5, c6, c7⟩ := h.jr.cells
  obtain ⟨oa, oc, hov, _⟩ := h.parts.out.len
  rw [hov] at c7
  obtain ⟨sa, sc, hsv, _⟩ := h.parts.stack.len
  have hsn : ps.length = x.stack.length := by rw [← h.parts.fms, List.length_map]
  rw [List.length_reverse, hsn] at hsv
  rw [hsv] at c6
  have HX := Px.hid (JRun.refl h)
  have HOK := Px.hid hok
  have HR := Px.hid (show RR = .error ((x.at_ : Nat), 10) by
    rw [hRR]
    show D6.opens lim x 123 = _
    unfold D6.opens
    rw [if_neg (by omega)]
    unfold D6.one
    rw [if_pos hi])
  have HO := Px.hid (fun (v : Val) (n : Nat) => jone_full b s lim x v (w.drewN n) vs vo ps (h.drewN n) hi)
  have hlt : decide ((x.out.length : Int) < lim.i) = false := by simp; omega
  clear h hok hol hlen hmay hol2 hp1 hwa hRR hi hov hsv hsn hal
  go_enter Tryd.func32, Tryd.ntmps32
  go_wp2_with fail
  go_quiet (fail)
  go_wp2_with fail
  refine (HO.out ⟨6, 0, []⟩ nq).mono ?_
  rintro r w1 ⟨rfl, hs⟩
  have HS := Px.hid ((HX.out.drewN nq).same hs)
  clear hs
  unfold jpanics
  go_wp2
  exact ⟨rfl, JVal.bad HR.out HS.out.fr⟩
set_option maxRecDepth 100000 in
set_option maxHeartbeats 4000000 in
theorem jdeep_obj (b : Nat) (s : Bytes) (lim : Lim) (x : D6.Dx) (w : World) (vs vo : Value) (ps : List (D6.Fm × Value)) (h : JRep w b s lim x vs vo ps) (hok : JOk s lim x) (hi : ¬ (x.out.length : Int) = lim.i) (hd : (x.stack.length : Int) = lim.d) :
    Calls Tryd.prog 32 #[.pointer (some ⟨b, 0, none⟩), .int .u8 (123 : Nat)] w (JVal w b s lim vs vo ps (D6.value s lim x 123)) := by
  obtain ⟨RR, hRR⟩ : ∃ RR, RR = D6.value s lim x 123 := ⟨_, rfl⟩
  rw [← hRR]
  have hlen := hok.ctx.len
  have hmay := J6.may_of hok.ctx.may
  have hol := hok.ol
  have hal := hok.al
  have hol2 : x.out.length ≤ 4096 := by omega
  have hp1 : x.at_ ≤ 140737488355327 := by omega
  have hwa := wrap1 x.at_ hp1
  obtain ⟨_, c1, c2, _, c5, c6, c7⟩ := h.jr.cells
  obtain ⟨oa, oc, hov, _⟩ := h.parts.out.len
  rw [hov] at c7
  obtain ⟨sa, sc, hsv, _⟩ := h.parts.stack.len
  have hsn : ps.length = x.stack.length := by rw [← h.parts.fms, List.length_map]
  rw [List.length_reverse, hsn] at hsv
  rw [hsv] at c6
  have HX := Px.hid (JRun.refl h)
  have HOK := Px.hid hok
  have HR := Px.hid (show RR = .error ((x.at_ : Nat), 10) by
    rw [hRR]
    show D6.opens lim x 123 = _
    unfold D6.opens
    rw [if_pos ⟨by omega, hd⟩])
  have hlt : decide ((x.out.length : Int) < lim.i) = true := by simp; omega
  have hde : ((x.stack.length : Int) == lim.d) = true := by simpa using hd
  have HC5 := Px.hid (fun n : Nat => (h.drewN n).jr.cells.2.2.2.2.1)
  clear h hok hol hlen hmay hol2 hp1 hwa hRR hi hov hsv hsn hd hal
  go_enter Tryd.func32, Tryd.ntmps32
  go_wp2_with fail
  go_quiet (fail)
  have c5b := HC5.out nq
  go_wp2_with fail
  refine (jwrong b _ _ _).mono ?_
  rintro r w1 ⟨rfl, rfl⟩
  have HS := Px.hid (HX.out.drewN nq)
  unfold jpanics
  go_wp2
  exact ⟨rfl, JVal.bad HR.out HS.out.fr⟩
set_option maxRecDepth 100000 in
set_option maxHeartbeats 4000000 in
theorem jopen_obj (b : Nat) (s : Bytes) (lim : Lim) (x : D6.Dx) (w : World) (vs vo : Value) (ps : List (D6.Fm × Value)) (h : JRep w b s lim x vs vo ps) (hok : JOk s lim x) (hi : ¬ (x.out.length : Int) = lim.i) (hd : ¬ (x.stack.length : Int) = lim.d) :
    Calls Tryd.prog 32 #[.pointer (some ⟨b, 0, none⟩), .int .u8 (123 : Nat)] w (JVal w b s lim vs vo ps (D6.value s lim x 123)) := by
  obtain ⟨RR, hRR⟩ : ∃ RR, RR = D6.value s lim x 123 := ⟨_, rfl⟩
  rw [← hRR]
  have hlen := hok.ctx.len
  have hmay := J6.may_of hok.ctx.may
  have hol := hok.ol
  have hal := hok.al
  have hol2 : x.out.length ≤ 4096 := by omega
  have hp1 : x.at_ ≤ 140737488355327 := by omega
  have hwa := wrap1 x.at_ hp1
  obtain ⟨_, c1, c2, _, c5, c6, c7⟩ := h.jr.cells
  obtain ⟨oa, oc, hov, _⟩ := h.parts.out.len
  rw [hov] at c7
  obtain ⟨sa, sc, hsv, _⟩ := h.parts.stack.len
  have hsn : ps.length = x.stack.length := by rw [← h.parts.fms, List.length_map]
  rw [List.length_reverse, hsn] at hsv
  rw [hsv] at c6
  have HX := Px.hid (JRun.refl h)
  have HOK := Px.hid hok
  obtain ⟨l1, hl1⟩ : ∃ l1, D6.bumpTop x.out x.stack = l1 := ⟨_, rfl⟩
  have hl1n : l1.length = x.out.length := by rw [← hl1, bumpTop_len]
  have HR := Px.hid (show RR = .ok (3, { at_ := x.at_ + 1, stack := ⟨x.out.length, []⟩ :: x.stack, out := l1 ++ [⟨6, 0, []⟩] }) by
    rw [hRR]
    show D6.opens lim x 123 = _
    unfold D6.opens
    rw [if_neg (by omega)]
    unfold D6.one
    rw [if_neg hi, hl1]
    rfl)
  have HO := Px.hid (fun (v : Val) (n : Nat) => jone_yes b s lim x v (w.drewN n) vs vo ps (h.drewN n) hok hi)
  simp only [hl1] at HO
  have hlt : decide ((x.out.length : Int) < lim.i) = true := by simp; omega
  have hde : ((x.stack.length : Int) == lim.d) = false := by simpa using hd
  have hsl := hok.sl
  have hsl2 : x.stack.length ≤ 32 := by omega
  obtain ⟨L, hL⟩ : ∃ L, x.out.length = L := ⟨_, rfl⟩
  rw [hL] at c7 hlt hol2 HR
  obtain ⟨M, hM⟩ : ∃ M, x.stack.length = M := ⟨_, rfl⟩
  rw [hM] at c6 hde hsv hsl2
  subst hsv
  have HSN := Px.hid (show ps.length = M by rw [hsn, hM])
  obtain ⟨i0, hi0, hz0, hz1, hz2⟩ := info_parts Tryd.infoFmJ
  clear h hok hol hlen hmay hp1 hRR hi hov hsn hd hal hl1 hl1n hsl hL hM c5
  go_enter Tryd.func32, Tryd.ntmps32
  go_wp2_with fail
  go_quiet (fail)
  go_wp2_with fail
  refine (HO.out ⟨6, 0, []⟩ nq).mono ?_
  rintro r w1 ⟨rfl, vo1, hd⟩
  have H1 := Px.hid ((HX.out.drewN nq).trans hd)
  clear hd c1 c2 c6 c7
  have c6 := H1.out.rep.jr.cells.2.2.2.2.2.1
  have f6 := H1.out.rep.jr.free 6
  have c5 := H1.out.rep.jr.cells.2.2.2.2.1
  have f5 := H1.out.rep.jr.free 5
  have hbl := H1.out.rep.lt
  have HNB := Px.hid (show (Value.slice sa M sc).ownBlock ≠ some b from fun e => H1.out.rep.nb (mem_jbl.2 (.inr (.inl e))))
  have HOW := Px.hid (show w1.ownsRow 0 77 2 (.slice sa M sc) M (ps.reverse.flatMap cJf) from by
    have := H1.out.rep.parts.stack
    unfold Owns at this
    rw [List.length_reverse, HSN.out] at this
    exact this)
  go_wp2_with (at_builtin; go_must (refine wpList_append_lies _ rfl _ _ _ rfl 0 77 i0 _ 2 32 Tryd.underlying47 hi0 hz0 hz1 hz2 rfl (by omega) (.slice sa M sc) M (ps.reverse.flatMap cJf) rfl (HOW.out.alloc _) ⟨w1.heap.size, 0, none⟩ 1 1 (cJf (⟨L, []⟩, .slice none 0 0)) rfl rfl (World.news_of_block (cs := #[.int .i64 (L : Nat), .slice none 0 0]) (t := 77) (fr := (0, 0)) (heap_alloc_new w1 _)) (by simp [cJf, Value.oneCell']) (by omega) (by unfold maxLen; omega) (by omega) (by omega) (w1.heap.size + 1) (by simp) ?_))
  intro gg cap w3 hown hgrow hat hltg
  have k6 := grown_cell1 hgrow c6 HNB.out
  have e6 := grown_free1 hgrow c6 f6 HNB.out
  have k5 := grown_cell1 hgrow c5 HNB.out
  have e5 := grown_free1 hgrow c5 f5 HNB.out
  have hpf := H1.out.pushFrame (no := L) (by rw [HSN.out]; exact hown) (grown_alloc1 hgrow) (hat.elim .inl (fun e => .inr (by omega)))
  rw [HSN.out] at hpf
  have HD := Px.hid (hpf.it (hpf.rep.jr.move (x.at_ + 1)) (It.set _))
  clear hown hgrow hat hltg hpf c6 f6 c5 f5 hbl
  go_wp2
  go_ret
  exact JVal.good HR.out HD.out
set_option maxRecDepth 100000 in
set_option maxHeartbeats 4000000 in
theorem jfull_arr (b : Nat) (s : Bytes) (lim : Lim) (x : D6.Dx) (w : World) (vs vo : Value) (ps : List (D6.Fm × Value)) (h : JRep w b s lim x vs vo ps) (hok : JOk s lim x) (hi : (x.out.length : Int) = lim.i) :
    Calls Tryd.prog 32 #[.pointer (some ⟨b, 0, none⟩), .int .u8 (91 : Nat)] w (JVal w b s lim vs vo ps (D6.value s lim x 91)) := by
  obtain ⟨RR, hRR⟩ : ∃ RR, RR = D6.value s lim x 91 := ⟨_, rfl⟩
  rw [← hRR]
  have hlen := hok.ctx.len
  have hmay := J6.may_of hok.ctx.may
  have hol := hok.ol
  have hal := hok.al
  have hol2 : x.out.length ≤ 4096 := by omega
  have hp1 : x.at_ ≤ 140737488355327 := by omega
  have hwa := wrap1 x.at_ hp1
  obtain ⟨_, c1, c2, _, c5, c6, c7⟩ := h.jr.cells
  obtain ⟨oa, oc, hov, _⟩ := h.parts.out.len
  rw [hov] at c7
  obtain ⟨sa, sc, hsv, _⟩ := h.parts.stack.len
  have hsn : ps.length = x.stack.length := by rw [← h.parts.fms, List.length_map]
  rw [List.length_reverse, hsn] at hsv
  rw [hsv] at c6
  have HX := Px.hid (JRun.refl h)
  have HOK := Px.hid hok
  have HR := Px.hid (show RR = .error ((x.at_ : Nat), 10) by
    rw [hRR]
    show D6.opens lim x 91 = _
    unfold D6.opens
    rw [if_neg (by omega)]
    unfold D6.one
    rw [if_pos hi])
  have HO := Px.hid (fun (v : Val) (n : Nat) => jone_full b s lim x v (w.drewN n) vs vo ps (h.drewN n) hi)
  have hlt : decide ((x.out.length : Int) < lim.i) = false := by simp; omega
  clear h hok hol hlen hmay hol2 hp1 hwa hRR hi hov hsv hsn hal
  go_enter Tryd.func32, Tryd.ntmps32
  go_wp2_with fail
  go_quiet (fail)
  go_wp2_with fail
  refine (HO.out ⟨5, 0, []⟩ nq).mono ?_
  rintro r w1 ⟨rfl, hs⟩
  have HS := Px.hid ((HX.out.drewN nq).same hs)
  clear hs
  unfold jpanics
  go_wp2
  exact ⟨rfl, JVal.bad HR.out HS.out.fr⟩
set_option maxRecDepth 100000 in
set_option maxHeartbeats 4000000 in
theorem jdeep_arr (b : Nat) (s : Bytes) (lim : Lim) (x : D6.Dx) (w : World) (vs vo : Value) (ps : List (D6.Fm × Value)) (h : JRep w b s lim x vs vo ps) (hok : JOk s lim x) (hi : ¬ (x.out.length : Int) = lim.i) (hd : (x.stack.length : Int) = lim.d) :
    Calls Tryd.prog 32 #[.pointer (some ⟨b, 0, none⟩), .int .u8 (91 : Nat)] w (JVal w b s lim vs vo ps (D6.value s lim x 91)) := by
  obtain ⟨RR, hRR⟩ : ∃ RR, RR = D6.value s lim x 91 := ⟨_, rfl⟩
  rw [← hRR]
  have hlen := hok.ctx.len
  have hmay := J6.may_of hok.ctx.may
  have hol := hok.ol
  have hal := hok.al
  have hol2 : x.out.length ≤ 4096 := by omega
  have hp1 : x.at_ ≤ 140737488355327 := by omega
  have hwa := wrap1 x.at_ hp1
  obtain ⟨_, c1, c2, _, c5, c6, c7⟩ := h.jr.cells
  obtain ⟨oa, oc, hov, _⟩ := h.parts.out.len
  rw [hov] at c7
  obtain ⟨sa, sc, hsv, _⟩ := h.parts.stack.len
  have hsn : ps.length = x.stack.length := by rw [← h.parts.fms, List.length_map]
  rw [List.length_reverse, hsn] at hsv
  rw [hsv] at c6
  have HX := Px.hid (JRun.refl h)
  have HOK := Px.hid hok
  have HR := Px.hid (show RR = .error ((x.at_ : Nat), 10) by
    rw [hRR]
    show D6.opens lim x 91 = _
    unfold D6.opens
    rw [if_pos ⟨by omega, hd⟩])
  have hlt : decide ((x.out.length : Int) < lim.i) = true := by simp; omega
  have hde : ((x.stack.length : Int) == lim.d) = true := by simpa using hd
  have HC5 := Px.hid (fun n : Nat => (h.drewN n).jr.cells.2.2.2.2.1)
  clear h hok hol hlen hmay hol2 hp1 hwa hRR hi hov hsv hsn hd hal
  go_enter Tryd.func32, Tryd.ntmps32
  go_wp2_with fail
  go_quiet (fail)
  have c5b := HC5.out nq
  go_wp2_with fail
  refine (jwrong b _ _ _).mono ?_
  rintro r w1 ⟨rfl, rfl⟩
  have HS := Px.hid (HX.out.drewN nq)
  unfold jpanics
  go_wp2
  exact ⟨rfl, JVal.bad HR.out HS.out.fr⟩
set_option maxRecDepth 100000 in
set_option maxHeartbeats 4000000 in
theorem jopen_arr (b : Nat) (s : Bytes) (lim : Lim) (x : D6.Dx) (w : World) (vs vo : Value) (ps : List (D6.Fm × Value)) (h : JRep w b s lim x vs vo ps) (hok : JOk s lim x) (hi : ¬ (x.out.length : Int) = lim.i) (hd : ¬ (x.stack.length : Int) = lim.d) :
    Calls Tryd.prog 32 #[.pointer (some ⟨b, 0, none⟩), .int .u8 (91 : Nat)] w (JVal w b s lim vs vo ps (D6.value s lim x 91)) := by
  obtain ⟨RR, hRR⟩ : ∃ RR, RR = D6.value s lim x 91 := ⟨_, rfl⟩
  rw [← hRR]
  have hlen := hok.ctx.len
  have hmay := J6.may_of hok.ctx.may
  have hol := hok.ol
  have hal := hok.al
  have hol2 : x.out.length ≤ 4096 := by omega
  have hp1 : x.at_ ≤ 140737488355327 := by omega
  have hwa := wrap1 x.at_ hp1
  obtain ⟨_, c1, c2, _, c5, c6, c7⟩ := h.jr.cells
  obtain ⟨oa, oc, hov, _⟩ := h.parts.out.len
  rw [hov] at c7
  obtain ⟨sa, sc, hsv, _⟩ := h.parts.stack.len
  have hsn : ps.length = x.stack.length := by rw [← h.parts.fms, List.length_map]
  rw [List.length_reverse, hsn] at hsv
  rw [hsv] at c6
  have HX := Px.hid (JRun.refl h)
  have HOK := Px.hid hok
  obtain ⟨l1, hl1⟩ : ∃ l1, D6.bumpTop x.out x.stack = l1 := ⟨_, rfl⟩
  have hl1n : l1.length = x.out.length := by rw [← hl1, bumpTop_len]
  have HR := Px.hid (show RR = .ok (1, { at_ := x.at_ + 1, stack := ⟨x.out.length, []⟩ :: x.stack, out := l1 ++ [⟨5, 0, []⟩] }) by
    rw [hRR]
    show D6.opens lim x 91 = _
    unfold D6.opens
    rw [if_neg (by omega)]
    unfold D6.one
    rw [if_neg hi, hl1]
    rfl)
  have HO := Px.hid (fun (v : Val) (n : Nat) => jone_yes b s lim x v (w.drewN n) vs vo ps (h.drewN n) hok hi)
  simp only [hl1] at HO
  have hlt : decide ((x.out.length : Int) < lim.i) = true := by simp; omega
  have hde : ((x.stack.length : Int) == lim.d) = false := by simpa using hd
  have hsl := hok.sl
  have hsl2 : x.stack.length ≤ 32 := by omega
  obtain ⟨L, hL⟩ : ∃ L, x.out.length = L := ⟨_, rfl⟩
  rw [hL] at c7 hlt hol2 HR
  obtain ⟨M, hM⟩ : ∃ M, x.stack.length = M := ⟨_, rfl⟩
  rw [hM] at c6 hde hsv hsl2
  subst hsv
  have HSN := Px.hid (show ps.length = M by rw [hsn, hM])
  obtain ⟨i0, hi0, hz0, hz1, hz2⟩ := info_parts Tryd.infoFmJ
  clear h hok hol hlen hmay hp1 hRR hi hov hsn hd hal hl1 hl1n hsl hL hM c5
  go_enter Tryd.func32, Tryd.ntmps32
  go_wp2_with fail
  go_quiet (fail)
  go_wp2_with fail
  refine (HO.out ⟨5, 0, []⟩ nq).mono ?_
  rintro r w1 ⟨rfl, vo1, hd⟩
  have H1 := Px.hid ((HX.out.drewN nq).trans hd)
  clear hd c1 c2 c6 c7
  have c6 := H1.out.rep.jr.cells.2.2.2.2.2.1
  have f6 := H1.out.rep.jr.free 6
  have c5 := H1.out.rep.jr.cells.2.2.2.2.1
  have f5 := H1.out.rep.jr.free 5
  have hbl := H1.out.rep.lt
  have HNB := Px.hid (show (Value.slice sa M sc).ownBlock ≠ some b from fun e => H1.out.rep.nb (mem_jbl.2 (.inr (.inl e))))
  have HOW := Px.hid (show w1.ownsRow 0 77 2 (.slice sa M sc) M (ps.reverse.flatMap cJf) from by
    have := H1.out.rep.parts.stack
    unfold Owns at this
    rw [List.length_reverse, HSN.out] at this
    exact this)
  go_wp2_with (at_builtin; go_must (refine wpList_append_lies _ rfl _ _ _ rfl 0 77 i0 _ 2 32 Tryd.underlying47 hi0 hz0 hz1 hz2 rfl (by omega) (.slice sa M sc) M (ps.reverse.flatMap cJf) rfl (HOW.out.alloc _) ⟨w1.heap.size, 0, none⟩ 1 1 (cJf (⟨L, []⟩, .slice none 0 0)) rfl rfl (World.news_of_block (cs := #[.int .i64 (L : Nat), .slice none 0 0]) (t := 77) (fr := (0, 0)) (heap_alloc_new w1 _)) (by simp [cJf, Value.oneCell']) (by omega) (by unfold maxLen; omega) (by omega) (by omega) (w1.heap.size + 1) (by simp) ?_))
  intro gg cap w3 hown hgrow hat hltg
  have k6 := grown_cell1 hgrow c6 HNB.out
  have e6 := grown_free1 hgrow c6 f6 HNB.out
  have k5 := grown_cell1 hgrow c5 HNB.out
  have e5 := grown_free1 hgrow c5 f5 HNB.out
  have hpf := H1.out.pushFrame (no := L) (by rw [HSN.out]; exact hown) (grown_alloc1 hgrow) (hat.elim .inl (fun e => .inr (by omega)))
  rw [HSN.out] at hpf
  have HD := Px.hid (hpf.it (hpf.rep.jr.move (x.at_ + 1)) (It.set _))
  clear hown hgrow hat hltg hpf c6 f6 c5 f5 hbl
  go_wp2
  go_ret
  exact JVal.good HR.out HD.out
set_option maxRecDepth 100000 in
theorem jbad_any (c : Nat) (b : Nat) (s : Bytes) (lim : Lim) (x : D6.Dx) (w : World) (vs vo : Value) (ps : List (D6.Fm × Value)) (h : JRep w b s lim x vs vo ps) (hf : R6.firsts c = false) :
    Calls Tryd.prog 32 #[.pointer (some ⟨b, 0, none⟩), .int .u8 (c : Nat)] w (JVal w b s lim vs vo ps (.error ((x.at_ : Nat), 9))) := by
  obtain ⟨_, _, _, _, c5, _, c7⟩ := h.jr.cells
  obtain ⟨oa, oc, hov, _⟩ := h.parts.out.len
  rw [hov] at c7
  have HX := Px.hid (JRun.refl h)
  unfold R6.firsts R6.digit at hf
  simp only [Bool.or_eq_false_iff, beq_eq_false_iff_ne, Bool.and_eq_false_iff, decide_eq_false_iff_not] at hf
  obtain ⟨⟨⟨⟨⟨⟨⟨n1, n2⟩, n3⟩, n4⟩, n5⟩, n6⟩, n7⟩, hd⟩ := hf
  have eq123 : ((c : Int) == 123) = false := by simp; omega
  have eq91 : ((c : Int) == 91) = false := by simp; omega
  have eq34 : ((c : Int) == 34) = false := by simp; omega
  have eq45 : ((c : Int) == 45) = false := by simp; omega
  have eq116 : ((c : Int) == 116) = false := by simp; omega
  have eq102 : ((c : Int) == 102) = false := by simp; omega
  have eq110 : ((c : Int) == 110) = false := by simp; omega
  have g : decide ((48 : Int) ≤ (c : Int)) = false ∨ ((48 : Int) ≤ (c : Int) ∧ decide ((c : Int) ≤ 57) = false) := by
    by_cases e : 48 ≤ c
    · exact .inr ⟨by omega, by simp; omega⟩
    · exact .inl (by simp; omega)
  clear h hov n1 n2 n3 n4 n5 n6 n7 hd
  rcases g with g | ⟨g, g2⟩
  all_goals
    go_enter Tryd.func32, Tryd.ntmps32
    go_wp2_with fail
    refine (jwrong b _ _ _).mono ?_
    rintro r w1 ⟨rfl, rfl⟩
    unfold jpanics
    go_wp2
    exact ⟨rfl, JVal.bad rfl HX.out.fr⟩
theorem jval_any (c : Nat) (b : Nat) (s : Bytes) (lim : Lim) (x : D6.Dx) (w : World) (vs vo : Value) (ps : List (D6.Fm × Value)) (h : JRep w b s lim x vs vo ps) (hok : JOk s lim x) (hps : x.at_ < min s.length lim.b.toNat) :
    Calls Tryd.prog 32 #[.pointer (some ⟨b, 0, none⟩), .int .u8 (c : Nat)] w (JVal w b s lim vs vo ps (D6.value s lim x c)) := by
  cases hf : R6.firsts c with
  | false =>
    have e : D6.value s lim x c = .error ((x.at_ : Nat), 9) := by
      have hf2 := hf
      unfold R6.firsts at hf2
      simp only [Bool.or_eq_false_iff] at hf2
      obtain ⟨⟨⟨⟨⟨⟨⟨w1, w2⟩, w3⟩, w4⟩, w5⟩, w6⟩, w7⟩, w8⟩ := hf2
      unfold D6.value
      rw [w1, w2, w3, w4, w5, w6, w7, w8]
      rfl
    rw [e]
    exact jbad_any c b s lim x w vs vo ps h hf
  | true =>
    have hcs : c = 123 ∨ c = 91 ∨ c = 34 ∨ c = 45 ∨ c = 116 ∨ c = 102 ∨ c = 110 ∨ R6.digit c = true := by
      unfold R6.firsts at hf
      simp only [Bool.or_eq_true, beq_iff_eq] at hf
      rcases hf with ((((((w | w) | w) | w) | w) | w) | w) | w
      · exact .inl w
      · exact .inr (.inl w)
      · exact .inr (.inr (.inl w))
      · exact .inr (.inr (.inr (.inl w)))
      · exact .inr (.inr (.inr (.inr (.inl w))))
      · exact .inr (.inr (.inr (.inr (.inr (.inl w)))))
      · exact .inr (.inr (.inr (.inr (.inr (.inr (.inl w))))))
      · exact .inr (.inr (.inr (.inr (.inr (.inr (.inr w))))))
    by_cases hi : (x.out.length : Int) = lim.i
    · rcases hcs with rfl | rfl | rfl | rfl | rfl | rfl | rfl | hdc
      · exact jfull_obj b s lim x w vs vo ps h hok hi
      · exact jfull_arr b s lim x w vs vo ps h hok hi
      · exact jfull_str b s lim x w vs vo ps h hok hps hi
      · exact jfull_min b s lim x w vs vo ps h hok hps hi
      · exact jfull_true b s lim x w vs vo ps h hok hps hi
      · exact jfull_false b s lim x w vs vo ps h hok hps hi
      · exact jfull_null b s lim x w vs vo ps h hok hps hi
      · exact jfull_dig b s lim x w vs vo ps h hok hps c hdc hi
    · have txt : ∀ {k : Nat}, (k = 34) → Calls Tryd.prog 32 #[.pointer (some ⟨b, 0, none⟩), .int .u8 (34 : Nat)] w (JVal w b s lim vs vo ps (D6.value s lim x 34)) := fun _ => by
        cases ht : D6.text s lim x.at_ with
        | error e => exact jno_str b s lim x w vs vo ps h hok hps hi e ht
        | ok lq => exact jyes_str b s lim x w vs vo ps h hok hps hi lq.1 lq.2 ht
      rcases hcs with rfl | rfl | rfl | rfl | rfl | rfl | rfl | hdc
      · by_cases hd : (x.stack.length : Int) = lim.d
        · exact jdeep_obj b s lim x w vs vo ps h hok hi hd
        · exact jopen_obj b s lim x w vs vo ps h hok hi hd
      · by_cases hd : (x.stack.length : Int) = lim.d
        · exact jdeep_arr b s lim x w vs vo ps h hok hi hd
        · exact jopen_arr b s lim x w vs vo ps h hok hi hd
      · exact txt rfl
      · cases ht : D6.number s lim x.at_ with
        | error e => exact jno_min b s lim x w vs vo ps h hok hps hi e ht
        | ok q => exact jyes_min b s lim x w vs vo ps h hok hps hi q ht
      · cases ht : D6.wordN s lim [116, 114, 117, 101] x.at_ with
        | error e => exact jno_true b s lim x w vs vo ps h hok hps hi e ht
        | ok q => exact jyes_true b s lim x w vs vo ps h hok hps hi q ht
      · cases ht : D6.wordN s lim [102, 97, 108, 115, 101] x.at_ with
        | error e => exact jno_false b s lim x w vs vo ps h hok hps hi e ht
        | ok q => exact jyes_false b s lim x w vs vo ps h hok hps hi q ht
      · cases ht : D6.wordN s lim [110, 117, 108, 108] x.at_ with
        | error e => exact jno_null b s lim x w vs vo ps h hok hps hi e ht
        | ok q => exact jyes_null b s lim x w vs vo ps h hok hps hi q ht
      · cases ht : D6.number s lim x.at_ with
        | error e => exact jno_dig b s lim x w vs vo ps h hok hps c hdc hi e ht
        | ok q => exact jyes_dig b s lim x w vs vo ps h hok hps c hdc hi q ht
end Go.Proofs.YtahojodgmjmpnaaDoor
