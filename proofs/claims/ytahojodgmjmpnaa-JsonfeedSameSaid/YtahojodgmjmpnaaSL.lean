/-
  Several texts in one: The walks over the program's reader of package json: what opens, a wrong byte; value joined.
-/
import Derived.Test.YtahojodgmjmpnaaSK
import Derived.Test.YtahojodgmjmpnaaYlJ
/-! The walks over the program's reader of package json: what opens, a wrong byte; value joined. -/
namespace Go.Proofs.Ytahojodgmjmpnaa
open Go.RowKit Go.Px

set_option maxRecDepth 100000 in
set_option maxHeartbeats 4000000 in
theorem jfull_obj (b : Nat) (s : Bytes) (lim : Lim) (x : D6.Dx) (w : World) (vs vo : Value) (ps : List (D6.Fm × Value)) (h : JRep w b s lim x vs vo ps) (hok : JOk s lim x) (hi : (x.out.length : Int) = lim.i) :
    Calls Try.prog 36 #[.pointer (some ⟨b, 0, none⟩), .int .u8 (123 : Nat)] w (JVal w b s lim vs vo ps (D6.value s lim x 123)) := by
  obtain ⟨RR, hRR⟩ : ∃ RR, RR = D6.value s lim x 123 := ⟨_, rfl⟩
  rw [← hRR]
  have hlen := hok.ctx.len
  have hmay := J6.may_of hok.ctx.may
  have hol := hok.ol
  have hal := hok.al
  have hol2 : x.out.length ≤ 4096 := by omega
  have hp1 : x.at_ ≤ 140737488355327 := by omega
  have hwa := wrap1 x.at_ hp1
  obtain ⟨_, c1, c2, _, c5, c6, c7⟩ := h.jr.cells
  obtain ⟨oa, oc, hov, _⟩ := h.parts.out.len
  rw [hov] at c7
  obtain ⟨sa, sc, hsv, _⟩ := h.parts.stack.len
  have hsn : ps.length = x.stack.length := by rw [← h.parts.fms, List.length_map]
  rw [List.length_reverse, hsn] at hsv
  rw [hsv] at c6
  have HX := Px.hid (JRun.refl h)
  have HOK := Px.hid hok
  have HR := Px.hid (show RR = .error ((x.at_ : Nat), 10) by
    rw [hRR]
    show D6.opens lim x 123 = _
    unfold D6.opens
    rw [if_neg (by omega)]
    unfold D6.one
    rw [if_pos hi])
  have HO := Px.hid (fun (v : Val) (n : Nat) => jone_full b s lim x v (w.drewN n) vs vo ps (h.drewN n) hi)
  have hlt : decide ((x.out.length : Int) < lim.i) = false := by simp; omega
  clear h hok hol hlen hmay hol2 hp1 hwa hRR hi hov hsv hsn hal
  go_enter Try.func36, Try.ntmps36
  go_wp2_with fail
  go_quiet (fail)
  go_wp2_with fail
  refine (HO.out ⟨6, 0, []⟩ nq).mono ?_
  rintro r w1 ⟨rfl, hs⟩
  have HS := Px.hid ((HX.out.drewN nq).same hs)
  clear hs
  unfold jpanics
  go_wp2
  exact ⟨rfl, JVal.bad HR.out HS.out.fr⟩
set_option maxRecDepth 100000 in
set_option maxHeartbeats 4000000 in
theorem jdeep_obj (b : Nat) (s : Bytes) (lim : Lim) (x : D6.Dx) (w : World) (vs vo : Value) (ps : List (D6.Fm × Value)) (h : JRep w b s lim x vs vo ps) (hok : JOk s lim x) (hi : ¬ (x.out.length : Int) = lim.i) (hd : (x.stack.length : Int) = lim.d) :
    Calls Try.prog 36 #[.pointer (some ⟨b, 0, none⟩), .int .u8 (123 : Nat)] w (JVal w b s lim vs vo ps (D6.value s lim x 123)) := by
  obtain ⟨RR, hRR⟩ : ∃ RR, RR = D6.value s lim x 123 := ⟨_, rfl⟩
  rw [← hRR]
  have hlen := hok.ctx.len
  have hmay := J6.may_of hok.ctx.may
  have hol := hok.ol
  have hal := hok.al
  have hol2 : x.out.length ≤ 4096 := by omega
  have hp1 : x.at_ ≤ 140737488355327 := by omega
  have hwa := wrap1 x.at_ hp1
  obtain ⟨_, c1, c2, _, c5, c6, c7⟩ := h.jr.cells
  obtain ⟨oa, oc, hov, _⟩ := h.parts.out.len
  rw [hov] at c7
  obtain ⟨sa, sc, hsv, _⟩ := h.parts.stack.len
  have hsn : ps.length = x.stack.length := by rw [← h.parts.fms, List.length_map]
  rw [List.length_reverse, hsn] at hsv
  rw [hsv] at c6
  have HX := Px.hid (JRun.refl h)
  have HOK := Px.hid hok
  have HR := Px.hid (show RR = .error ((x.at_ : Nat), 10) by
    rw [hRR]
    show D6.opens lim x 123 = _
    unfold D6.opens
    rw [if_pos ⟨by omega, hd⟩])
  have hlt : decide ((x.out.length : Int) < lim.i) = true := by simp; omega
  have hde : ((x.stack.length : Int) == lim.d) = true := by simpa using hd
  have HC5 := Px.hid (fun n : Nat => (h.drewN n).jr.cells.2.2.2.2.1)
  clear h hok hol hlen hmay hol2 hp1 hwa hRR hi hov hsv hsn hd hal
  go_enter Try.func36, Try.ntmps36
  go_wp2_with fail
  go_quiet (fail)
  have c5b := HC5.out nq
  go_wp2_with fail
  refine (jwrong b _ _ _).mono ?_
  rintro r w1 ⟨rfl, rfl⟩
  have HS := Px.hid (HX.out.drewN nq)
  unfold jpanics
  go_wp2
  exact ⟨rfl, JVal.bad HR.out HS.out.fr⟩
set_option maxRecDepth 100000 in
set_option maxHeartbeats 4000000 in
theorem jopen_obj (b : Nat) (s : Bytes) (lim : Lim) (x : D6.Dx) (w : World) (vs vo : Value) (ps : List (D6.Fm × Value)) (h : JRep w b s lim x vs vo ps) (hok : JOk s lim x) (hi : ¬ (x.out.length : Int) = lim.i) (hd : ¬ (x.stack.length : Int) = lim.d) :
    Calls Try.prog 36 #[.pointer (some ⟨b, 0, none⟩), .int .u8 (123 : Nat)] w (JVal w b s lim vs vo ps (D6.value s lim x 123)) := by
  obtain ⟨RR, hRR⟩ : ∃ RR, RR = D6.value s lim x 123 := ⟨_, rfl⟩
  rw [← hRR]
  have hlen := hok.ctx.len
  have hmay := J6.may_of hok.ctx.may
  have hol := hok.ol
  have hal := hok.al
  have hol2 : x.out.length ≤ 4096 := by omega
  have hp1 : x.at_ ≤ 140737488355327 := by omega
  have hwa := wrap1 x.at_ hp1
  obtain ⟨_, c1, c2, _, c5, c6, c7⟩ := h.jr.cells
  obtain ⟨oa, oc, hov, _⟩ := h.parts.out.len
  rw [hov] at c7
  obtain ⟨sa, sc, hsv, _⟩ := h.parts.stack.len
  have hsn : ps.length = x.stack.length := by rw [← h.parts.fms, List.length_map]
  rw [List.length_reverse, hsn] at hsv
  rw [hsv] at c6
  have HX := Px.hid (JRun.refl h)
  have HOK := Px.hid hok
  obtain ⟨l1, hl1⟩ : ∃ l1, D6.bumpTop x.out x.stack = l1 := ⟨_, rfl⟩
  have hl1n : l1.length = x.out.length := by rw [← hl1, bumpTop_len]
  have HR := Px.hid (show RR = .ok (3, { at_ := x.at_ + 1, stack := ⟨x.out.length, []⟩ :: x.stack, out := l1 ++ [⟨6, 0, []⟩] }) by
    rw [hRR]
    show D6.opens lim x 123 = _
    unfold D6.opens
    rw [if_neg (by omega)]
    unfold D6.one
    rw [if_neg hi, hl1]
    rfl)
  have HO := Px.hid (fun (v : Val) (n : Nat) => jone_yes b s lim x v (w.drewN n) vs vo ps (h.drewN n) hok hi)
  simp only [hl1] at HO
  have hlt : decide ((x.out.length : Int) < lim.i) = true := by simp; omega
  have hde : ((x.stack.length : Int) == lim.d) = false := by simpa using hd
  have hsl := hok.sl
  have hsl2 : x.stack.length ≤ 32 := by omega
  obtain ⟨L, hL⟩ : ∃ L, x.out.length = L := ⟨_, rfl⟩
  rw [hL] at c7 hlt hol2 HR
  obtain ⟨M, hM⟩ : ∃ M, x.stack.length = M := ⟨_, rfl⟩
  rw [hM] at c6 hde hsv hsl2
  subst hsv
  have HSN := Px.hid (show ps.length = M by rw [hsn, hM])
  obtain ⟨i0, hi0, hz0, hz1, hz2⟩ := info_parts Try.infoFmJ
  clear h hok hol hlen hmay hp1 hRR hi hov hsn hd hal hl1 hl1n hsl hL hM c5
  go_enter Try.func36, Try.ntmps36
  go_wp2_with fail
  go_quiet (fail)
  go_wp2_with fail
  refine (HO.out ⟨6, 0, []⟩ nq).mono ?_
  rintro r w1 ⟨rfl, vo1, hd⟩
  have H1 := Px.hid ((HX.out.drewN nq).trans hd)
  clear hd c1 c2 c6 c7
  have c6 := H1.out.rep.jr.cells.2.2.2.2.2.1
  have f6 := H1.out.rep.jr.free 6
  have c5 := H1.out.rep.jr.cells.2.2.2.2.1
  have f5 := H1.out.rep.jr.free 5
  have hbl := H1.out.rep.lt
  have HNB := Px.hid (show (Value.slice sa M sc).ownBlock ≠ some b from fun e => H1.out.rep.nb (mem_jbl.2 (.inr (.inl e))))
  have HOW := Px.hid (show w1.ownsRow 0 84 2 (.slice sa M sc) M (ps.reverse.flatMap cJf) from by
    have := H1.out.rep.parts.stack
    unfold Owns at this
    rw [List.length_reverse, HSN.out] at this
    exact this)
  go_wp2_with (at_builtin; go_must (refine wpList_append_lies _ rfl _ _ _ rfl 0 84 i0 _ 2 32 Try.underlying69 hi0 hz0 hz1 hz2 rfl (by omega) (.slice sa M sc) M (ps.reverse.flatMap cJf) rfl (HOW.out.alloc _) ⟨w1.heap.size, 0, none⟩ 1 1 (cJf (⟨L, []⟩, .slice none 0 0)) rfl rfl (World.news_of_block (cs := #[.int .i64 (L : Nat), .slice none 0 0]) (t := 84) (fr := (0, 0)) (heap_alloc_new w1 _)) (by simp [cJf, Value.oneCell']) (by omega) (by unfold maxLen; omega) (by omega) (by omega) (w1.heap.size + 1) (by simp) ?_))
  intro gg cap w3 hown hgrow hat hltg
  have k6 := grown_cell1 hgrow c6 HNB.out
  have e6 := grown_free1 hgrow c6 f6 HNB.out
  have k5 := grown_cell1 hgrow c5 HNB.out
  have e5 := grown_free1 hgrow c5 f5 HNB.out
  have hpf := H1.out.pushFrame (no := L) (by rw [HSN.out]; exact hown) (grown_alloc1 hgrow) (hat.elim .inl (fun e => .inr (by omega)))
  rw [HSN.out] at hpf
  have HD := Px.hid (hpf.it (hpf.rep.jr.move (x.at_ + 1)) (It.set _))
  clear hown hgrow hat hltg hpf c6 f6 c5 f5 hbl
  go_wp2
  go_ret
  exact JVal.good HR.out HD.out
set_option maxRecDepth 100000 in
set_option maxHeartbeats 4000000 in
theorem jfull_arr (b : Nat) (s : Bytes) (lim : Lim) (x : D6.Dx) (w : World) (vs vo : Value) (ps : List (D6.Fm × Value)) (h : JRep w b s lim x vs vo ps) (hok : JOk s lim x) (hi : (x.out.length : Int) = lim.i) :
    Calls Try.prog 36 #[.pointer (some ⟨b, 0, none⟩), .int .u8 (91 : Nat)] w (JVal w b s lim vs vo ps (D6.value s lim x 91)) := by
  obtain ⟨RR, hRR⟩ : ∃ RR, RR = D6.value s lim x 91 := ⟨_, rfl⟩
  rw [← hRR]
  have hlen := hok.ctx.len
  have hmay := J6.may_of hok.ctx.may
  have hol := hok.ol
  have hal := hok.al
  have hol2 : x.out.length ≤ 4096 := by omega
  have hp1 : x.at_ ≤ 140737488355327 := by omega
  have hwa := wrap1 x.at_ hp1
  obtain ⟨_, c1, c2, _, c5, c6, c7⟩ := h.jr.cells
  obtain ⟨oa, oc, hov, _⟩ := h.parts.out.len
  rw [hov] at c7
  obtain ⟨sa, sc, hsv, _⟩ := h.parts.stack.len
  have hsn : ps.length = x.stack.length := by rw [← h.parts.fms, List.length_map]
  rw [List.length_reverse, hsn] at hsv
  rw [hsv] at c6
  have HX := Px.hid (JRun.refl h)
  have HOK := Px.hid hok
  have HR := Px.hid (show RR = .error ((x.at_ : Nat), 10) by
    rw [hRR]
    show D6.opens lim x 91 = _
    unfold D6.opens
    rw [if_neg (by omega)]
    unfold D6.one
    rw [if_pos hi])
  have HO := Px.hid (fun (v : Val) (n : Nat) => jone_full b s lim x v (w.drewN n) vs vo ps (h.drewN n) hi)
  have hlt : decide ((x.out.length : Int) < lim.i) = false := by simp; omega
  clear h hok hol hlen hmay hol2 hp1 hwa hRR hi hov hsv hsn hal
  go_enter Try.func36, Try.ntmps36
  go_wp2_with fail
  go_quiet (fail)
  go_wp2_with fail
  refine (HO.out ⟨5, 0, []⟩ nq).mono ?_
  rintro r w1 ⟨rfl, hs⟩
  have HS := Px.hid ((HX.out.drewN nq).same hs)
  clear hs
  unfold jpanics
  go_wp2
  exact ⟨rfl, JVal.bad HR.out HS.out.fr⟩
set_option maxRecDepth 100000 in
set_option maxHeartbeats 4000000 in
theorem jdeep_arr (b : Nat) (s : Bytes) (lim : Lim) (x : D6.Dx) (w : World) (vs vo : Value) (ps : List (D6.Fm × Value)) (h : JRep w b s lim x vs vo ps) (hok : JOk s lim x) (hi : ¬ (x.out.length : Int) = lim.i) (hd : (x.stack.length : Int) = lim.d) :
    Calls Try.prog 36 #[.pointer (some ⟨b, 0, none⟩), .int .u8 (91 : Nat)] w (JVal w b s lim vs vo ps (D6.value s lim x 91)) := by
  obtain ⟨RR, hRR⟩ : ∃ RR, RR = D6.value s lim x 91 := ⟨_, rfl⟩
  rw [← hRR]
  have hlen := hok.ctx.len
  have hmay := J6.may_of hok.ctx.may
  have hol := hok.ol
  have hal := hok.al
  have hol2 : x.out.length ≤ 4096 := by omega
  have hp1 : x.at_ ≤ 140737488355327 := by omega
  have hwa := wrap1 x.at_ hp1
  obtain ⟨_, c1, c2, _, c5, c6, c7⟩ := h.jr.cells
  obtain ⟨oa, oc, hov, _⟩ := h.parts.out.len
  rw [hov] at c7
  obtain ⟨sa, sc, hsv, _⟩ := h.parts.stack.len
  have hsn : ps.length = x.stack.length := by rw [← h.parts.fms, List.length_map]
  rw [List.length_reverse, hsn] at hsv
  rw [hsv] at c6
  have HX := Px.hid (JRun.refl h)
  have HOK := Px.hid hok
  have HR := Px.hid (show RR = .error ((x.at_ : Nat), 10) by
    rw [hRR]
    show D6.opens lim x 91 = _
    unfold D6.opens
    rw [if_pos ⟨by omega, hd⟩])
  have hlt : decide ((x.out.length : Int) < lim.i) = true := by simp; omega
  have hde : ((x.stack.length : Int) == lim.d) = true := by simpa using hd
  have HC5 := Px.hid (fun n : Nat => (h.drewN n).jr.cells.2.2.2.2.1)
  clear h hok hol hlen hmay hol2 hp1 hwa hRR hi hov hsv hsn hd hal
  go_enter Try.func36, Try.ntmps36
  go_wp2_with fail
  go_quiet (fail)
  have c5b := HC5.out nq
  go_wp2_with fail
  refine (jwrong b _ _ _).mono ?_
  rintro r w1 ⟨rfl, rfl⟩
  have HS := Px.hid (HX.out.drewN nq)
  unfold jpanics
  go_wp2
  exact ⟨rfl, JVal.bad HR.out HS.out.fr⟩
set_option maxRecDepth 100000 in
set_option maxHeartbeats 4000000 in
theorem jopen_arr (b : Nat) (s : Bytes) (lim : Lim) (x : D6.Dx) (w : World) (vs vo : Value) (ps : List (D6.Fm × Value)) (h : JRep w b s lim x vs vo ps) (hok : JOk s lim x) (hi : ¬ (x.out.length : Int) = lim.i) (hd : ¬ (x.stack.length : Int) = lim.d) :
    Calls Try.prog 36 #[.pointer (some ⟨b, 0, none⟩), .int .u8 (91 : Nat)] w (JVal w b s lim vs vo ps (D6.value s lim x 91)) := by
  obtain ⟨RR, hRR⟩ : ∃ RR, RR = D6.value s lim x 91 := ⟨_, rfl⟩
  rw [← hRR]
  have hlen := hok.ctx.len
  have hmay := J6.may_of hok.ctx.may
  have hol := hok.ol
  have hal := hok.al
  have hol2 : x.out.length ≤ 4096 := by omega
  have hp1 : x.at_ ≤ 140737488355327 := by omega
  have hwa := wrap1 x.at_ hp1
  obtain ⟨_, c1, c2, _, c5, c6, c7⟩ := h.jr.cells
  obtain ⟨oa, oc, hov, _⟩ := h.parts.out.len
  rw [hov] at c7
  obtain ⟨sa, sc, hsv, _⟩ := h.parts.stack.len
  have hsn : ps.length = x.stack.length := by rw [← h.parts.fms, List.length_map]
  rw [List.length_reverse, hsn] at hsv
  rw [hsv] at c6
  have HX := Px.hid (JRun.refl h)
  have HOK := Px.hid hok
  obtain ⟨l1, hl1⟩ : ∃ l1, D6.bumpTop x.out x.stack = l1 := ⟨_, rfl⟩
  have hl1n : l1.length = x.out.length := by rw [← hl1, bumpTop_len]
  have HR := Px.hid (show RR = .ok (1, { at_ := x.at_ + 1, stack := ⟨x.out.length, []⟩ :: x.stack, out := l1 ++ [⟨5, 0, []⟩] }) by
    rw [hRR]
    show D6.opens lim x 91 = _
    unfold D6.opens
    rw [if_neg (by omega)]
    unfold D6.one
    rw [if_neg hi, hl1]
    rfl)
  have HO := Px.hid (fun (v : Val) (n : Nat) => jone_yes b s lim x v (w.drewN n) vs vo ps (h.drewN n) hok hi)
  simp only [hl1] at HO
  have hlt : decide ((x.out.length : Int) < lim.i) = true := by simp; omega
  have hde : ((x.stack.length : Int) == lim.d) = false := by simpa using hd
  have hsl := hok.sl
  have hsl2 : x.stack.length ≤ 32 := by omega
  obtain ⟨L, hL⟩ : ∃ L, x.out.length = L := ⟨_, rfl⟩
  rw [hL] at c7 hlt hol2 HR
  obtain ⟨M, hM⟩ : ∃ M, x.stack.length = M := ⟨_, rfl⟩
  rw [hM] at c6 hde hsv hsl2
  subst hsv
  have HSN := Px.hid (show ps.length = M by rw [hsn, hM])
  obtain ⟨i0, hi0, hz0, hz1, hz2⟩ := info_parts Try.infoFmJ
  clear h hok hol hlen hmay hp1 hRR hi hov hsn hd hal hl1 hl1n hsl hL hM c5
  go_enter Try.func36, Try.ntmps36
  go_wp2_with fail
  go_quiet (fail)
  go_wp2_with fail
  refine (HO.out ⟨5, 0, []⟩ nq).mono ?_
  rintro r w1 ⟨rfl, vo1, hd⟩
  have H1 := Px.hid ((HX.out.drewN nq).trans hd)
  clear hd c1 c2 c6 c7
  have c6 := H1.out.rep.jr.cells.2.2.2.2.2.1
  have f6 := H1.out.rep.jr.free 6
  have c5 := H1.out.rep.jr.cells.2.2.2.2.1
  have f5 := H1.out.rep.jr.free 5
  have hbl := H1.out.rep.lt
  have HNB := Px.hid (show (Value.slice sa M sc).ownBlock ≠ some b from fun e => H1.out.rep.nb (mem_jbl.2 (.inr (.inl e))))
  have HOW := Px.hid (show w1.ownsRow 0 84 2 (.slice sa M sc) M (ps.reverse.flatMap cJf) from by
    have := H1.out.rep.parts.stack
    unfold Owns at this
    rw [List.length_reverse, HSN.out] at this
    exact this)
  go_wp2_with (at_builtin; go_must (refine wpList_append_lies _ rfl _ _ _ rfl 0 84 i0 _ 2 32 Try.underlying69 hi0 hz0 hz1 hz2 rfl (by omega) (.slice sa M sc) M (ps.reverse.flatMap cJf) rfl (HOW.out.alloc _) ⟨w1.heap.size, 0, none⟩ 1 1 (cJf (⟨L, []⟩, .slice none 0 0)) rfl rfl (World.news_of_block (cs := #[.int .i64 (L : Nat), .slice none 0 0]) (t := 84) (fr := (0, 0)) (heap_alloc_new w1 _)) (by simp [cJf, Value.oneCell']) (by omega) (by unfold maxLen; omega) (by omega) (by omega) (w1.heap.size + 1) (by simp) ?_))
  intro gg cap w3 hown hgrow hat hltg
  have k6 := grown_cell1 hgrow c6 HNB.out
  have e6 := grown_free1 hgrow c6 f6 HNB.out
  have k5 := grown_cell1 hgrow c5 HNB.out
  have e5 := grown_free1 hgrow c5 f5 HNB.out
  have hpf := H1.out.pushFrame (no := L) (by rw [HSN.out]; exact hown) (grown_alloc1 hgrow) (hat.elim .inl (fun e => .inr (by omega)))
  rw [HSN.out] at hpf
  have HD := Px.hid (hpf.it (hpf.rep.jr.move (x.at_ + 1)) (It.set _))
  clear hown hgrow hat hltg hpf c6 f6 c5 f5 hbl
  go_wp2
  go_ret
  exact JVal.good HR.out HD.out
set_option maxRecDepth 100000 in
theorem jbad_any (c : Nat) (b : Nat) (s : Bytes) (lim : Lim) (x : D6.Dx) (w : World) (vs vo : Value) (ps : List (D6.Fm × Value)) (h : JRep w b s lim x vs vo ps) (hf : R6.firsts c = false) :
    Calls Try.prog 36 #[.pointer (some ⟨b, 0, none⟩), .int .u8 (c : Nat)] w (JVal w b s lim vs vo ps (.error ((x.at_ : Nat), 9))) := by
  obtain ⟨_, _, _, _, c5, _, c7⟩ := h.jr.cells
  obtain ⟨oa, oc, hov, _⟩ := h.parts.out.len
  rw [hov] at c7
  have HX := Px.hid (JRun.refl h)
  unfold R6.firsts R6.digit at hf
  simp only [Bool.or_eq_false_iff, beq_eq_false_iff_ne, Bool.and_eq_false_iff, decide_eq_false_iff_not] at hf
  obtain ⟨⟨⟨⟨⟨⟨⟨n1, n2⟩, n3⟩, n4⟩, n5⟩, n6⟩, n7⟩, hd⟩ := hf
  have eq123 : ((c : Int) == 123) = false := by simp; omega
  have eq91 : ((c : Int) == 91) = false := by simp; omega
  have eq34 : ((c : Int) == 34) = false := by simp; omega
  have eq45 : ((c : Int) == 45) = false := by simp; omega
  have eq116 : ((c : Int) == 116) = false := by simp; omega
  have eq102 : ((c : Int) == 102) = false := by simp; omega
  have eq110 : ((c : Int) == 110) = false := by simp; omega
  have g : decide ((48 : Int) ≤ (c : Int)) = false ∨ ((48 : Int) ≤ (c : Int) ∧ decide ((c : Int) ≤ 57) = false) := by
    by_cases e : 48 ≤ c
    · exact .inr ⟨by omega, by simp; omega⟩
    · exact .inl (by simp; omega)
  clear h hov n1 n2 n3 n4 n5 n6 n7 hd
  rcases g with g | ⟨g, g2⟩
  all_goals
    go_enter Try.func36, Try.ntmps36
    go_wp2_with fail
    refine (jwrong b _ _ _).mono ?_
    rintro r w1 ⟨rfl, rfl⟩
    unfold jpanics
    go_wp2
    exact ⟨rfl, JVal.bad rfl HX.out.fr⟩
theorem jval_any (c : Nat) (b : Nat) (s : Bytes) (lim : Lim) (x : D6.Dx) (w : World) (vs vo : Value) (ps : List (D6.Fm × Value)) (h : JRep w b s lim x vs vo ps) (hok : JOk s lim x) (hps : x.at_ < min s.length lim.b.toNat) :
    Calls Try.prog 36 #[.pointer (some ⟨b, 0, none⟩), .int .u8 (c : Nat)] w (JVal w b s lim vs vo ps (D6.value s lim x c)) := by
  cases hf : R6.firsts c with
  | false =>
    have e : D6.value s lim x c = .error ((x.at_ : Nat), 9) := by
      have hf2 := hf
      unfold R6.firsts at hf2
      simp only [Bool.or_eq_false_iff] at hf2
      obtain ⟨⟨⟨⟨⟨⟨⟨w1, w2⟩, w3⟩, w4⟩, w5⟩, w6⟩, w7⟩, w8⟩ := hf2
      unfold D6.value
      rw [w1, w2, w3, w4, w5, w6, w7, w8]
      rfl
    rw [e]
    exact jbad_any c b s lim x w vs vo ps h hf
  | true =>
    have hcs : c = 123 ∨ c = 91 ∨ c = 34 ∨ c = 45 ∨ c = 116 ∨ c = 102 ∨ c = 110 ∨ R6.digit c = true := by
      unfold R6.firsts at hf
      simp only [Bool.or_eq_true, beq_iff_eq] at hf
      rcases hf with ((((((w | w) | w) | w) | w) | w) | w) | w
      · exact .inl w
      · exact .inr (.inl w)
      · exact .inr (.inr (.inl w))
      · exact .inr (.inr (.inr (.inl w)))
      · exact .inr (.inr (.inr (.inr (.inl w))))
      · exact .inr (.inr (.inr (.inr (.inr (.inl w)))))
      · exact .inr (.inr (.inr (.inr (.inr (.inr (.inl w))))))
      · exact .inr (.inr (.inr (.inr (.inr (.inr (.inr w))))))
    by_cases hi : (x.out.length : Int) = lim.i
    · rcases hcs with rfl | rfl | rfl | rfl | rfl | rfl | rfl | hdc
      · exact jfull_obj b s lim x w vs vo ps h hok hi
      · exact jfull_arr b s lim x w vs vo ps h hok hi
      · exact jfull_str b s lim x w vs vo ps h hok hps hi
      · exact jfull_min b s lim x w vs vo ps h hok hps hi
      · exact jfull_true b s lim x w vs vo ps h hok hps hi
      · exact jfull_false b s lim x w vs vo ps h hok hps hi
      · exact jfull_null b s lim x w vs vo ps h hok hps hi
      · exact jfull_dig b s lim x w vs vo ps h hok hps c hdc hi
    · have txt : ∀ {k : Nat}, (k = 34) → Calls Try.prog 36 #[.pointer (some ⟨b, 0, none⟩), .int .u8 (34 : Nat)] w (JVal w b s lim vs vo ps (D6.value s lim x 34)) := fun _ => by
        cases ht : D6.text s lim x.at_ with
        | error e => exact jno_str b s lim x w vs vo ps h hok hps hi e ht
        | ok lq => exact jyes_str b s lim x w vs vo ps h hok hps hi lq.1 lq.2 ht
      rcases hcs with rfl | rfl | rfl | rfl | rfl | rfl | rfl | hdc
      · by_cases hd : (x.stack.length : Int) = lim.d
        · exact jdeep_obj b s lim x w vs vo ps h hok hi hd
        · exact jopen_obj b s lim x w vs vo ps h hok hi hd
      · by_cases hd : (x.stack.length : Int) = lim.d
        · exact jdeep_arr b s lim x w vs vo ps h hok hi hd
        · exact jopen_arr b s lim x w vs vo ps h hok hi hd
      · exact txt rfl
      · cases ht : D6.number s lim x.at_ with
        | error e => exact jno_min b s lim x w vs vo ps h hok hps hi e ht
        | ok q => exact jyes_min b s lim x w vs vo ps h hok hps hi q ht
      · cases ht : D6.wordN s lim [116, 114, 117, 101] x.at_ with
        | error e => exact jno_true b s lim x w vs vo ps h hok hps hi e ht
        | ok q => exact jyes_true b s lim x w vs vo ps h hok hps hi q ht
      · cases ht : D6.wordN s lim [102, 97, 108, 115, 101] x.at_ with
        | error e => exact jno_false b s lim x w vs vo ps h hok hps hi e ht
        | ok q => exact jyes_false b s lim x w vs vo ps h hok hps hi q ht
      · cases ht : D6.wordN s lim [110, 117, 108, 108] x.at_ with
        | error e => exact jno_null b s lim x w vs vo ps h hok hps hi e ht
        | ok q => exact jyes_null b s lim x w vs vo ps h hok hps hi q ht
      · cases ht : D6.number s lim x.at_ with
        | error e => exact jno_dig b s lim x w vs vo ps h hok hps c hdc hi e ht
        | ok q => exact jyes_dig b s lim x w vs vo ps h hok hps c hdc hi q ht
end Go.Proofs.Ytahojodgmjmpnaa
