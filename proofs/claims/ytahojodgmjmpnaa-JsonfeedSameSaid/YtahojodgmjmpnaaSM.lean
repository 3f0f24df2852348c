/-
  Several texts in one: The walk over the program's reader of package json: name. What holds of the program's reader of package json between two steps is kept by a step. No walk here.
-/
import Derived.Test.YtahojodgmjmpnaaSL
import Derived.Test.YtahojodgmjmpnaaSB
/-! The walk over the program's reader of package json: name. -/
namespace Go.Proofs.Ytahojodgmjmpnaa
open Go.RowKit Go.Px

section
variable {w w1 w2 : World} {b : Nat} {s : Bytes} {lim : Lim} {x : D6.Dx} {vs vo vo1 : Value} {ps ps1 rest : List (D6.Fm × Value)} {f : D6.Fm} {vn : Value} {g cap gg c2 : Nat} {t : Bytes}
theorem JRep.topCells (h : JRep w b s lim x (.slice (some ⟨g, 0, none⟩) (rest.length + 1) cap) vo ((f, vn) :: rest)) :
    w.cell? ⟨g, rest.length * 2, none⟩ = some (.int .i64 (f.no : Nat)) ∧ w.cell? ⟨g, rest.length * 2 + 1, none⟩ = some vn ∧ (∀ i, w.frozen? ⟨g, i, none⟩ = false) ∧ rest.length + 1 ≤ cap ∧ cap ≤ maxLen := by
  have h' : Owns w 84 2 cJf (.slice (some ⟨g, 0, none⟩) (rest.length + 1) cap) (rest.reverse ++ [(f, vn)]) := by have := h.parts.stack; simpa using this
  obtain ⟨g', cap', h1, h2, h3, h4, h5⟩ := h'.last cJf_len
  rw [List.length_reverse] at h1 h2 h4
  simp only [Value.slice.injEq, Option.some.injEq, Addr.mk.injEq, and_true, true_and] at h1
  obtain ⟨rfl, rfl⟩ := h1
  exact ⟨h4 0 _ rfl, h4 1 _ rfl, h5, h2, h3⟩
/-- The innermost frame has one name more. -/
theorem JRun.putName (h : JRun w b s lim vs vo ps x w1 (.slice (some ⟨g, 0, none⟩) (rest.length + 1) cap) vo1 ((f, vn) :: rest))
    (hown : w2.ownsRow 0 9 1 (.slice (some ⟨gg, 0, none⟩) (f.names.length + 1) c2) (f.names.length + 1) (f.names.flatMap cStr ++ cStr t))
    (hg : w1.grownBy w2 vn.ownBlock) (hat : vn.ownBlock = some gg ∨ w1.heap.size ≤ gg) :
    JRun w b s lim vs vo ps { x with stack := { f with names := f.names ++ [t] } :: rest.map Prod.fst } (w2.setCell ⟨g, rest.length * 2 + 1, none⟩ (.slice (some ⟨gg, 0, none⟩) (f.names.length + 1) c2))
      (.slice (some ⟨g, 0, none⟩) (rest.length + 1) cap) vo1 (({ f with names := f.names ++ [t] }, .slice (some ⟨gg, 0, none⟩) (f.names.length + 1) c2) :: rest) := by
  have hp := h.rep.parts
  have hvn : vn.ownBlock ≠ some g := fun e => hp.split.2.2.1 g rfl (mem_nmB.2 ⟨_, List.mem_cons_self .., e⟩)
  have hgl : g < w1.heap.size := hp.stack.lt rfl
  have hgg : gg ≠ g := by
    rcases hat with e | e
    · exact fun x => hvn (by rw [e, x])
    · omega
  have hF : ∀ k, (vn.ownBlock = some k ∨ k = g) → some k ∈ jbl vo1 (.slice (some ⟨g, 0, none⟩) (rest.length + 1) cap) ((f, vn) :: rest) := fun k e => by
    rcases e with e | e
    · exact mem_jbl.2 (.inr (.inr (mem_nmB.2 ⟨_, List.mem_cons_self .., e⟩)))
    · exact mem_jbl.2 (.inr (.inl (by rw [e]; rfl)))
  have hf : Fr (fun k => vn.ownBlock = some k ∨ k = g) w1 (w2.setCell ⟨g, rest.length * 2 + 1, none⟩ (.slice (some ⟨gg, 0, none⟩) (f.names.length + 1) c2)) :=
    ((Fr.refl _ w1).grown hg (fun k e => .inl (.inl e))).setCell (p := ⟨g, rest.length * 2 + 1, none⟩) (.inl (.inr rfl)) _
  have h0 : Owns w1 84 2 cJf (.slice (some ⟨g, 0, none⟩) (rest.reverse.length + 1) cap) (rest.reverse ++ [(f, vn)]) := by have := hp.stack; simpa using this
  have h1 := h0.grown hg (fun k e e2 => by
    simp only [Value.ownBlock, Option.some.injEq] at e
    subst e
    exact hvn e2)
  have k := h1.setLast (b := ({ f with names := f.names ++ [t] }, .slice (some ⟨gg, 0, none⟩) (f.names.length + 1) c2)) cJf_len 1 (.slice (some ⟨gg, 0, none⟩) (f.names.length + 1) c2) rfl
  rw [List.length_reverse] at k
  have hn2 : ∀ j, (Value.slice (some ⟨gg, 0, none⟩) (f.names.length + 1) c2).ownBlock = some j → vn.ownBlock = some j ∨ w1.heap.size ≤ j := fun j e => by
    simp only [Value.ownBlock, Option.some.injEq] at e
    subst e
    exact hat
  have hbn : ∀ j, some j ∈ jbl vo1 (.slice (some ⟨g, 0, none⟩) (rest.length + 1) cap) (({ f with names := f.names ++ [t] }, .slice (some ⟨gg, 0, none⟩) (f.names.length + 1) c2) :: rest) → some j ∈ jbl vo1 (.slice (some ⟨g, 0, none⟩) (rest.length + 1) cap) ((f, vn) :: rest) ∨ w1.heap.size ≤ j := fun j e => by
    rcases mem_jbl.1 e with y | y | y
    · exact .inl (mem_jbl.2 (.inl y))
    · exact .inl (mem_jbl.2 (.inr (.inl y)))
    · simp only [nmB, List.map_cons, List.mem_cons] at y
      rcases y with y | y
      · exact (hn2 j y.symm).imp (fun z => mem_jbl.2 (.inr (.inr (mem_nmB.2 ⟨_, List.mem_cons_self .., z⟩)))) id
      · refine .inl (mem_jbl.2 (.inr (.inr ?_)))
        simp only [nmB, List.map_cons, List.mem_cons]
        exact .inr y
  refine h.trans ⟨h.rep.inner hf hF (hp.putNames hf (fun j e => ?_) (by simpa using k) ?_ hn2) hbn rfl, Fr.foot hf hF, Fresh.foot hbn⟩
  · rcases e with e | e
    · exact .inr e
    · exact .inl (by rw [e]; rfl)
  · exact (owns_append hown).setCell (p := ⟨g, rest.length * 2 + 1, none⟩) (fun e => by
      simp only [Value.ownBlock, Option.some.injEq] at e
      exact hgg e) _
end
theorem jpass_no {b p : Nat} {s : Bytes} {lim : Lim} {vs vo : Value} {w : World} {e : D6.Flt} (hc : Cj s lim) (hp : p ≤ min s.length lim.b.toNat) (h : Jr w b s lim p vs vo) (he : D6.pass s lim p = .error e) :
    Calls Try.prog 34 #[.pointer (some ⟨b, 0, none⟩)] w fun r w' => r = jpanics e ∧ Fr (It b) w w' := by
  have := jpass_any b p s lim vs vo hc hp w h
  rw [he] at this
  exact this
theorem jpass_yes {b p q : Nat} {s : Bytes} {lim : Lim} {vs vo : Value} {w : World} (hc : Cj s lim) (hp : p ≤ min s.length lim.b.toNat) (h : Jr w b s lim p vs vo) (he : D6.pass s lim p = .ok q) :
    Calls Try.prog 34 #[.pointer (some ⟨b, 0, none⟩)] w fun r w' => r = .returned (byteV s q) ∧ Jr w' b s lim q vs vo ∧ Fr (It b) w w' := by
  have := jpass_any b p s lim vs vo hc hp w h
  rw [he] at this
  exact this
theorem pass_ok6 {s : Bytes} {lim : Lim} : ∀ (m p q : Nat), D6.passN s lim m p = .ok q → p ≤ q ∧ q < min s.length lim.b.toNat
  | 0, p, q, h => by cases h
  | m + 1, p, q, h => by
    rw [jpassN_succ] at h
    obtain ⟨W, hW⟩ : ∃ W, D6.want s lim p = W := ⟨_, rfl⟩
    rw [hW] at h
    cases W with
    | error e => cases h
    | ok c =>
      have hl := (want_lt6 hW).1
      simp only at h
      split at h
      · have := pass_ok6 m (p + 1) q h; omega
      · cases h; omega
theorem textN_place {s : Bytes} {lim : Lim} : ∀ (m p q : Nat) (o l : Bytes), D6.textN s lim m p o = .ok (l, q) → p < q ∧ q ≤ min s.length lim.b.toNat
  | 0, p, q, o, l, h => by cases h
  | m + 1, p, q, o, l, h => by
    rw [jtextN_succ] at h
    obtain ⟨W, hW⟩ : ∃ W, D6.want s lim p = W := ⟨_, rfl⟩
    rw [hW] at h
    cases W with
    | error e => cases h
    | ok c =>
      have hl := (want_lt6 hW).1
      simp only at h
      split at h
      · cases h; omega
      · split at h
        · cases h
        · split at h
          · cases he : D6.escape s lim (p + 1) with
            | error e => rw [he] at h; cases h
            | ok v =>
              obtain ⟨bb, q1⟩ := v
              have h1 := escape_place he
              rw [he] at h
              have := textN_place m q1 q _ l h
              omega
          · split at h
            · cases he : D6.sign s lim p with
              | error e => rw [he] at h; cases h
              | ok q1 =>
                have h1 := sign_place he
                rw [he] at h
                have := textN_place m q1 q _ l h
                omega
            · have := textN_place m (p + 1) q _ l h
              omega
theorem text_place {s l : Bytes} {lim : Lim} {p q : Nat} (h : D6.text s lim p = .ok (l, q)) : p + 1 < q ∧ q ≤ min s.length lim.b.toNat := textN_place _ _ _ _ _ h

set_option maxRecDepth 100000 in
set_option maxHeartbeats 4000000 in
theorem jname_full (b : Nat) (s : Bytes) (lim : Lim) (x : D6.Dx) (w : World) (vs vo : Value) (ps : List (D6.Fm × Value)) (h : JRep w b s lim x vs vo ps) (hi : (x.out.length : Int) = lim.i) :
    Calls Try.prog 37 #[.pointer (some ⟨b, 0, none⟩)] w (JVal w b s lim vs vo ps (.error ((x.at_ : Nat), 10))) := by
  obtain ⟨_, _, _, _, c5, _, c7⟩ := h.jr.cells
  obtain ⟨oa, oc, hov, _⟩ := h.parts.out.len
  rw [hov] at c7
  have HX := Px.hid (JRun.refl h)
  have HO := Px.hid (fun (v : Val) => jone_full b s lim x v w vs vo ps h hi)
  clear h hov hi
  go_enter Try.func37, Try.ntmps37
  go_wp2_with fail
  refine (HO.out ⟨4, 0, []⟩).mono ?_
  rintro r w1 ⟨rfl, hs⟩
  have HS := Px.hid (HX.out.same hs)
  clear hs
  unfold jpanics
  go_wp2
  exact ⟨rfl, JVal.bad rfl HS.out.fr⟩
set_option maxRecDepth 100000 in
set_option maxHeartbeats 4000000 in
theorem jname_text (b : Nat) (s : Bytes) (lim : Lim) (x : D6.Dx) (w : World) (vs vo : Value) (ps : List (D6.Fm × Value)) (h : JRep w b s lim x vs vo ps) (hok : JOk s lim x) (hps : x.at_ < min s.length lim.b.toNat) (hi : ¬ (x.out.length : Int) = lim.i) (e : D6.Flt) (ht : D6.text s lim x.at_ = .error e) :
    Calls Try.prog 37 #[.pointer (some ⟨b, 0, none⟩)] w (JVal w b s lim vs vo ps (.error e)) := by
  obtain ⟨_, _, _, _, c5, _, c7⟩ := h.jr.cells
  obtain ⟨oa, oc, hov, _⟩ := h.parts.out.len
  rw [hov] at c7
  have HX := Px.hid (JRun.refl h)
  have HOK := Px.hid hok
  have HO := Px.hid (fun (v : Val) => jone_yes b s lim x v w vs vo ps h hok hi)
  have HT := Px.hid (fun (w : World) (vo : Value) (h : Jr w b s lim x.at_ vs vo) => jtext_no HOK.out.ctx hps h ht)
  clear h hov hi hok ht
  go_enter Try.func37, Try.ntmps37
  go_wp2_with fail
  refine (HO.out ⟨4, 0, []⟩).mono ?_
  rintro r w1 ⟨rfl, vo1, hd⟩
  have H1 := Px.hid hd
  clear hd
  go_wp2_with fail
  refine (HT.out _ _ H1.out.rep.jr).mono ?_
  rintro r w2 ⟨rfl, hf⟩
  have HS := Px.hid (H1.out.frit hf)
  clear hf
  unfold jpanics
  go_wp2
  exact ⟨rfl, JVal.bad rfl HS.out⟩
set_option maxRecDepth 100000 in
set_option maxHeartbeats 8000000 in
theorem jname_twice (b : Nat) (s : Bytes) (lim : Lim) (x : D6.Dx) (w : World) (vs vo : Value) (ps : List (D6.Fm × Value)) (h : JRep w b s lim x vs vo ps) (hok : JOk s lim x) (hps : x.at_ < min s.length lim.b.toNat) (hi : ¬ (x.out.length : Int) = lim.i) (f : D6.Fm) (rest : List D6.Fm) (hst : x.stack = f :: rest) (l : Bytes) (q : Nat) (ht : D6.text s lim x.at_ = .ok (l, q)) (hc : f.names.contains l = true) :
    Calls Try.prog 37 #[.pointer (some ⟨b, 0, none⟩)] w (JVal w b s lim vs vo ps (.error ((x.at_ : Nat), 9))) := by
  obtain ⟨_, _, _, _, c5, _, c7⟩ := h.jr.cells
  obtain ⟨oa, oc, hov, _⟩ := h.parts.out.len
  rw [hov] at c7
  have hlen := hok.ctx.len
  have hmay := J6.may_of hok.ctx.may
  have hol := hok.ol
  have hsl := hok.sl
  have hnl : f.names.length ≤ 1000000 := by have := hok.nm f (by rw [hst]; exact List.mem_cons_self ..); have := hok.ol; have := J6.may_of hok.ctx.may; omega
  obtain ⟨vn, ps2, hps2, hm, g, cap, hsv, _, _, _, _, _⟩ := h.top hst
  have hpl : ps2.length ≤ 32 := by have := congrArg List.length hm; rw [List.length_map] at this; rw [hst] at hsl; simp at hsl; omega
  subst hsv
  subst hps2
  obtain ⟨l1, hl1⟩ : ∃ l1, D6.bumpTop x.out x.stack = l1 := ⟨_, rfl⟩
  have hl1n : l1.length = x.out.length := by rw [← hl1, bumpTop_len]
  have HX := Px.hid (JRun.refl h)
  have HOK := Px.hid hok
  have HO := Px.hid (fun (v : Val) => jone_yes b s lim x v w _ vo _ h hok hi)
  simp only [hl1] at HO
  have HT := Px.hid (fun (w : World) (vo : Value) (h : Jr w b s lim x.at_ (.slice (some ⟨g, 0, none⟩) (ps2.length + 1) cap) vo) => jtext_yes HOK.out.ctx hps h ht)
  have HPL := Px.hid (text_place ht)
  obtain ⟨L, hL⟩ : ∃ L, l1.length = L := ⟨_, rfl⟩
  have HL := Px.hid hL
  rw [← hl1n, hL] at c7
  have hL2 : L ≤ 4096 := by omega
  have HM := Px.hid (And.intro hm (And.intro hst hl1n))
  obtain ⟨A, hA⟩ : ∃ A, x.at_ = A := ⟨_, rfl⟩
  rw [hA] at c5
  have HA := Px.hid hA
  have HC := Px.hid hc
  clear hc
  clear h hok hol hlen hmay hi hov ht hl1 hl1n hL hps hsl hst hm hA
  go_enter Try.func37, Try.ntmps37
  go_wp2_with fail
  refine (HO.out ⟨4, 0, []⟩).mono ?_
  rintro r w1 ⟨rfl, vo1, hd⟩
  have H1 := Px.hid hd
  clear hd c5 c7
  go_wp2_with fail
  refine (HT.out _ _ H1.out.rep.jr).mono ?_
  rintro r w2 ⟨rfl, hj, hf⟩
  have H2 := Px.hid (H1.out.it hj hf)
  clear hj hf
  obtain ⟨go, co, hvo, o1, o2, k0, _, k2, kf⟩ := H2.out.rep.val (j := L) (a := ⟨4, 0, []⟩) (by simp only; rw [← HL.out]; simp)
  simp only [List.length_append, List.length_singleton, HL.out] at hvo o1
  subst hvo
  have c7 := H2.out.rep.jr.cells.2.2.2.2.2.2
  have c6 := H2.out.rep.jr.cells.2.2.2.2.2.1
  unfold maxLen at o2
  have kf2 := kf (L * 3 + 2)
  have hLL : (L : Int) < (L : Int) + 1 := by omega
  have n0 : (0 : Int) < (ps2.length : Int) + 1 := by omega
  have hbg : go ≠ b := fun e => H2.out.rep.nb (mem_jbl.2 (.inl (by rw [← e]; rfl)))
  have HBG := Px.hid hbg
  have hbl := H2.out.rep.lt
  clear kf k0 hbg
  obtain ⟨W3, hW3⟩ : ∃ W3, W3 = w2.setCell ⟨go, L * 3 + 2, none⟩ (S l) := ⟨_, rfl⟩
  have H3 := Px.hid (show JRun w b s lim _ vo _ { x with at_ := q, out := (l1 ++ [(⟨4, 0, []⟩ : Val)]).set L ⟨4, 0, l⟩ } W3 _ _ _ from by
    rw [hW3]
    exact H2.out.setVal (j := L) (a := ⟨4, 0, []⟩) (a' := ⟨4, 0, l⟩) (by simp only; rw [← HL.out]; simp) 2 (by decide) (S l) rfl)
  go_upto_region 6 with fail
  rw [← hW3]
  clear hW3 c7 c6 k2 kf2 hLL o1 o2
  have c6 := H3.out.rep.jr.cells.2.2.2.2.2.1
  go_quiet (fail)
  have H4 := Px.hid (H3.out.drewN nq)
  obtain ⟨W4, hW4⟩ : ∃ W4, W4 = W3.drewN nq := ⟨_, rfl⟩
  rw [← hW4] at H4 ⊢
  clear hW4 c6
  obtain ⟨_, t1, tf, t2, t3⟩ := H4.out.rep.topCells
  have tf1 := tf (ps2.length * 2 + 1)
  have HNM := Px.hid (H4.out.rep.parts.names (f, vn) (List.mem_cons_self ..))
  unfold maxLen at t3
  clear tf
  go_wp2_with fail
  refine (contains_any vn f.names l hnl _ HNM.out).mono ?_
  rintro r w5 ⟨rfl, rfl⟩
  rw [HC.out]
  go_wp2_with fail
  refine (jwrong b _ _ _).mono ?_
  rintro r w6 ⟨rfl, rfl⟩
  unfold jpanics
  go_wp2
  exact ⟨rfl, JVal.bad (by rw [HA.out]) H4.out.fr⟩
set_option maxRecDepth 100000 in
set_option maxHeartbeats 8000000 in
theorem jname_pass (b : Nat) (s : Bytes) (lim : Lim) (x : D6.Dx) (w : World) (vs vo : Value) (ps : List (D6.Fm × Value)) (h : JRep w b s lim x vs vo ps) (hok : JOk s lim x) (hps : x.at_ < min s.length lim.b.toNat) (hi : ¬ (x.out.length : Int) = lim.i) (f : D6.Fm) (rest : List D6.Fm) (hst : x.stack = f :: rest) (l : Bytes) (q : Nat) (ht : D6.text s lim x.at_ = .ok (l, q)) (hc : f.names.contains l = false) (e : D6.Flt) (hp : D6.pass s lim q = .error e) :
    Calls Try.prog 37 #[.pointer (some ⟨b, 0, none⟩)] w (JVal w b s lim vs vo ps (.error e)) := by
  obtain ⟨_, _, _, _, c5, _, c7⟩ := h.jr.cells
  obtain ⟨oa, oc, hov, _⟩ := h.parts.out.len
  rw [hov] at c7
  have hlen := hok.ctx.len
  have hmay := J6.may_of hok.ctx.may
  have hol := hok.ol
  have hsl := hok.sl
  have hnl : f.names.length ≤ 1000000 := by have := hok.nm f (by rw [hst]; exact List.mem_cons_self ..); have := hok.ol; have := J6.may_of hok.ctx.may; omega
  obtain ⟨vn, ps2, hps2, hm, g, cap, hsv, _, _, _, _, _⟩ := h.top hst
  have hpl : ps2.length ≤ 32 := by have := congrArg List.length hm; rw [List.length_map] at this; rw [hst] at hsl; simp at hsl; omega
  subst hsv
  subst hps2
  obtain ⟨l1, hl1⟩ : ∃ l1, D6.bumpTop x.out x.stack = l1 := ⟨_, rfl⟩
  have hl1n : l1.length = x.out.length := by rw [← hl1, bumpTop_len]
  have HX := Px.hid (JRun.refl h)
  have HOK := Px.hid hok
  have HO := Px.hid (fun (v : Val) => jone_yes b s lim x v w _ vo _ h hok hi)
  simp only [hl1] at HO
  have HT := Px.hid (fun (w : World) (vo : Value) (h : Jr w b s lim x.at_ (.slice (some ⟨g, 0, none⟩) (ps2.length + 1) cap) vo) => jtext_yes HOK.out.ctx hps h ht)
  have HPL := Px.hid (text_place ht)
  obtain ⟨L, hL⟩ : ∃ L, l1.length = L := ⟨_, rfl⟩
  have HL := Px.hid hL
  rw [← hl1n, hL] at c7
  have hL2 : L ≤ 4096 := by omega
  have HM := Px.hid (And.intro hm (And.intro hst hl1n))
  obtain ⟨A, hA⟩ : ∃ A, x.at_ = A := ⟨_, rfl⟩
  rw [hA] at c5
  have HA := Px.hid hA
  have HC := Px.hid hc
  have HP := Px.hid (fun (w : World) (vs vo : Value) (h : Jr w b s lim q vs vo) => jpass_no HOK.out.ctx (text_place ht).2 h hp)
  clear hc hp
  clear h hok hol hlen hmay hi hov ht hl1 hl1n hL hps hsl hst hm hA
  go_enter Try.func37, Try.ntmps37
  go_wp2_with fail
  refine (HO.out ⟨4, 0, []⟩).mono ?_
  rintro r w1 ⟨rfl, vo1, hd⟩
  have H1 := Px.hid hd
  clear hd c5 c7
  go_wp2_with fail
  refine (HT.out _ _ H1.out.rep.jr).mono ?_
  rintro r w2 ⟨rfl, hj, hf⟩
  have H2 := Px.hid (H1.out.it hj hf)
  clear hj hf
  obtain ⟨go, co, hvo, o1, o2, k0, _, k2, kf⟩ := H2.out.rep.val (j := L) (a := ⟨4, 0, []⟩) (by simp only; rw [← HL.out]; simp)
  simp only [List.length_append, List.length_singleton, HL.out] at hvo o1
  subst hvo
  have c7 := H2.out.rep.jr.cells.2.2.2.2.2.2
  have c6 := H2.out.rep.jr.cells.2.2.2.2.2.1
  unfold maxLen at o2
  have kf2 := kf (L * 3 + 2)
  have hLL : (L : Int) < (L : Int) + 1 := by omega
  have n0 : (0 : Int) < (ps2.length : Int) + 1 := by omega
  have hbg : go ≠ b := fun e => H2.out.rep.nb (mem_jbl.2 (.inl (by rw [← e]; rfl)))
  have HBG := Px.hid hbg
  have hbl := H2.out.rep.lt
  clear kf k0 hbg
  obtain ⟨W3, hW3⟩ : ∃ W3, W3 = w2.setCell ⟨go, L * 3 + 2, none⟩ (S l) := ⟨_, rfl⟩
  have H3 := Px.hid (show JRun w b s lim _ vo _ { x with at_ := q, out := (l1 ++ [(⟨4, 0, []⟩ : Val)]).set L ⟨4, 0, l⟩ } W3 _ _ _ from by
    rw [hW3]
    exact H2.out.setVal (j := L) (a := ⟨4, 0, []⟩) (a' := ⟨4, 0, l⟩) (by simp only; rw [← HL.out]; simp) 2 (by decide) (S l) rfl)
  go_upto_region 6 with fail
  rw [← hW3]
  clear hW3 c7 c6 k2 kf2 hLL o1 o2
  have c6 := H3.out.rep.jr.cells.2.2.2.2.2.1
  go_quiet (fail)
  have H4 := Px.hid (H3.out.drewN nq)
  obtain ⟨W4, hW4⟩ : ∃ W4, W4 = W3.drewN nq := ⟨_, rfl⟩
  rw [← hW4] at H4 ⊢
  clear hW4 c6
  obtain ⟨_, t1, tf, t2, t3⟩ := H4.out.rep.topCells
  have tf1 := tf (ps2.length * 2 + 1)
  have HNM := Px.hid (H4.out.rep.parts.names (f, vn) (List.mem_cons_self ..))
  unfold maxLen at t3
  clear tf
  go_wp2_with fail
  refine (contains_any vn f.names l hnl _ HNM.out).mono ?_
  rintro r w5 ⟨rfl, rfl⟩
  rw [HC.out]
  obtain ⟨na, nc, hvn, _⟩ := HNM.out.len
  subst hvn
  obtain ⟨i0, hi0, hz0, hz1, hz2⟩ := info_parts Try.infoStr
  have hbl4 := H4.out.rep.lt
  have hgl4 : g < W4.heap.size := H4.out.rep.parts.stack.lt rfl
  have HNE := Px.hid (show (Value.slice na f.names.length nc).ownBlock ≠ some g from fun e => H4.out.rep.parts.split.2.2.1 g rfl (mem_nmB.2 ⟨_, List.mem_cons_self .., e⟩))
  go_wp2_with (at_builtin; go_must (refine wpList_append_lies _ rfl _ _ _ rfl 0 9 i0 _ 1 16 Try.underlying22 hi0 hz0 hz1 hz2 rfl (by omega) (.slice na f.names.length nc) f.names.length (f.names.flatMap cStr) rfl (HNM.out.alloc _) ⟨W4.heap.size, 0, none⟩ 1 1 (cStr l) rfl rfl (World.news_of_block (cs := #[S l]) (t := 9) (fr := (0, 0)) (heap_alloc_new W4 _)) (by simp [cStr, Value.oneCell']) (by omega) (by unfold maxLen; omega) (by omega) (by omega) (W4.heap.size + 1) (by simp) ?_))
  intro gg cc w6 hown hgrow hat hltg
  have k1 := grown_cell1 hgrow t1 HNE.out
  have e1 := grown_free1 hgrow t1 tf1 HNE.out
  have H6 := Px.hid (H4.out.putName hown (grown_alloc1 hgrow) (hat.elim .inl (fun e => .inr (by omega))))
  clear hown hgrow hat hltg t1 tf1 t2 t3 hgl4 hbl4
  go_wp2_with fail
  refine (HP.out _ _ _ H6.out.rep.jr).mono ?_
  rintro r w7 ⟨rfl, hf⟩
  have HS := Px.hid (H6.out.frit hf)
  clear hf
  unfold jpanics
  go_wp2
  exact ⟨rfl, JVal.bad rfl HS.out⟩
set_option maxRecDepth 100000 in
set_option maxHeartbeats 8000000 in
theorem jname_must (b : Nat) (s : Bytes) (lim : Lim) (x : D6.Dx) (w : World) (vs vo : Value) (ps : List (D6.Fm × Value)) (h : JRep w b s lim x vs vo ps) (hok : JOk s lim x) (hps : x.at_ < min s.length lim.b.toNat) (hi : ¬ (x.out.length : Int) = lim.i) (f : D6.Fm) (rest : List D6.Fm) (hst : x.stack = f :: rest) (l : Bytes) (q : Nat) (ht : D6.text s lim x.at_ = .ok (l, q)) (hc : f.names.contains l = false) (q2 : Nat) (hp : D6.pass s lim q = .ok q2) (e : D6.Flt) (hmu : D6.must s lim q2 58 = .error e) :
    Calls Try.prog 37 #[.pointer (some ⟨b, 0, none⟩)] w (JVal w b s lim vs vo ps (.error e)) := by
  obtain ⟨_, _, _, _, c5, _, c7⟩ := h.jr.cells
  obtain ⟨oa, oc, hov, _⟩ := h.parts.out.len
  rw [hov] at c7
  have hlen := hok.ctx.len
  have hmay := J6.may_of hok.ctx.may
  have hol := hok.ol
  have hsl := hok.sl
  have hnl : f.names.length ≤ 1000000 := by have := hok.nm f (by rw [hst]; exact List.mem_cons_self ..); have := hok.ol; have := J6.may_of hok.ctx.may; omega
  obtain ⟨vn, ps2, hps2, hm, g, cap, hsv, _, _, _, _, _⟩ := h.top hst
  have hpl : ps2.length ≤ 32 := by have := congrArg List.length hm; rw [List.length_map] at this; rw [hst] at hsl; simp at hsl; omega
  subst hsv
  subst hps2
  obtain ⟨l1, hl1⟩ : ∃ l1, D6.bumpTop x.out x.stack = l1 := ⟨_, rfl⟩
  have hl1n : l1.length = x.out.length := by rw [← hl1, bumpTop_len]
  have HX := Px.hid (JRun.refl h)
  have HOK := Px.hid hok
  have HO := Px.hid (fun (v : Val) => jone_yes b s lim x v w _ vo _ h hok hi)
  simp only [hl1] at HO
  have HT := Px.hid (fun (w : World) (vo : Value) (h : Jr w b s lim x.at_ (.slice (some ⟨g, 0, none⟩) (ps2.length + 1) cap) vo) => jtext_yes HOK.out.ctx hps h ht)
  have HPL := Px.hid (text_place ht)
  obtain ⟨L, hL⟩ : ∃ L, l1.length = L := ⟨_, rfl⟩
  have HL := Px.hid hL
  rw [← hl1n, hL] at c7
  have hL2 : L ≤ 4096 := by omega
  have HM := Px.hid (And.intro hm (And.intro hst hl1n))
  obtain ⟨A, hA⟩ : ∃ A, x.at_ = A := ⟨_, rfl⟩
  rw [hA] at c5
  have HA := Px.hid hA
  have HC := Px.hid hc
  have HP := Px.hid (fun (w : World) (vs vo : Value) (h : Jr w b s lim q vs vo) => jpass_yes HOK.out.ctx (text_place ht).2 h hp)
  have hq2 := (pass_ok6 _ _ _ hp).2
  have HMU := Px.hid (fun (w : World) (vs vo : Value) (h : Jr w b s lim q2 vs vo) => jmust_no (show q2 ≤ 140737488355327 by omega) h hmu)
  clear hc hp hmu hq2
  clear h hok hol hlen hmay hi hov ht hl1 hl1n hL hps hsl hst hm hA
  go_enter Try.func37, Try.ntmps37
  go_wp2_with fail
  refine (HO.out ⟨4, 0, []⟩).mono ?_
  rintro r w1 ⟨rfl, vo1, hd⟩
  have H1 := Px.hid hd
  clear hd c5 c7
  go_wp2_with fail
  refine (HT.out _ _ H1.out.rep.jr).mono ?_
  rintro r w2 ⟨rfl, hj, hf⟩
  have H2 := Px.hid (H1.out.it hj hf)
  clear hj hf
  obtain ⟨go, co, hvo, o1, o2, k0, _, k2, kf⟩ := H2.out.rep.val (j := L) (a := ⟨4, 0, []⟩) (by simp only; rw [← HL.out]; simp)
  simp only [List.length_append, List.length_singleton, HL.out] at hvo o1
  subst hvo
  have c7 := H2.out.rep.jr.cells.2.2.2.2.2.2
  have c6 := H2.out.rep.jr.cells.2.2.2.2.2.1
  unfold maxLen at o2
  have kf2 := kf (L * 3 + 2)
  have hLL : (L : Int) < (L : Int) + 1 := by omega
  have n0 : (0 : Int) < (ps2.length : Int) + 1 := by omega
  have hbg : go ≠ b := fun e => H2.out.rep.nb (mem_jbl.2 (.inl (by rw [← e]; rfl)))
  have HBG := Px.hid hbg
  have hbl := H2.out.rep.lt
  clear kf k0 hbg
  obtain ⟨W3, hW3⟩ : ∃ W3, W3 = w2.setCell ⟨go, L * 3 + 2, none⟩ (S l) := ⟨_, rfl⟩
  have H3 := Px.hid (show JRun w b s lim _ vo _ { x with at_ := q, out := (l1 ++ [(⟨4, 0, []⟩ : Val)]).set L ⟨4, 0, l⟩ } W3 _ _ _ from by
    rw [hW3]
    exact H2.out.setVal (j := L) (a := ⟨4, 0, []⟩) (a' := ⟨4, 0, l⟩) (by simp only; rw [← HL.out]; simp) 2 (by decide) (S l) rfl)
  go_upto_region 6 with fail
  rw [← hW3]
  clear hW3 c7 c6 k2 kf2 hLL o1 o2
  have c6 := H3.out.rep.jr.cells.2.2.2.2.2.1
  go_quiet (fail)
  have H4 := Px.hid (H3.out.drewN nq)
  obtain ⟨W4, hW4⟩ : ∃ W4, W4 = W3.drewN nq := ⟨_, rfl⟩
  rw [← hW4] at H4 ⊢
  clear hW4 c6
  obtain ⟨_, t1, tf, t2, t3⟩ := H4.out.rep.topCells
  have tf1 := tf (ps2.length * 2 + 1)
  have HNM := Px.hid (H4.out.rep.parts.names (f, vn) (List.mem_cons_self ..))
  unfold maxLen at t3
  clear tf
  go_wp2_with fail
  refine (contains_any vn f.names l hnl _ HNM.out).mono ?_
  rintro r w5 ⟨rfl, rfl⟩
  rw [HC.out]
  obtain ⟨na, nc, hvn, _⟩ := HNM.out.len
  subst hvn
  obtain ⟨i0, hi0, hz0, hz1, hz2⟩ := info_parts Try.infoStr
  have hbl4 := H4.out.rep.lt
  have hgl4 : g < W4.heap.size := H4.out.rep.parts.stack.lt rfl
  have HNE := Px.hid (show (Value.slice na f.names.length nc).ownBlock ≠ some g from fun e => H4.out.rep.parts.split.2.2.1 g rfl (mem_nmB.2 ⟨_, List.mem_cons_self .., e⟩))
  go_wp2_with (at_builtin; go_must (refine wpList_append_lies _ rfl _ _ _ rfl 0 9 i0 _ 1 16 Try.underlying22 hi0 hz0 hz1 hz2 rfl (by omega) (.slice na f.names.length nc) f.names.length (f.names.flatMap cStr) rfl (HNM.out.alloc _) ⟨W4.heap.size, 0, none⟩ 1 1 (cStr l) rfl rfl (World.news_of_block (cs := #[S l]) (t := 9) (fr := (0, 0)) (heap_alloc_new W4 _)) (by simp [cStr, Value.oneCell']) (by omega) (by unfold maxLen; omega) (by omega) (by omega) (W4.heap.size + 1) (by simp) ?_))
  intro gg cc w6 hown hgrow hat hltg
  have k1 := grown_cell1 hgrow t1 HNE.out
  have e1 := grown_free1 hgrow t1 tf1 HNE.out
  have H6 := Px.hid (H4.out.putName hown (grown_alloc1 hgrow) (hat.elim .inl (fun e => .inr (by omega))))
  clear hown hgrow hat hltg t1 tf1 t2 t3 hgl4 hbl4
  go_wp2_with fail
  refine (HP.out _ _ _ H6.out.rep.jr).mono ?_
  rintro r w7 ⟨rfl, hj, hf⟩
  have H7 := Px.hid (H6.out.it hj hf)
  clear hj hf
  unfold byteV
  go_wp2_with fail
  refine (HMU.out _ _ _ H7.out.rep.jr).mono ?_
  rintro r w8 ⟨rfl, hf⟩
  have HS := Px.hid (H7.out.frit hf)
  clear hf
  unfold jpanics
  go_wp2
  exact ⟨rfl, JVal.bad rfl HS.out⟩
set_option maxRecDepth 100000 in
set_option maxHeartbeats 8000000 in
theorem jname_ok (b : Nat) (s : Bytes) (lim : Lim) (x : D6.Dx) (w : World) (vs vo : Value) (ps : List (D6.Fm × Value)) (h : JRep w b s lim x vs vo ps) (hok : JOk s lim x) (hps : x.at_ < min s.length lim.b.toNat) (hi : ¬ (x.out.length : Int) = lim.i) (f : D6.Fm) (rest : List D6.Fm) (hst : x.stack = f :: rest) (l : Bytes) (q : Nat) (ht : D6.text s lim x.at_ = .ok (l, q)) (hc : f.names.contains l = false) (q2 : Nat) (hp : D6.pass s lim q = .ok q2) (q3 : Nat) (hmu : D6.must s lim q2 58 = .ok q3) :
    Calls Try.prog 37 #[.pointer (some ⟨b, 0, none⟩)] w (JVal w b s lim vs vo ps (.ok (0, { at_ := q3, stack := { f with names := f.names ++ [l] } :: rest, out := (D6.bumpTop x.out x.stack ++ [(⟨4, 0, []⟩ : Val)]).set x.out.length ⟨4, 0, l⟩ }))) := by
  obtain ⟨_, _, _, _, c5, _, c7⟩ := h.jr.cells
  obtain ⟨oa, oc, hov, _⟩ := h.parts.out.len
  rw [hov] at c7
  have hlen := hok.ctx.len
  have hmay := J6.may_of hok.ctx.may
  have hol := hok.ol
  have hsl := hok.sl
  have hnl : f.names.length ≤ 1000000 := by have := hok.nm f (by rw [hst]; exact List.mem_cons_self ..); have := hok.ol; have := J6.may_of hok.ctx.may; omega
  obtain ⟨vn, ps2, hps2, hm, g, cap, hsv, _, _, _, _, _⟩ := h.top hst
  have hpl : ps2.length ≤ 32 := by have := congrArg List.length hm; rw [List.length_map] at this; rw [hst] at hsl; simp at hsl; omega
  subst hsv
  subst hps2
  obtain ⟨l1, hl1⟩ : ∃ l1, D6.bumpTop x.out x.stack = l1 := ⟨_, rfl⟩
  have hl1n : l1.length = x.out.length := by rw [← hl1, bumpTop_len]
  have HX := Px.hid (JRun.refl h)
  have HOK := Px.hid hok
  have HO := Px.hid (fun (v : Val) => jone_yes b s lim x v w _ vo _ h hok hi)
  simp only [hl1] at HO
  have HT := Px.hid (fun (w : World) (vo : Value) (h : Jr w b s lim x.at_ (.slice (some ⟨g, 0, none⟩) (ps2.length + 1) cap) vo) => jtext_yes HOK.out.ctx hps h ht)
  have HPL := Px.hid (text_place ht)
  obtain ⟨L, hL⟩ : ∃ L, l1.length = L := ⟨_, rfl⟩
  have HL := Px.hid hL
  rw [← hl1n, hL] at c7
  have hL2 : L ≤ 4096 := by omega
  have HM := Px.hid (And.intro hm (And.intro hst hl1n))
  obtain ⟨A, hA⟩ : ∃ A, x.at_ = A := ⟨_, rfl⟩
  rw [hA] at c5
  have HA := Px.hid hA
  have HC := Px.hid hc
  have HP := Px.hid (fun (w : World) (vs vo : Value) (h : Jr w b s lim q vs vo) => jpass_yes HOK.out.ctx (text_place ht).2 h hp)
  have hq2 := (pass_ok6 _ _ _ hp).2
  have HMU := Px.hid (fun (w : World) (vs vo : Value) (h : Jr w b s lim q2 vs vo) => jmust_yes (show q2 ≤ 140737488355327 by omega) h hmu)
  have HR := Px.hid (show ((D6.bumpTop x.out x.stack ++ [(⟨4, 0, []⟩ : Val)]).set x.out.length ⟨4, 0, l⟩) = (l1 ++ [(⟨4, 0, []⟩ : Val)]).set L ⟨4, 0, l⟩ by rw [hl1, ← hl1n, hL])
  clear hc hp hmu hq2
  clear h hok hol hlen hmay hi hov ht hl1 hl1n hL hps hsl hst hm hA
  go_enter Try.func37, Try.ntmps37
  go_wp2_with fail
  refine (HO.out ⟨4, 0, []⟩).mono ?_
  rintro r w1 ⟨rfl, vo1, hd⟩
  have H1 := Px.hid hd
  clear hd c5 c7
  go_wp2_with fail
  refine (HT.out _ _ H1.out.rep.jr).mono ?_
  rintro r w2 ⟨rfl, hj, hf⟩
  have H2 := Px.hid (H1.out.it hj hf)
  clear hj hf
  obtain ⟨go, co, hvo, o1, o2, k0, _, k2, kf⟩ := H2.out.rep.val (j := L) (a := ⟨4, 0, []⟩) (by simp only; rw [← HL.out]; simp)
  simp only [List.length_append, List.length_singleton, HL.out] at hvo o1
  subst hvo
  have c7 := H2.out.rep.jr.cells.2.2.2.2.2.2
  have c6 := H2.out.rep.jr.cells.2.2.2.2.2.1
  unfold maxLen at o2
  have kf2 := kf (L * 3 + 2)
  have hLL : (L : Int) < (L : Int) + 1 := by omega
  have n0 : (0 : Int) < (ps2.length : Int) + 1 := by omega
  have hbg : go ≠ b := fun e => H2.out.rep.nb (mem_jbl.2 (.inl (by rw [← e]; rfl)))
  have HBG := Px.hid hbg
  have hbl := H2.out.rep.lt
  clear kf k0 hbg
  obtain ⟨W3, hW3⟩ : ∃ W3, W3 = w2.setCell ⟨go, L * 3 + 2, none⟩ (S l) := ⟨_, rfl⟩
  have H3 := Px.hid (show JRun w b s lim _ vo _ { x with at_ := q, out := (l1 ++ [(⟨4, 0, []⟩ : Val)]).set L ⟨4, 0, l⟩ } W3 _ _ _ from by
    rw [hW3]
    exact H2.out.setVal (j := L) (a := ⟨4, 0, []⟩) (a' := ⟨4, 0, l⟩) (by simp only; rw [← HL.out]; simp) 2 (by decide) (S l) rfl)
  go_upto_region 6 with fail
  rw [← hW3]
  clear hW3 c7 c6 k2 kf2 hLL o1 o2
  have c6 := H3.out.rep.jr.cells.2.2.2.2.2.1
  go_quiet (fail)
  have H4 := Px.hid (H3.out.drewN nq)
  obtain ⟨W4, hW4⟩ : ∃ W4, W4 = W3.drewN nq := ⟨_, rfl⟩
  rw [← hW4] at H4 ⊢
  clear hW4 c6
  obtain ⟨_, t1, tf, t2, t3⟩ := H4.out.rep.topCells
  have tf1 := tf (ps2.length * 2 + 1)
  have HNM := Px.hid (H4.out.rep.parts.names (f, vn) (List.mem_cons_self ..))
  unfold maxLen at t3
  clear tf
  go_wp2_with fail
  refine (contains_any vn f.names l hnl _ HNM.out).mono ?_
  rintro r w5 ⟨rfl, rfl⟩
  rw [HC.out]
  obtain ⟨na, nc, hvn, _⟩ := HNM.out.len
  subst hvn
  obtain ⟨i0, hi0, hz0, hz1, hz2⟩ := info_parts Try.infoStr
  have hbl4 := H4.out.rep.lt
  have hgl4 : g < W4.heap.size := H4.out.rep.parts.stack.lt rfl
  have HNE := Px.hid (show (Value.slice na f.names.length nc).ownBlock ≠ some g from fun e => H4.out.rep.parts.split.2.2.1 g rfl (mem_nmB.2 ⟨_, List.mem_cons_self .., e⟩))
  go_wp2_with (at_builtin; go_must (refine wpList_append_lies _ rfl _ _ _ rfl 0 9 i0 _ 1 16 Try.underlying22 hi0 hz0 hz1 hz2 rfl (by omega) (.slice na f.names.length nc) f.names.length (f.names.flatMap cStr) rfl (HNM.out.alloc _) ⟨W4.heap.size, 0, none⟩ 1 1 (cStr l) rfl rfl (World.news_of_block (cs := #[S l]) (t := 9) (fr := (0, 0)) (heap_alloc_new W4 _)) (by simp [cStr, Value.oneCell']) (by omega) (by unfold maxLen; omega) (by omega) (by omega) (W4.heap.size + 1) (by simp) ?_))
  intro gg cc w6 hown hgrow hat hltg
  have k1 := grown_cell1 hgrow t1 HNE.out
  have e1 := grown_free1 hgrow t1 tf1 HNE.out
  have H6 := Px.hid (H4.out.putName hown (grown_alloc1 hgrow) (hat.elim .inl (fun e => .inr (by omega))))
  clear hown hgrow hat hltg t1 tf1 t2 t3 hgl4 hbl4
  go_wp2_with fail
  refine (HP.out _ _ _ H6.out.rep.jr).mono ?_
  rintro r w7 ⟨rfl, hj, hf⟩
  have H7 := Px.hid (H6.out.it hj hf)
  clear hj hf
  unfold byteV
  go_wp2_with fail
  refine (HMU.out _ _ _ H7.out.rep.jr).mono ?_
  rintro r w8 ⟨rfl, hj, hf⟩
  have H8 := Px.hid (H7.out.it hj hf)
  clear hj hf
  go_wp2
  go_ret
  have k := H8.out
  rw [HM.out.1] at k
  exact JVal.good (by rw [HR.out]) k
theorem jname_any (b : Nat) (s : Bytes) (lim : Lim) (x : D6.Dx) (w : World) (vs vo : Value) (ps : List (D6.Fm × Value)) (h : JRep w b s lim x vs vo ps) (hok : JOk s lim x) (hps : x.at_ < min s.length lim.b.toNat) (f : D6.Fm) (rest : List D6.Fm) (hst : x.stack = f :: rest) :
    Calls Try.prog 37 #[.pointer (some ⟨b, 0, none⟩)] w (JVal w b s lim vs vo ps (D6.name s lim x)) := by
  obtain ⟨RR, hRR⟩ : ∃ RR, RR = D6.name s lim x := ⟨_, rfl⟩
  rw [← hRR]
  unfold D6.name D6.one at hRR
  by_cases hi : (x.out.length : Int) = lim.i
  · rw [if_pos hi] at hRR
    rw [hRR]
    exact jname_full b s lim x w vs vo ps h hi
  · rw [if_neg hi] at hRR
    simp only at hRR
    cases ht : D6.text s lim x.at_ with
    | error e =>
      rw [ht] at hRR
      rw [hRR]
      exact jname_text b s lim x w vs vo ps h hok hps hi e ht
    | ok lq =>
      obtain ⟨l, q⟩ := lq
      rw [ht] at hRR
      simp only [hst] at hRR
      cases hc : f.names.contains l with
      | true =>
        rw [if_pos hc] at hRR
        rw [hRR]
        exact jname_twice b s lim x w vs vo ps h hok hps hi f rest hst l q ht hc
      | false =>
        rw [if_neg (by rw [hc]; decide)] at hRR
        cases hp : D6.pass s lim q with
        | error e =>
          rw [hp] at hRR
          rw [hRR]
          exact jname_pass b s lim x w vs vo ps h hok hps hi f rest hst l q ht hc e hp
        | ok q2 =>
          rw [hp] at hRR
          simp only at hRR
          cases hmu : D6.must s lim q2 58 with
          | error e =>
            rw [hmu] at hRR
            rw [hRR]
            exact jname_must b s lim x w vs vo ps h hok hps hi f rest hst l q ht hc q2 hp e hmu
          | ok q3 =>
            rw [hmu] at hRR
            simp only at hRR
            have k := jname_ok b s lim x w vs vo ps h hok hps hi f rest hst l q ht hc q2 hp q3 hmu
            rw [hRR, ← bumpTop_len x.out (f :: rest), setText_set]
            rw [hst, ← bumpTop_len x.out (f :: rest)] at k
            exact k
end Go.Proofs.Ytahojodgmjmpnaa

/-! What holds of the program's reader of package json between two steps is kept by a step. No walk here. -/
namespace Go.Proofs.Ytahojodgmjmpnaa
open Go.RowKit Go.Px

theorem word_place {s : Bytes} {lim : Lim} : ∀ (l : Bytes) (p q : Nat), p ≤ min s.length lim.b.toNat → D6.wordN s lim l p = .ok q → p ≤ q ∧ q ≤ min s.length lim.b.toNat
  | [], p, q, hp, h => by cases h; exact ⟨Nat.le_refl _, hp⟩
  | c :: r, p, q, hp, h => by
    rw [jwordN_cons, must_want] at h
    cases hw : D6.want s lim p with
    | error e => rw [hw] at h; cases h
    | ok z =>
      rw [hw] at h
      simp only at h
      have hlt := (want_lt6 hw).1
      by_cases hz : (z == c.toNat) = true
      · rw [if_pos hz] at h
        have := word_place r (p + 1) q (by omega) h
        omega
      · rw [if_neg hz] at h; cases h
theorem number_place {s : Bytes} {lim : Lim} {p q : Nat} (hp : p ≤ min s.length lim.b.toNat) (h : D6.number s lim p = .ok q) : p ≤ q ∧ q ≤ min s.length lim.b.toNat := by
  unfold D6.number at h
  cases hA : D6.numA s lim p with
  | error e => rw [hA] at h; cases h
  | ok q1 =>
    rw [hA] at h
    simp only at h
    have hq1 : p ≤ q1 ∧ q1 ≤ min s.length lim.b.toNat := by
      unfold D6.numA at hA
      have key : ∀ p0, p ≤ p0 → p0 ≤ min s.length lim.b.toNat → (if D6.peek s lim p0 == 48 then Except.ok (p0 + 1) else D6.digits s lim p0) = Except.ok q1 → p ≤ q1 ∧ q1 ≤ min s.length lim.b.toNat := by
        intro p0 h1 h2 h3
        by_cases hz : (D6.peek s lim p0 == 48) = true
        · rw [if_pos hz] at h3
          have := peek_lt (s := s) (lim := lim) (p := p0) (by rw [eq_of_beq hz]; decide)
          cases h3
          omega
        · rw [if_neg hz] at h3
          have := digits_le h2 h3
          omega
      by_cases hm : (D6.peek s lim p == 45) = true
      · rw [if_pos hm] at hA
        have := peek_lt (s := s) (lim := lim) (p := p) (by rw [eq_of_beq hm]; decide)
        exact key (p + 1) (by omega) (by omega) hA
      · rw [if_neg hm] at hA
        exact key p (Nat.le_refl _) hp hA
    cases hB : D6.numB s lim q1 with
    | error e => rw [hB] at h; cases h
    | ok q2 =>
      rw [hB] at h
      simp only at h
      have hq2 : q1 ≤ q2 ∧ q2 ≤ min s.length lim.b.toNat := by
        unfold D6.numB at hB
        by_cases hm : (D6.peek s lim q1 == 46) = true
        · rw [if_pos hm] at hB
          have := peek_lt (s := s) (lim := lim) (p := q1) (by rw [eq_of_beq hm]; decide)
          have := digits_le (by omega) hB
          omega
        · rw [if_neg hm] at hB
          cases hB
          omega
      unfold D6.numC at h
      by_cases hm : (D6.peek s lim q2 == 101 || D6.peek s lim q2 == 69) = true
      · rw [if_pos hm] at h
        have h0 : D6.peek s lim q2 ≠ 0 := by
          intro e
          rw [e] at hm
          exact absurd hm (by decide)
        have h1 := peek_lt h0
        by_cases hs : (D6.peek s lim (q2 + 1) == 43 || D6.peek s lim (q2 + 1) == 45) = true
        · rw [if_pos hs] at h
          have h0 : D6.peek s lim (q2 + 1) ≠ 0 := by
            intro e
            rw [e] at hs
            exact absurd hs (by decide)
          have h2 := peek_lt h0
          have := digits_le (by omega) h
          omega
        · rw [if_neg hs] at h
          have := digits_le (by omega) h
          omega
      · rw [if_neg hm] at h
        cases h
        omega
theorem bump_kids {l : List Val} {i : Nat} {a : Val} {L : Int} (h : ∀ a ∈ l, 0 ≤ a.kids ∧ a.kids ≤ L) (ha : a ∈ R6.bump l i 1) : 0 ≤ a.kids ∧ a.kids ≤ L + 1 := by
  unfold R6.bump at ha
  obtain ⟨j, hj⟩ := List.mem_iff_getElem?.1 ha
  rw [List.getElem?_modify] at hj
  cases hl : l[j]? with
  | none => rw [hl] at hj; simp at hj
  | some y =>
    rw [hl] at hj
    have hy := h y (List.mem_of_getElem? hl)
    by_cases hij : i = j
    · simp [hij] at hj
      rw [← hj]
      show 0 ≤ y.kids + 1 ∧ y.kids + 1 ≤ L + 1
      omega
    · simp [hij] at hj
      rw [← hj]
      omega
theorem bumpTop_kids {l : List Val} {st : List D6.Fm} {a : Val} {L : Int} (h : ∀ a ∈ l, 0 ≤ a.kids ∧ a.kids ≤ L) (ha : a ∈ D6.bumpTop l st) : 0 ≤ a.kids ∧ a.kids ≤ L + 1 := by
  cases st with
  | nil => have := h a ha; omega
  | cons f r => exact bump_kids h ha
theorem setText_last (o : List Val) (st : List D6.Fm) (a : Val) (t : Bytes) : R6.setText (D6.bumpTop o st ++ [a]) o.length t = D6.bumpTop o st ++ [{ a with text := t }] := by
  have h := setText_set (D6.bumpTop o st) a t
  rw [bumpTop_len] at h
  rw [h, ← bumpTop_len o st]
  simp
section
variable {s : Bytes} {lim : Lim} {x y : D6.Dx} {n q : Nat}
theorem JOk.at_ (h : JOk s lim x) (h2 : q ≤ min s.length lim.b.toNat) : JOk s lim { x with at_ := q } :=
  ⟨h.ctx, h2, h.ol, h.sl, h.no, h.kd, h.nm⟩
theorem JOk.push (h : JOk s lim x) (hi : ¬ (x.out.length : Int) = lim.i) (v : Val) (hv : v.kids = 0) (h2 : q ≤ min s.length lim.b.toNat) :
    JOk s lim { at_ := q, stack := x.stack, out := D6.bumpTop x.out x.stack ++ [v] } := by
  have hol := h.ol
  refine ⟨h.ctx, h2, ?_, h.sl, fun f hf => ?_, fun a ha => ?_, fun f hf => ?_⟩
  · show ((D6.bumpTop x.out x.stack ++ [v]).length : Int) ≤ lim.i
    rw [List.length_append, bumpTop_len]
    simp only [List.length_singleton]
    omega
  · show f.no < (D6.bumpTop x.out x.stack ++ [v]).length
    rw [List.length_append, bumpTop_len]
    have := h.no f hf
    omega
  · show 0 ≤ a.kids ∧ a.kids ≤ ((D6.bumpTop x.out x.stack ++ [v]).length : Int)
    rw [List.length_append, bumpTop_len]
    simp only [List.length_singleton]
    rcases List.mem_append.1 ha with ha | ha
    · have := bumpTop_kids h.kd ha
      omega
    · rw [List.mem_singleton.1 ha, hv]
      omega
  · show f.names.length ≤ (D6.bumpTop x.out x.stack ++ [v]).length
    rw [List.length_append, bumpTop_len]
    have := h.nm f hf
    omega
/-- Between two steps: which, and how the reader stands. -/
structure JInv (s : Bytes) (lim : Lim) (n : Nat) (x : D6.Dx) : Prop where
  ok : JOk s lim x
  le : n ≤ 5
  st : n ≠ 0 → n ≠ 5 → x.stack ≠ []
theorem over_inv (h : JOk s lim y) (hx : x.stack = y.stack) : JInv s lim (D6.over x) y := by
  unfold D6.over
  cases hs : x.stack with
  | nil => exact ⟨h, by decide, fun _ e => absurd rfl e⟩
  | cons f r => exact ⟨h, Nat.le_succ 4, fun _ _ => by rw [← hx, hs]; simp⟩
theorem end_inv (h : JOk s lim x) (hl : x.at_ < min s.length lim.b.toNat) : JInv s lim (D6.end_ x).1 (D6.end_ x).2 := by
  have hk : JOk s lim (D6.end_ x).2 := ⟨h.ctx, by show x.at_ + 1 ≤ min s.length lim.b.toNat; omega, h.ol, by show (x.stack.tail.length : Int) ≤ lim.d; have := h.sl; rw [List.length_tail]; omega,
    fun f hf => h.no f (List.mem_of_mem_tail hf), h.kd, fun f hf => h.nm f (List.mem_of_mem_tail hf)⟩
  unfold D6.end_ at *
  cases hs : x.stack.tail with
  | nil => rw [hs] at hk; exact ⟨hk, by simp, fun _ e => by simp at e⟩
  | cons f r => rw [hs] at hk; exact ⟨hk, by simp, fun _ _ => by simp⟩
theorem opens_inv (h : JOk s lim x) (hl : x.at_ < min s.length lim.b.toNat) {c : Nat} (ho : D6.opens lim x c = .ok (n, y)) : JInv s lim n y := by
  unfold D6.opens D6.one at ho
  by_cases hd : (x.out.length : Int) < lim.i ∧ (x.stack.length : Int) = lim.d
  · rw [if_pos hd] at ho; cases ho
  · rw [if_neg hd] at ho
    by_cases hi : (x.out.length : Int) = lim.i
    · rw [if_pos hi] at ho; cases ho
    · rw [if_neg hi] at ho
      have hol := h.ol
      have hsl := h.sl
      have hp := h.push hi ⟨if c == 91 then 5 else 6, 0, []⟩ rfl (q := x.at_ + 1) (by omega)
      simp only [Except.ok.injEq, Prod.mk.injEq] at ho
      obtain ⟨rfl, rfl⟩ := ho
      refine ⟨⟨hp.ctx, hp.al, hp.ol, ?_, ?_, hp.kd, ?_⟩, by split <;> decide, fun _ _ => by simp⟩
      · show ((x.stack.length + 1 : Nat) : Int) ≤ lim.d
        omega
      · intro f hf
        rcases List.mem_cons.1 hf with rfl | hf
        · show x.out.length < (D6.bumpTop x.out x.stack ++ [_]).length
          rw [List.length_append, bumpTop_len]
          simp
        · exact hp.no f hf
      · intro f hf
        rcases List.mem_cons.1 hf with rfl | hf
        · exact Nat.zero_le _
        · exact hp.nm f hf
theorem value_inv (h : JOk s lim x) (hl : x.at_ < min s.length lim.b.toNat) {c : Nat} (ho : D6.value s lim x c = .ok (n, y)) : JInv s lim n y := by
  have word : ∀ (k : Int) (l : Bytes), D6.wordV s lim x k l = .ok (n, y) → JInv s lim n y := by
    intro k l ho
    unfold D6.wordV D6.one at ho
    by_cases hi : (x.out.length : Int) = lim.i
    · rw [if_pos hi] at ho; cases ho
    · rw [if_neg hi] at ho
      simp only at ho
      cases hw : D6.wordN s lim l x.at_ with
      | error e => rw [hw] at ho; cases ho
      | ok q =>
        rw [hw] at ho
        simp only [Except.ok.injEq, Prod.mk.injEq] at ho
        obtain ⟨rfl, rfl⟩ := ho
        have := word_place l x.at_ q (by omega) hw
        exact over_inv (h.push hi ⟨k, 0, []⟩ rfl this.2) rfl
  unfold D6.value at ho
  split at ho
  · exact opens_inv h hl ho
  split at ho
  · unfold D6.strV D6.one at ho
    by_cases hi : (x.out.length : Int) = lim.i
    · rw [if_pos hi] at ho; cases ho
    · rw [if_neg hi] at ho
      simp only at ho
      cases ht : D6.text s lim x.at_ with
      | error e => rw [ht] at ho; cases ho
      | ok lq =>
        obtain ⟨l, q⟩ := lq
        rw [ht] at ho
        simp only [Except.ok.injEq, Prod.mk.injEq] at ho
        obtain ⟨rfl, rfl⟩ := ho
        have := text_place ht
        rw [setText_last]
        exact over_inv (h.push hi ⟨4, 0, l⟩ rfl this.2) rfl
  split at ho
  · unfold D6.numV D6.one at ho
    by_cases hi : (x.out.length : Int) = lim.i
    · rw [if_pos hi] at ho; cases ho
    · rw [if_neg hi] at ho
      simp only at ho
      cases ht : D6.number s lim x.at_ with
      | error e => rw [ht] at ho; cases ho
      | ok q =>
        rw [ht] at ho
        simp only [Except.ok.injEq, Prod.mk.injEq] at ho
        obtain ⟨rfl, rfl⟩ := ho
        have := number_place (by omega) ht
        rw [setText_last]
        exact over_inv (h.push hi ⟨3, 0, _⟩ rfl this.2) rfl
  split at ho
  · exact word _ _ ho
  split at ho
  · exact word _ _ ho
  split at ho
  · exact word _ _ ho
  · cases ho
theorem name_inv (h : JOk s lim x) (ho : D6.name s lim x = .ok (n, y)) : JInv s lim n y := by
  unfold D6.name D6.one at ho
  by_cases hi : (x.out.length : Int) = lim.i
  · rw [if_pos hi] at ho; cases ho
  · rw [if_neg hi] at ho
    simp only at ho
    cases ht : D6.text s lim x.at_ with
    | error e => rw [ht] at ho; cases ho
    | ok lq =>
      obtain ⟨l, q⟩ := lq
      rw [ht] at ho
      obtain ⟨st, hst⟩ : ∃ st, x.stack = st := ⟨_, rfl⟩
      cases st with
      | nil => simp only [hst] at ho; cases ho
      | cons f rest =>
        simp only [hst] at ho
        by_cases hc : f.names.contains l = true
        · rw [if_pos hc] at ho; cases ho
        · rw [if_neg hc] at ho
          cases hp : D6.pass s lim q with
          | error e => rw [hp] at ho; cases ho
          | ok q2 =>
            rw [hp] at ho
            simp only [must_want] at ho
            cases hw : D6.want s lim q2 with
            | error e => rw [hw] at ho; cases ho
            | ok z =>
              rw [hw] at ho
              simp only at ho
              by_cases hz : (z == 58) = true
              · rw [if_pos hz] at ho
                simp only [Except.ok.injEq, Prod.mk.injEq] at ho
                obtain ⟨rfl, rfl⟩ := ho
                have h1 := text_place ht
                have h2 := pass_ok6 _ _ _ hp
                have hk := h.push hi ⟨4, 0, l⟩ rfl (q := q2 + 1) (by omega)
                have e := setText_last x.out x.stack ⟨4, 0, []⟩ l
                rw [hst] at e hk
                rw [e]
                refine ⟨⟨hk.ctx, hk.al, hk.ol, hk.sl, ?_, hk.kd, ?_⟩, by decide, fun e => absurd rfl e⟩
                · intro g hg
                  rcases List.mem_cons.1 hg with rfl | hg
                  · exact hk.no f (List.mem_cons_self ..)
                  · exact hk.no g (List.mem_cons_of_mem _ hg)
                · intro g hg
                  rcases List.mem_cons.1 hg with rfl | hg
                  · have := h.nm f (by rw [hst]; exact List.mem_cons_self ..)
                    show (f.names ++ [l]).length ≤ (D6.bumpTop x.out (f :: rest) ++ [_]).length
                    rw [List.length_append, List.length_singleton, List.length_append, bumpTop_len, List.length_singleton]
                    omega
                  · exact hk.nm g (List.mem_cons_of_mem _ hg)
              · rw [if_neg hz] at ho; cases ho
theorem object_stack (h : D6.object x = true) : x.stack ≠ [] := by
  intro e
  unfold D6.object at h
  rw [e] at h
  cases h
theorem step_inv (h : JInv s lim n x) (hl : x.at_ < min s.length lim.b.toNat) {c n' : Nat} (ho : D6.step s lim n x c = .ok (n', y)) : JInv s lim n' y := by
  unfold D6.step at ho
  split at ho
  · have e : D6.end_ x = (n', y) := by cases ho; rfl
    have := end_inv h.ok hl
    rw [e] at this
    exact this
  split at ho
  · exact value_inv h.ok hl ho
  split at ho
  · simp only [Except.ok.injEq, Prod.mk.injEq] at ho
    obtain ⟨rfl, rfl⟩ := ho
    refine ⟨h.ok.at_ (by omega), by split <;> decide, fun h1 _ => ?_⟩
    by_cases hb : D6.object x = true
    · exact object_stack hb
    · rw [if_neg hb] at h1; exact absurd rfl h1
  split at ho
  · exact name_inv h.ok ho
  · cases ho
end
end Go.Proofs.Ytahojodgmjmpnaa
