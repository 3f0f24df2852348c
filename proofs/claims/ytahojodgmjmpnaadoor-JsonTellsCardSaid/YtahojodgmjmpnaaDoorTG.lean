/-
  Several texts in one: The walk over the program's reader of package json: name. What holds of the program's reader of package json between two steps is kept by a step. No walk here. The program's reader of package json against the reference's: arrays, objects, whole texts (plain law). No program is named here. The program's reader of package json tells what the reference's reader tells (plain law). No program is named here. The walk over the program's read (package json). Printed by gen_nm.py.
-/
import Derived.Test.YtahojodgmjmpnaaDoorTF
import Derived.Test.YtahojodgmjmpnaaDoorGdJ
import Derived.Test.YtahojodgmjmpnaaDoorTB
import Derived.Test.YtahojodgmjmpnaaDoorTB
/-! The walk over the program's reader of package json: name. -/
namespace Go.Proofs.YtahojodgmjmpnaaDoor
open Go.RowKit Go.Px

section
variable {w w1 w2 : World} {b : Nat} {s : Bytes} {lim : Lim} {x : D6.Dx} {vs vo vo1 : Value} {ps ps1 rest : List (D6.Fm × Value)} {f : D6.Fm} {vn : Value} {g cap gg c2 : Nat} {t : Bytes}
theorem JRep.topCells (h : JRep w b s lim x (.slice (some ⟨g, 0, none⟩) (rest.length + 1) cap) vo ((f, vn) :: rest)) :
    w.cell? ⟨g, rest.length * 2, none⟩ = some (.int .i64 (f.no : Nat)) ∧ w.cell? ⟨g, rest.length * 2 + 1, none⟩ = some vn ∧ (∀ i, w.frozen? ⟨g, i, none⟩ = false) ∧ rest.length + 1 ≤ cap ∧ cap ≤ maxLen := by
  have h' : Owns w 77 2 cJf (.slice (some ⟨g, 0, none⟩) (rest.length + 1) cap) (rest.reverse ++ [(f, vn)]) := by have := h.parts.stack; simpa using this
  obtain ⟨g', cap', h1, h2, h3, h4, h5⟩ := h'.last cJf_len
  rw [List.length_reverse] at h1 h2 h4
  simp only [Value.slice.injEq, Option.some.injEq, Addr.mk.injEq, and_true, true_and] at h1
  obtain ⟨rfl, rfl⟩ := h1
  exact ⟨h4 0 _ rfl, h4 1 _ rfl, h5, h2, h3⟩
/-- The innermost frame has one name more. -/
theorem JRun.putName (h : JRun w b s lim vs vo ps x w1 (.slice (some ⟨g, 0, none⟩) (rest.length + 1) cap) vo1 ((f, vn) :: rest))
    (hown : w2.ownsRow 0 9 1 (.slice (some ⟨gg, 0, none⟩) (f.names.length + 1) c2) (f.names.length + 1) (f.names.flatMap cStr ++ cStr t))
    (hg : w1.grownBy w2 vn.ownBlock) (hat : vn.ownBlock = some gg ∨ w1.heap.size ≤ gg) :
    JRun w b s lim vs vo ps { x with stack := { f with names := f.names ++ [t] } :: rest.map Prod.fst } (w2.setCell ⟨g, rest.length * 2 + 1, none⟩ (.slice (some ⟨gg, 0, none⟩) (f.names.length + 1) c2))
      (.slice (some ⟨g, 0, none⟩) (rest.length + 1) cap) vo1 (({ f with names := f.names ++ [t] }, .slice (some ⟨gg, 0, none⟩) (f.names.length + 1) c2) :: rest) := by
  have hp := h.rep.parts
  have hvn : vn.ownBlock ≠ some g := fun e => hp.split.2.2.1 g rfl (mem_nmB.2 ⟨_, List.mem_cons_self .., e⟩)
  have hgl : g < w1.heap.size := hp.stack.lt rfl
  have hgg : gg ≠ g := by
    rcases hat with e | e
    · exact fun x => hvn (by rw [e, x])
    · omega
  have hF : ∀ k, (vn.ownBlock = some k ∨ k = g) → some k ∈ jbl vo1 (.slice (some ⟨g, 0, none⟩) (rest.length + 1) cap) ((f, vn) :: rest) := fun k e => by
    rcases e with e | e
    · exact mem_jbl.2 (.inr (.inr (mem_nmB.2 ⟨_, List.mem_cons_self .., e⟩)))
    · exact mem_jbl.2 (.inr (.inl (by rw [e]; rfl)))
  have hf : Fr (fun k => vn.ownBlock = some k ∨ k = g) w1 (w2.setCell ⟨g, rest.length * 2 + 1, none⟩ (.slice (some ⟨gg, 0, none⟩) (f.names.length + 1) c2)) :=
    ((Fr.refl _ w1).grown hg (fun k e => .inl (.inl e))).setCell (p := ⟨g, rest.length * 2 + 1, none⟩) (.inl (.inr rfl)) _
  have h0 : Owns w1 77 2 cJf (.slice (some ⟨g, 0, none⟩) (rest.reverse.length + 1) cap) (rest.reverse ++ [(f, vn)]) := by have := hp.stack; simpa using this
  have h1 := h0.grown hg (fun k e e2 => by
    simp only [Value.ownBlock, Option.some.injEq] at e
    subst e
    exact hvn e2)
  have k := h1.setLast (b := ({ f with names := f.names ++ [t] }, .slice (some ⟨gg, 0, none⟩) (f.names.length + 1) c2)) cJf_len 1 (.slice (some ⟨gg, 0, none⟩) (f.names.length + 1) c2) rfl
  rw [List.length_reverse] at k
  have hn2 : ∀ j, (Value.slice (some ⟨gg, 0, none⟩) (f.names.length + 1) c2).ownBlock = some j → vn.ownBlock = some j ∨ w1.heap.size ≤ j := fun j e => by
    simp only [Value.ownBlock, Option.some.injEq] at e
    subst e
    exact hat
  have hbn : ∀ j, some j ∈ jbl vo1 (.slice (some ⟨g, 0, none⟩) (rest.length + 1) cap) (({ f with names := f.names ++ [t] }, .slice (some ⟨gg, 0, none⟩) (f.names.length + 1) c2) :: rest) → some j ∈ jbl vo1 (.slice (some ⟨g, 0, none⟩) (rest.length + 1) cap) ((f, vn) :: rest) ∨ w1.heap.size ≤ j := fun j e => by
    rcases mem_jbl.1 e with y | y | y
    · exact .inl (mem_jbl.2 (.inl y))
    · exact .inl (mem_jbl.2 (.inr (.inl y)))
    · simp only [nmB, List.map_cons, List.mem_cons] at y
      rcases y with y | y
      · exact (hn2 j y.symm).imp (fun z => mem_jbl.2 (.inr (.inr (mem_nmB.2 ⟨_, List.mem_cons_self .., z⟩)))) id
      · refine .inl (mem_jbl.2 (.inr (.inr ?_)))
        simp only [nmB, List.map_cons, List.mem_cons]
        exact .inr y
  refine h.trans ⟨h.rep.inner hf hF (hp.putNames hf (fun j e => ?_) (by simpa using k) ?_ hn2) hbn rfl, Fr.foot hf hF, Fresh.foot hbn⟩
  · rcases e with e | e
    · exact .inr e
    · exact .inl (by rw [e]; rfl)
  · exact (owns_append hown).setCell (p := ⟨g, rest.length * 2 + 1, none⟩) (fun e => by
      simp only [Value.ownBlock, Option.some.injEq] at e
      exact hgg e) _
end
theorem jpass_no {b p : Nat} {s : Bytes} {lim : Lim} {vs vo : Value} {w : World} {e : D6.Flt} (hc : Cj s lim) (hp : p ≤ min s.length lim.b.toNat) (h : Jr w b s lim p vs vo) (he : D6.pass s lim p = .error e) :
    Calls Tryd.prog 30 #[.pointer (some ⟨b, 0, none⟩)] w fun r w' => r = jpanics e ∧ Fr (It b) w w' := by
  have := jpass_any b p s lim vs vo hc hp w h
  rw [he] at this
  exact this
theorem jpass_yes {b p q : Nat} {s : Bytes} {lim : Lim} {vs vo : Value} {w : World} (hc : Cj s lim) (hp : p ≤ min s.length lim.b.toNat) (h : Jr w b s lim p vs vo) (he : D6.pass s lim p = .ok q) :
    Calls Tryd.prog 30 #[.pointer (some ⟨b, 0, none⟩)] w fun r w' => r = .returned (byteV s q) ∧ Jr w' b s lim q vs vo ∧ Fr (It b) w w' := by
  have := jpass_any b p s lim vs vo hc hp w h
  rw [he] at this
  exact this
theorem pass_ok6 {s : Bytes} {lim : Lim} : ∀ (m p q : Nat), D6.passN s lim m p = .ok q → p ≤ q ∧ q < min s.length lim.b.toNat
  | 0, p, q, h => by cases h
  | m + 1, p, q, h => by
    rw [jpassN_succ] at h
    obtain ⟨W, hW⟩ : ∃ W, D6.want s lim p = W := ⟨_, rfl⟩
    rw [hW] at h
    cases W with
    | error e => cases h
    | ok c =>
      have hl := (want_lt6 hW).1
      simp only at h
      split at h
      · have := pass_ok6 m (p + 1) q h; omega
      · cases h; omega
theorem textN_place {s : Bytes} {lim : Lim} : ∀ (m p q : Nat) (o l : Bytes), D6.textN s lim m p o = .ok (l, q) → p < q ∧ q ≤ min s.length lim.b.toNat
  | 0, p, q, o, l, h => by cases h
  | m + 1, p, q, o, l, h => by
    rw [jtextN_succ] at h
    obtain ⟨W, hW⟩ : ∃ W, D6.want s lim p = W := ⟨_, rfl⟩
    rw [hW] at h
    cases W with
    | error e => cases h
    | ok c =>
      have hl := (want_lt6 hW).1
      simp only at h
      split at h
      · cases h; omega
      · split at h
        · cases h
        · split at h
          · cases he : D6.escape s lim (p + 1) with
            | error e => rw [he] at h; cases h
            | ok v =>
              obtain ⟨bb, q1⟩ := v
              have h1 := escape_place he
              rw [he] at h
              have := textN_place m q1 q _ l h
              omega
          · split at h
            · cases he : D6.sign s lim p with
              | error e => rw [he] at h; cases h
              | ok q1 =>
                have h1 := sign_place he
                rw [he] at h
                have := textN_place m q1 q _ l h
                omega
            · have := textN_place m (p + 1) q _ l h
              omega
theorem text_place {s l : Bytes} {lim : Lim} {p q : Nat} (h : D6.text s lim p = .ok (l, q)) : p + 1 < q ∧ q ≤ min s.length lim.b.toNat := textN_place _ _ _ _ _ h

set_option maxRecDepth 100000 in
set_option maxHeartbeats 4000000 in
theorem jname_full (b : Nat) (s : Bytes) (lim : Lim) (x : D6.Dx) (w : World) (vs vo : Value) (ps : List (D6.Fm × Value)) (h : JRep w b s lim x vs vo ps) (hi : (x.out.length : Int) = lim.i) :
    Calls Tryd.prog 33 #[.pointer (some ⟨b, 0, none⟩)] w (JVal w b s lim vs vo ps (.error ((x.at_ : Nat), 10))) := by
  obtain ⟨_, _, _, _, c5, _, c7⟩ := h.jr.cells
  obtain ⟨oa, oc, hov, _⟩ := h.parts.out.len
  rw [hov] at c7
  have HX := Px.hid (JRun.refl h)
  have HO := Px.hid (fun (v : Val) => jone_full b s lim x v w vs vo ps h hi)
  clear h hov hi
  go_enter Tryd.func33, Tryd.ntmps33
  go_wp2_with fail
  refine (HO.out ⟨4, 0, []⟩).mono ?_
  rintro r w1 ⟨rfl, hs⟩
  have HS := Px.hid (HX.out.same hs)
  clear hs
  unfold jpanics
  go_wp2
  exact ⟨rfl, JVal.bad rfl HS.out.fr⟩
set_option maxRecDepth 100000 in
set_option maxHeartbeats 4000000 in
theorem jname_text (b : Nat) (s : Bytes) (lim : Lim) (x : D6.Dx) (w : World) (vs vo : Value) (ps : List (D6.Fm × Value)) (h : JRep w b s lim x vs vo ps) (hok : JOk s lim x) (hps : x.at_ < min s.length lim.b.toNat) (hi : ¬ (x.out.length : Int) = lim.i) (e : D6.Flt) (ht : D6.text s lim x.at_ = .error e) :
    Calls Tryd.prog 33 #[.pointer (some ⟨b, 0, none⟩)] w (JVal w b s lim vs vo ps (.error e)) := by
  obtain ⟨_, _, _, _, c5, _, c7⟩ := h.jr.cells
  obtain ⟨oa, oc, hov, _⟩ := h.parts.out.len
  rw [hov] at c7
  have HX := Px.hid (JRun.refl h)
  have HOK := Px.hid hok
  have HO := Px.hid (fun (v : Val) => jone_yes b s lim x v w vs vo ps h hok hi)
  have HT := Px.hid (fun (w : World) (vo : Value) (h : Jr w b s lim x.at_ vs vo) => jtext_no HOK.out.ctx hps h ht)
  clear h hov hi hok ht
  go_enter Tryd.func33, Tryd.ntmps33
  go_wp2_with fail
  refine (HO.out ⟨4, 0, []⟩).mono ?_
  rintro r w1 ⟨rfl, vo1, hd⟩
  have H1 := Px.hid hd
  clear hd
  go_wp2_with fail
  refine (HT.out _ _ H1.out.rep.jr).mono ?_
  rintro r w2 ⟨rfl, hf⟩
  have HS := Px.hid (H1.out.frit hf)
  clear hf
  unfold jpanics
  go_wp2
  exact ⟨rfl, JVal.bad rfl HS.out⟩
set_option maxRecDepth 100000 in
set_option maxHeartbeats 8000000 in
theorem jname_twice (b : Nat) (s : Bytes) (lim : Lim) (x : D6.Dx) (w : World) (vs vo : Value) (ps : List (D6.Fm × Value)) (h : JRep w b s lim x vs vo ps) (hok : JOk s lim x) (hps : x.at_ < min s.length lim.b.toNat) (hi : ¬ (x.out.length : Int) = lim.i) (f : D6.Fm) (rest : List D6.Fm) (hst : x.stack = f :: rest) (l : Bytes) (q : Nat) (ht : D6.text s lim x.at_ = .ok (l, q)) (hc : f.names.contains l = true) :
    Calls Tryd.prog 33 #[.pointer (some ⟨b, 0, none⟩)] w (JVal w b s lim vs vo ps (.error ((x.at_ : Nat), 9))) := by
  obtain ⟨_, _, _, _, c5, _, c7⟩ := h.jr.cells
  obtain ⟨oa, oc, hov, _⟩ := h.parts.out.len
  rw [hov] at c7
  have hlen := hok.ctx.len
  have hmay := J6.may_of hok.ctx.may
  have hol := hok.ol
  have hsl := hok.sl
  have hnl : f.names.length ≤ 1000000 := by have := hok.nm f (by rw [hst]; exact List.mem_cons_self ..); have := hok.ol; have := J6.may_of hok.ctx.may; omega
  obtain ⟨vn, ps2, hps2, hm, g, cap, hsv, _, _, _, _, _⟩ := h.top hst
  have hpl : ps2.length ≤ 32 := by have := congrArg List.length hm; rw [List.length_map] at this; rw [hst] at hsl; simp at hsl; omega
  subst hsv
  subst hps2
  obtain ⟨l1, hl1⟩ : ∃ l1, D6.bumpTop x.out x.stack = l1 := ⟨_, rfl⟩
  have hl1n : l1.length = x.out.length := by rw [← hl1, bumpTop_len]
  have HX := Px.hid (JRun.refl h)
  have HOK := Px.hid hok
  have HO := Px.hid (fun (v : Val) => jone_yes b s lim x v w _ vo _ h hok hi)
  simp only [hl1] at HO
  have HT := Px.hid (fun (w : World) (vo : Value) (h : Jr w b s lim x.at_ (.slice (some ⟨g, 0, none⟩) (ps2.length + 1) cap) vo) => jtext_yes HOK.out.ctx hps h ht)
  have HPL := Px.hid (text_place ht)
  obtain ⟨L, hL⟩ : ∃ L, l1.length = L := ⟨_, rfl⟩
  have HL := Px.hid hL
  rw [← hl1n, hL] at c7
  have hL2 : L ≤ 4096 := by omega
  have HM := Px.hid (And.intro hm (And.intro hst hl1n))
  obtain ⟨A, hA⟩ : ∃ A, x.at_ = A := ⟨_, rfl⟩
  rw [hA] at c5
  have HA := Px.hid hA
  have HC := Px.hid hc
  clear hc
  clear h hok hol hlen hmay hi hov ht hl1 hl1n hL hps hsl hst hm hA
  go_enter Tryd.func33, Tryd.ntmps33
  go_wp2_with fail
  refine (HO.out ⟨4, 0, []⟩).mono ?_
  rintro r w1 ⟨rfl, vo1, hd⟩
  have H1 := Px.hid hd
  clear hd c5 c7
  go_wp2_with fail
  refine (HT.out _ _ H1.out.rep.jr).mono ?_
  rintro r w2 ⟨rfl, hj, hf⟩
  have H2 := Px.hid (H1.out.it hj hf)
  clear hj hf
  obtain ⟨go, co, hvo, o1, o2, k0, _, k2, kf⟩ := H2.out.rep.val (j := L) (a := ⟨4, 0, []⟩) (by simp only; rw [← HL.out]; simp)
  simp only [List.length_append, List.length_singleton, HL.out] at hvo o1
  subst hvo
  have c7 := H2.out.rep.jr.cells.2.2.2.2.2.2
  have c6 := H2.out.rep.jr.cells.2.2.2.2.2.1
  unfold maxLen at o2
  have kf2 := kf (L * 3 + 2)
  have hLL : (L : Int) < (L : Int) + 1 := by omega
  have n0 : (0 : Int) < (ps2.length : Int) + 1 := by omega
  have hbg : go ≠ b := fun e => H2.out.rep.nb (mem_jbl.2 (.inl (by rw [← e]; rfl)))
  have HBG := Px.hid hbg
  have hbl := H2.out.rep.lt
  clear kf k0 hbg
  obtain ⟨W3, hW3⟩ : ∃ W3, W3 = w2.setCell ⟨go, L * 3 + 2, none⟩ (S l) := ⟨_, rfl⟩
  have H3 := Px.hid (show JRun w b s lim _ vo _ { x with at_ := q, out := (l1 ++ [(⟨4, 0, []⟩ : Val)]).set L ⟨4, 0, l⟩ } W3 _ _ _ from by
    rw [hW3]
    exact H2.out.setVal (j := L) (a := ⟨4, 0, []⟩) (a' := ⟨4, 0, l⟩) (by simp only; rw [← HL.out]; simp) 2 (by decide) (S l) rfl)
  go_upto_region 6 with fail
  rw [← hW3]
  clear hW3 c7 c6 k2 kf2 hLL o1 o2
  have c6 := H3.out.rep.jr.cells.2.2.2.2.2.1
  go_quiet (fail)
  have H4 := Px.hid (H3.out.drewN nq)
  obtain ⟨W4, hW4⟩ : ∃ W4, W4 = W3.drewN nq := ⟨_, rfl⟩
  rw [← hW4] at H4 ⊢
  clear hW4 c6
  obtain ⟨_, t1, tf, t2, t3⟩ := H4.out.rep.topCells
  have tf1 := tf (ps2.length * 2 + 1)
  have HNM := Px.hid (H4.out.rep.parts.names (f, vn) (List.mem_cons_self ..))
  unfold maxLen at t3
  clear tf
  go_wp2_with fail
  refine (contains_any vn f.names l hnl _ HNM.out).mono ?_
  rintro r w5 ⟨rfl, rfl⟩
  rw [HC.out]
  go_wp2_with fail
  refine (jwrong b _ _ _).mono ?_
  rintro r w6 ⟨rfl, rfl⟩
  unfold jpanics
  go_wp2
  exact ⟨rfl, JVal.bad (by rw [HA.out]) H4.out.fr⟩
set_option maxRecDepth 100000 in
set_option maxHeartbeats 8000000 in
theorem jname_pass (b : Nat) (s : Bytes) (lim : Lim) (x : D6.Dx) (w : World) (vs vo : Value) (ps : List (D6.Fm × Value)) (h : JRep w b s lim x vs vo ps) (hok : JOk s lim x) (hps : x.at_ < min s.length lim.b.toNat) (hi : ¬ (x.out.length : Int) = lim.i) (f : D6.Fm) (rest : List D6.Fm) (hst : x.stack = f :: rest) (l : Bytes) (q : Nat) (ht : D6.text s lim x.at_ = .ok (l, q)) (hc : f.names.contains l = false) (e : D6.Flt) (hp : D6.pass s lim q = .error e) :
    Calls Tryd.prog 33 #[.pointer (some ⟨b, 0, none⟩)] w (JVal w b s lim vs vo ps (.error e)) := by
  obtain ⟨_, _, _, _, c5, _, c7⟩ := h.jr.cells
  obtain ⟨oa, oc, hov, _⟩ := h.parts.out.len
  rw [hov] at c7
  have hlen := hok.ctx.len
  have hmay := J6.may_of hok.ctx.may
  have hol := hok.ol
  have hsl := hok.sl
  have hnl : f.names.length ≤ 1000000 := by have := hok.nm f (by rw [hst]; exact List.mem_cons_self ..); have := hok.ol; have := J6.may_of hok.ctx.may; omega
  obtain ⟨vn, ps2, hps2, hm, g, cap, hsv, _, _, _, _, _⟩ := h.top hst
  have hpl : ps2.length ≤ 32 := by have := congrArg List.length hm; rw [List.length_map] at this; rw [hst] at hsl; simp at hsl; omega
  subst hsv
  subst hps2
  obtain ⟨l1, hl1⟩ : ∃ l1, D6.bumpTop x.out x.stack = l1 := ⟨_, rfl⟩
  have hl1n : l1.length = x.out.length := by rw [← hl1, bumpTop_len]
  have HX := Px.hid (JRun.refl h)
  have HOK := Px.hid hok
  have HO := Px.hid (fun (v : Val) => jone_yes b s lim x v w _ vo _ h hok hi)
  simp only [hl1] at HO
  have HT := Px.hid (fun (w : World) (vo : Value) (h : Jr w b s lim x.at_ (.slice (some ⟨g, 0, none⟩) (ps2.length + 1) cap) vo) => jtext_yes HOK.out.ctx hps h ht)
  have HPL := Px.hid (text_place ht)
  obtain ⟨L, hL⟩ : ∃ L, l1.length = L := ⟨_, rfl⟩
  have HL := Px.hid hL
  rw [← hl1n, hL] at c7
  have hL2 : L ≤ 4096 := by omega
  have HM := Px.hid (And.intro hm (And.intro hst hl1n))
  obtain ⟨A, hA⟩ : ∃ A, x.at_ = A := ⟨_, rfl⟩
  rw [hA] at c5
  have HA := Px.hid hA
  have HC := Px.hid hc
  have HP := Px.hid (fun (w : World) (vs vo : Value) (h : Jr w b s lim q vs vo) => jpass_no HOK.out.ctx (text_place ht).2 h hp)
  clear hc hp
  clear h hok hol hlen hmay hi hov ht hl1 hl1n hL hps hsl hst hm hA
  go_enter Tryd.func33, Tryd.ntmps33
  go_wp2_with fail
  refine (HO.out ⟨4, 0, []⟩).mono ?_
  rintro r w1 ⟨rfl, vo1, hd⟩
  have H1 := Px.hid hd
  clear hd c5 c7
  go_wp2_with fail
  refine (HT.out _ _ H1.out.rep.jr).mono ?_
  rintro r w2 ⟨rfl, hj, hf⟩
  have H2 := Px.hid (H1.out.it hj hf)
  clear hj hf
  obtain ⟨go, co, hvo, o1, o2, k0, _, k2, kf⟩ := H2.out.rep.val (j := L) (a := ⟨4, 0, []⟩) (by simp only; rw [← HL.out]; simp)
  simp only [List.length_append, List.length_singleton, HL.out] at hvo o1
  subst hvo
  have c7 := H2.out.rep.jr.cells.2.2.2.2.2.2
  have c6 := H2.out.rep.jr.cells.2.2.2.2.2.1
  unfold maxLen at o2
  have kf2 := kf (L * 3 + 2)
  have hLL : (L : Int) < (L : Int) + 1 := by omega
  have n0 : (0 : Int) < (ps2.length : Int) + 1 := by omega
  have hbg : go ≠ b := fun e => H2.out.rep.nb (mem_jbl.2 (.inl (by rw [← e]; rfl)))
  have HBG := Px.hid hbg
  have hbl := H2.out.rep.lt
  clear kf k0 hbg
  obtain ⟨W3, hW3⟩ : ∃ W3, W3 = w2.setCell ⟨go, L * 3 + 2, none⟩ (S l) := ⟨_, rfl⟩
  have H3 := Px.hid (show JRun w b s lim _ vo _ { x with at_ := q, out := (l1 ++ [(⟨4, 0, []⟩ : Val)]).set L ⟨4, 0, l⟩ } W3 _ _ _ from by
    rw [hW3]
    exact H2.out.setVal (j := L) (a := ⟨4, 0, []⟩) (a' := ⟨4, 0, l⟩) (by simp only; rw [← HL.out]; simp) 2 (by decide) (S l) rfl)
  go_upto_region 6 with fail
  rw [← hW3]
  clear hW3 c7 c6 k2 kf2 hLL o1 o2
  have c6 := H3.out.rep.jr.cells.2.2.2.2.2.1
  go_quiet (fail)
  have H4 := Px.hid (H3.out.drewN nq)
  obtain ⟨W4, hW4⟩ : ∃ W4, W4 = W3.drewN nq := ⟨_, rfl⟩
  rw [← hW4] at H4 ⊢
  clear hW4 c6
  obtain ⟨_, t1, tf, t2, t3⟩ := H4.out.rep.topCells
  have tf1 := tf (ps2.length * 2 + 1)
  have HNM := Px.hid (H4.out.rep.parts.names (f, vn) (List.mem_cons_self ..))
  unfold maxLen at t3
  clear tf
  go_wp2_with fail
  refine (contains_any vn f.names l hnl _ HNM.out).mono ?_
  rintro r w5 ⟨rfl, rfl⟩
  rw [HC.out]
  obtain ⟨na, nc, hvn, _⟩ := HNM.out.len
  subst hvn
  obtain ⟨i0, hi0, hz0, hz1, hz2⟩ := info_parts Tryd.infoStr
  have hbl4 := H4.out.rep.lt
  have hgl4 : g < W4.heap.size := H4.out.rep.parts.stack.lt rfl
  have HNE := Px.hid (show (Value.slice na f.names.length nc).ownBlock ≠ some g from fun e => H4.out.rep.parts.split.2.2.1 g rfl (mem_nmB.2 ⟨_, List.mem_cons_self .., e⟩))
  go_wp2_with (at_builtin; go_must (refine wpList_append_lies _ rfl _ _ _ rfl 0 9 i0 _ 1 16 Tryd.underlying64 hi0 hz0 hz1 hz2 rfl (by omega) (.slice na f.names.length nc) f.names.length (f.names.flatMap cStr) rfl (HNM.out.alloc _) ⟨W4.heap.size, 0, none⟩ 1 1 (cStr l) rfl rfl (World.news_of_block (cs := #[S l]) (t := 9) (fr := (0, 0)) (heap_alloc_new W4 _)) (by simp [cStr, Value.oneCell']) (by omega) (by unfold maxLen; omega) (by omega) (by omega) (W4.heap.size + 1) (by simp) ?_))
  intro gg cc w6 hown hgrow hat hltg
  have k1 := grown_cell1 hgrow t1 HNE.out
  have e1 := grown_free1 hgrow t1 tf1 HNE.out
  have H6 := Px.hid (H4.out.putName hown (grown_alloc1 hgrow) (hat.elim .inl (fun e => .inr (by omega))))
  clear hown hgrow hat hltg t1 tf1 t2 t3 hgl4 hbl4
  go_wp2_with fail
  refine (HP.out _ _ _ H6.out.rep.jr).mono ?_
  rintro r w7 ⟨rfl, hf⟩
  have HS := Px.hid (H6.out.frit hf)
  clear hf
  unfold jpanics
  go_wp2
  exact ⟨rfl, JVal.bad rfl HS.out⟩
set_option maxRecDepth 100000 in
set_option maxHeartbeats 8000000 in
theorem jname_must (b : Nat) (s : Bytes) (lim : Lim) (x : D6.Dx) (w : World) (vs vo : Value) (ps : List (D6.Fm × Value)) (h : JRep w b s lim x vs vo ps) (hok : JOk s lim x) (hps : x.at_ < min s.length lim.b.toNat) (hi : ¬ (x.out.length : Int) = lim.i) (f : D6.Fm) (rest : List D6.Fm) (hst : x.stack = f :: rest) (l : Bytes) (q : Nat) (ht : D6.text s lim x.at_ = .ok (l, q)) (hc : f.names.contains l = false) (q2 : Nat) (hp : D6.pass s lim q = .ok q2) (e : D6.Flt) (hmu : D6.must s lim q2 58 = .error e) :
    Calls Tryd.prog 33 #[.pointer (some ⟨b, 0, none⟩)] w (JVal w b s lim vs vo ps (.error e)) := by
  obtain ⟨_, _, _, _, c5, _, c7⟩ := h.jr.cells
  obtain ⟨oa, oc, hov, _⟩ := h.parts.out.len
  rw [hov] at c7
  have hlen := hok.ctx.len
  have hmay := J6.may_of hok.ctx.may
  have hol := hok.ol
  have hsl := hok.sl
  have hnl : f.names.length ≤ 1000000 := by have := hok.nm f (by rw [hst]; exact List.mem_cons_self ..); have := hok.ol; have := J6.may_of hok.ctx.may; omega
  obtain ⟨vn, ps2, hps2, hm, g, cap, hsv, _, _, _, _, _⟩ := h.top hst
  have hpl : ps2.length ≤ 32 := by have := congrArg List.length hm; rw [List.length_map] at this; rw [hst] at hsl; simp at hsl; omega
  subst hsv
  subst hps2
  obtain ⟨l1, hl1⟩ : ∃ l1, D6.bumpTop x.out x.stack = l1 := ⟨_, rfl⟩
  have hl1n : l1.length = x.out.length := by rw [← hl1, bumpTop_len]
  have HX := Px.hid (JRun.refl h)
  have HOK := Px.hid hok
  have HO := Px.hid (fun (v : Val) => jone_yes b s lim x v w _ vo _ h hok hi)
  simp only [hl1] at HO
  have HT := Px.hid (fun (w : World) (vo : Value) (h : Jr w b s lim x.at_ (.slice (some ⟨g, 0, none⟩) (ps2.length + 1) cap) vo) => jtext_yes HOK.out.ctx hps h ht)
  have HPL := Px.hid (text_place ht)
  obtain ⟨L, hL⟩ : ∃ L, l1.length = L := ⟨_, rfl⟩
  have HL := Px.hid hL
  rw [← hl1n, hL] at c7
  have hL2 : L ≤ 4096 := by omega
  have HM := Px.hid (And.intro hm (And.intro hst hl1n))
  obtain ⟨A, hA⟩ : ∃ A, x.at_ = A := ⟨_, rfl⟩
  rw [hA] at c5
  have HA := Px.hid hA
  have HC := Px.hid hc
  have HP := Px.hid (fun (w : World) (vs vo : Value) (h : Jr w b s lim q vs vo) => jpass_yes HOK.out.ctx (text_place ht).2 h hp)
  have hq2 := (pass_ok6 _ _ _ hp).2
  have HMU := Px.hid (fun (w : World) (vs vo : Value) (h : Jr w b s lim q2 vs vo) => jmust_no (show q2 ≤ 140737488355327 by omega) h hmu)
  clear hc hp hmu hq2
  clear h hok hol hlen hmay hi hov ht hl1 hl1n hL hps hsl hst hm hA
  go_enter Tryd.func33, Tryd.ntmps33
  go_wp2_with fail
  refine (HO.out ⟨4, 0, []⟩).mono ?_
  rintro r w1 ⟨rfl, vo1, hd⟩
  have H1 := Px.hid hd
  clear hd c5 c7
  go_wp2_with fail
  refine (HT.out _ _ H1.out.rep.jr).mono ?_
  rintro r w2 ⟨rfl, hj, hf⟩
  have H2 := Px.hid (H1.out.it hj hf)
  clear hj hf
  obtain ⟨go, co, hvo, o1, o2, k0, _, k2, kf⟩ := H2.out.rep.val (j := L) (a := ⟨4, 0, []⟩) (by simp only; rw [← HL.out]; simp)
  simp only [List.length_append, List.length_singleton, HL.out] at hvo o1
  subst hvo
  have c7 := H2.out.rep.jr.cells.2.2.2.2.2.2
  have c6 := H2.out.rep.jr.cells.2.2.2.2.2.1
  unfold maxLen at o2
  have kf2 := kf (L * 3 + 2)
  have hLL : (L : Int) < (L : Int) + 1 := by omega
  have n0 : (0 : Int) < (ps2.length : Int) + 1 := by omega
  have hbg : go ≠ b := fun e => H2.out.rep.nb (mem_jbl.2 (.inl (by rw [← e]; rfl)))
  have HBG := Px.hid hbg
  have hbl := H2.out.rep.lt
  clear kf k0 hbg
  obtain ⟨W3, hW3⟩ : ∃ W3, W3 = w2.setCell ⟨go, L * 3 + 2, none⟩ (S l) := ⟨_, rfl⟩
  have H3 := Px.hid (show JRun w b s lim _ vo _ { x with at_ := q, out := (l1 ++ [(⟨4, 0, []⟩ : Val)]).set L ⟨4, 0, l⟩ } W3 _ _ _ from by
    rw [hW3]
    exact H2.out.setVal (j := L) (a := ⟨4, 0, []⟩) (a' := ⟨4, 0, l⟩) (by simp only; rw [← HL.out]; simp) 2 (by decide) (S l) rfl)
  go_upto_region 6 with fail
  rw [← hW3]
  clear hW3 c7 c6 k2 kf2 hLL o1 o2
  have c6 := H3.out.rep.jr.cells.2.2.2.2.2.1
  go_quiet (fail)
  have H4 := Px.hid (H3.out.drewN nq)
  obtain ⟨W4, hW4⟩ : ∃ W4, W4 = W3.drewN nq := ⟨_, rfl⟩
  rw [← hW4] at H4 ⊢
  clear hW4 c6
  obtain ⟨_, t1, tf, t2, t3⟩ := H4.out.rep.topCells
  have tf1 := tf (ps2.length * 2 + 1)
  have HNM := Px.hid (H4.out.rep.parts.names (f, vn) (List.mem_cons_self ..))
  unfold maxLen at t3
  clear tf
  go_wp2_with fail
  refine (contains_any vn f.names l hnl _ HNM.out).mono ?_
  rintro r w5 ⟨rfl, rfl⟩
  rw [HC.out]
  obtain ⟨na, nc, hvn, _⟩ := HNM.out.len
  subst hvn
  obtain ⟨i0, hi0, hz0, hz1, hz2⟩ := info_parts Tryd.infoStr
  have hbl4 := H4.out.rep.lt
  have hgl4 : g < W4.heap.size := H4.out.rep.parts.stack.lt rfl
  have HNE := Px.hid (show (Value.slice na f.names.length nc).ownBlock ≠ some g from fun e => H4.out.rep.parts.split.2.2.1 g rfl (mem_nmB.2 ⟨_, List.mem_cons_self .., e⟩))
  go_wp2_with (at_builtin; go_must (refine wpList_append_lies _ rfl _ _ _ rfl 0 9 i0 _ 1 16 Tryd.underlying64 hi0 hz0 hz1 hz2 rfl (by omega) (.slice na f.names.length nc) f.names.length (f.names.flatMap cStr) rfl (HNM.out.alloc _) ⟨W4.heap.size, 0, none⟩ 1 1 (cStr l) rfl rfl (World.news_of_block (cs := #[S l]) (t := 9) (fr := (0, 0)) (heap_alloc_new W4 _)) (by simp [cStr, Value.oneCell']) (by omega) (by unfold maxLen; omega) (by omega) (by omega) (W4.heap.size + 1) (by simp) ?_))
  intro gg cc w6 hown hgrow hat hltg
  have k1 := grown_cell1 hgrow t1 HNE.out
  have e1 := grown_free1 hgrow t1 tf1 HNE.out
  have H6 := Px.hid (H4.out.putName hown (grown_alloc1 hgrow) (hat.elim .inl (fun e => .inr (by omega))))
  clear hown hgrow hat hltg t1 tf1 t2 t3 hgl4 hbl4
  go_wp2_with fail
  refine (HP.out _ _ _ H6.out.rep.jr).mono ?_
  rintro r w7 ⟨rfl, hj, hf⟩
  have H7 := Px.hid (H6.out.it hj hf)
  clear hj hf
  unfold byteV
  go_wp2_with fail
  refine (HMU.out _ _ _ H7.out.rep.jr).mono ?_
  rintro r w8 ⟨rfl, hf⟩
  have HS := Px.hid (H7.out.frit hf)
  clear hf
  unfold jpanics
  go_wp2
  exact ⟨rfl, JVal.bad rfl HS.out⟩
set_option maxRecDepth 100000 in
set_option maxHeartbeats 8000000 in
theorem jname_ok (b : Nat) (s : Bytes) (lim : Lim) (x : D6.Dx) (w : World) (vs vo : Value) (ps : List (D6.Fm × Value)) (h : JRep w b s lim x vs vo ps) (hok : JOk s lim x) (hps : x.at_ < min s.length lim.b.toNat) (hi : ¬ (x.out.length : Int) = lim.i) (f : D6.Fm) (rest : List D6.Fm) (hst : x.stack = f :: rest) (l : Bytes) (q : Nat) (ht : D6.text s lim x.at_ = .ok (l, q)) (hc : f.names.contains l = false) (q2 : Nat) (hp : D6.pass s lim q = .ok q2) (q3 : Nat) (hmu : D6.must s lim q2 58 = .ok q3) :
    Calls Tryd.prog 33 #[.pointer (some ⟨b, 0, none⟩)] w (JVal w b s lim vs vo ps (.ok (0, { at_ := q3, stack := { f with names := f.names ++ [l] } :: rest, out := (D6.bumpTop x.out x.stack ++ [(⟨4, 0, []⟩ : Val)]).set x.out.length ⟨4, 0, l⟩ }))) := by
  obtain ⟨_, _, _, _, c5, _, c7⟩ := h.jr.cells
  obtain ⟨oa, oc, hov, _⟩ := h.parts.out.len
  rw [hov] at c7
  have hlen := hok.ctx.len
  have hmay := J6.may_of hok.ctx.may
  have hol := hok.ol
  have hsl := hok.sl
  have hnl : f.names.length ≤ 1000000 := by have := hok.nm f (by rw [hst]; exact List.mem_cons_self ..); have := hok.ol; have := J6.may_of hok.ctx.may; omega
  obtain ⟨vn, ps2, hps2, hm, g, cap, hsv, _, _, _, _, _⟩ := h.top hst
  have hpl : ps2.length ≤ 32 := by have := congrArg List.length hm; rw [List.length_map] at this; rw [hst] at hsl; simp at hsl; omega
  subst hsv
  subst hps2
  obtain ⟨l1, hl1⟩ : ∃ l1, D6.bumpTop x.out x.stack = l1 := ⟨_, rfl⟩
  have hl1n : l1.length = x.out.length := by rw [← hl1, bumpTop_len]
  have HX := Px.hid (JRun.refl h)
  have HOK := Px.hid hok
  have HO := Px.hid (fun (v : Val) => jone_yes b s lim x v w _ vo _ h hok hi)
  simp only [hl1] at HO
  have HT := Px.hid (fun (w : World) (vo : Value) (h : Jr w b s lim x.at_ (.slice (some ⟨g, 0, none⟩) (ps2.length + 1) cap) vo) => jtext_yes HOK.out.ctx hps h ht)
  have HPL := Px.hid (text_place ht)
  obtain ⟨L, hL⟩ : ∃ L, l1.length = L := ⟨_, rfl⟩
  have HL := Px.hid hL
  rw [← hl1n, hL] at c7
  have hL2 : L ≤ 4096 := by omega
  have HM := Px.hid (And.intro hm (And.intro hst hl1n))
  obtain ⟨A, hA⟩ : ∃ A, x.at_ = A := ⟨_, rfl⟩
  rw [hA] at c5
  have HA := Px.hid hA
  have HC := Px.hid hc
  have HP := Px.hid (fun (w : World) (vs vo : Value) (h : Jr w b s lim q vs vo) => jpass_yes HOK.out.ctx (text_place ht).2 h hp)
  have hq2 := (pass_ok6 _ _ _ hp).2
  have HMU := Px.hid (fun (w : World) (vs vo : Value) (h : Jr w b s lim q2 vs vo) => jmust_yes (show q2 ≤ 140737488355327 by omega) h hmu)
  have HR := Px.hid (show ((D6.bumpTop x.out x.stack ++ [(⟨4, 0, []⟩ : Val)]).set x.out.length ⟨4, 0, l⟩) = (l1 ++ [(⟨4, 0, []⟩ : Val)]).set L ⟨4, 0, l⟩ by rw [hl1, ← hl1n, hL])
  clear hc hp hmu hq2
  clear h hok hol hlen hmay hi hov ht hl1 hl1n hL hps hsl hst hm hA
  go_enter Tryd.func33, Tryd.ntmps33
  go_wp2_with fail
  refine (HO.out ⟨4, 0, []⟩).mono ?_
  rintro r w1 ⟨rfl, vo1, hd⟩
  have H1 := Px.hid hd
  clear hd c5 c7
  go_wp2_with fail
  refine (HT.out _ _ H1.out.rep.jr).mono ?_
  rintro r w2 ⟨rfl, hj, hf⟩
  have H2 := Px.hid (H1.out.it hj hf)
  clear hj hf
  obtain ⟨go, co, hvo, o1, o2, k0, _, k2, kf⟩ := H2.out.rep.val (j := L) (a := ⟨4, 0, []⟩) (by simp only; rw [← HL.out]; simp)
  simp only [List.length_append, List.length_singleton, HL.out] at hvo o1
  subst hvo
  have c7 := H2.out.rep.jr.cells.2.2.2.2.2.2
  have c6 := H2.out.rep.jr.cells.2.2.2.2.2.1
  unfold maxLen at o2
  have kf2 := kf (L * 3 + 2)
  have hLL : (L : Int) < (L : Int) + 1 := by omega
  have n0 : (0 : Int) < (ps2.length : Int) + 1 := by omega
  have hbg : go ≠ b := fun e => H2.out.rep.nb (mem_jbl.2 (.inl (by rw [← e]; rfl)))
  have HBG := Px.hid hbg
  have hbl := H2.out.rep.lt
  clear kf k0 hbg
  obtain ⟨W3, hW3⟩ : ∃ W3, W3 = w2.setCell ⟨go, L * 3 + 2, none⟩ (S l) := ⟨_, rfl⟩
  have H3 := Px.hid (show JRun w b s lim _ vo _ { x with at_ := q, out := (l1 ++ [(⟨4, 0, []⟩ : Val)]).set L ⟨4, 0, l⟩ } W3 _ _ _ from by
    rw [hW3]
    exact H2.out.setVal (j := L) (a := ⟨4, 0, []⟩) (a' := ⟨4, 0, l⟩) (by simp only; rw [← HL.out]; simp) 2 (by decide) (S l) rfl)
  go_upto_region 6 with fail
  rw [← hW3]
  clear hW3 c7 c6 k2 kf2 hLL o1 o2
  have c6 := H3.out.rep.jr.cells.2.2.2.2.2.1
  go_quiet (fail)
  have H4 := Px.hid (H3.out.drewN nq)
  obtain ⟨W4, hW4⟩ : ∃ W4, W4 = W3.drewN nq := ⟨_, rfl⟩
  rw [← hW4] at H4 ⊢
  clear hW4 c6
  obtain ⟨_, t1, tf, t2, t3⟩ := H4.out.rep.topCells
  have tf1 := tf (ps2.length * 2 + 1)
  have HNM := Px.hid (H4.out.rep.parts.names (f, vn) (List.mem_cons_self ..))
  unfold maxLen at t3
  clear tf
  go_wp2_with fail
  refine (contains_any vn f.names l hnl _ HNM.out).mono ?_
  rintro r w5 ⟨rfl, rfl⟩
  rw [HC.out]
  obtain ⟨na, nc, hvn, _⟩ := HNM.out.len
  subst hvn
  obtain ⟨i0, hi0, hz0, hz1, hz2⟩ := info_parts Tryd.infoStr
  have hbl4 := H4.out.rep.lt
  have hgl4 : g < W4.heap.size := H4.out.rep.parts.stack.lt rfl
  have HNE := Px.hid (show (Value.slice na f.names.length nc).ownBlock ≠ some g from fun e => H4.out.rep.parts.split.2.2.1 g rfl (mem_nmB.2 ⟨_, List.mem_cons_self .., e⟩))
  go_wp2_with (at_builtin; go_must (refine wpList_append_lies _ rfl _ _ _ rfl 0 9 i0 _ 1 16 Tryd.underlying64 hi0 hz0 hz1 hz2 rfl (by omega) (.slice na f.names.length nc) f.names.length (f.names.flatMap cStr) rfl (HNM.out.alloc _) ⟨W4.heap.size, 0, none⟩ 1 1 (cStr l) rfl rfl (World.news_of_block (cs := #[S l]) (t := 9) (fr := (0, 0)) (heap_alloc_new W4 _)) (by simp [cStr, Value.oneCell']) (by omega) (by unfold maxLen; omega) (by omega) (by omega) (W4.heap.size + 1) (by simp) ?_))
  intro gg cc w6 hown hgrow hat hltg
  have k1 := grown_cell1 hgrow t1 HNE.out
  have e1 := grown_free1 hgrow t1 tf1 HNE.out
  have H6 := Px.hid (H4.out.putName hown (grown_alloc1 hgrow) (hat.elim .inl (fun e => .inr (by omega))))
  clear hown hgrow hat hltg t1 tf1 t2 t3 hgl4 hbl4
  go_wp2_with fail
  refine (HP.out _ _ _ H6.out.rep.jr).mono ?_
  rintro r w7 ⟨rfl, hj, hf⟩
  have H7 := Px.hid (H6.out.it hj hf)
  clear hj hf
  unfold byteV
  go_wp2_with fail
  refine (HMU.out _ _ _ H7.out.rep.jr).mono ?_
  rintro r w8 ⟨rfl, hj, hf⟩
  have H8 := Px.hid (H7.out.it hj hf)
  clear hj hf
  go_wp2
  go_ret
  have k := H8.out
  rw [HM.out.1] at k
  exact JVal.good (by rw [HR.out]) k
theorem jname_any (b : Nat) (s : Bytes) (lim : Lim) (x : D6.Dx) (w : World) (vs vo : Value) (ps : List (D6.Fm × Value)) (h : JRep w b s lim x vs vo ps) (hok : JOk s lim x) (hps : x.at_ < min s.length lim.b.toNat) (f : D6.Fm) (rest : List D6.Fm) (hst : x.stack = f :: rest) :
    Calls Tryd.prog 33 #[.pointer (some ⟨b, 0, none⟩)] w (JVal w b s lim vs vo ps (D6.name s lim x)) := by
  obtain ⟨RR, hRR⟩ : ∃ RR, RR = D6.name s lim x := ⟨_, rfl⟩
  rw [← hRR]
  unfold D6.name D6.one at hRR
  by_cases hi : (x.out.length : Int) = lim.i
  · rw [if_pos hi] at hRR
    rw [hRR]
    exact jname_full b s lim x w vs vo ps h hi
  · rw [if_neg hi] at hRR
    simp only at hRR
    cases ht : D6.text s lim x.at_ with
    | error e =>
      rw [ht] at hRR
      rw [hRR]
      exact jname_text b s lim x w vs vo ps h hok hps hi e ht
    | ok lq =>
      obtain ⟨l, q⟩ := lq
      rw [ht] at hRR
      simp only [hst] at hRR
      cases hc : f.names.contains l with
      | true =>
        rw [if_pos hc] at hRR
        rw [hRR]
        exact jname_twice b s lim x w vs vo ps h hok hps hi f rest hst l q ht hc
      | false =>
        rw [if_neg (by rw [hc]; decide)] at hRR
        cases hp : D6.pass s lim q with
        | error e =>
          rw [hp] at hRR
          rw [hRR]
          exact jname_pass b s lim x w vs vo ps h hok hps hi f rest hst l q ht hc e hp
        | ok q2 =>
          rw [hp] at hRR
          simp only at hRR
          cases hmu : D6.must s lim q2 58 with
          | error e =>
            rw [hmu] at hRR
            rw [hRR]
            exact jname_must b s lim x w vs vo ps h hok hps hi f rest hst l q ht hc q2 hp e hmu
          | ok q3 =>
            rw [hmu] at hRR
            simp only at hRR
            have k := jname_ok b s lim x w vs vo ps h hok hps hi f rest hst l q ht hc q2 hp q3 hmu
            rw [hRR, ← bumpTop_len x.out (f :: rest), setText_set]
            rw [hst, ← bumpTop_len x.out (f :: rest)] at k
            exact k
end Go.Proofs.YtahojodgmjmpnaaDoor

/-! What holds of the program's reader of package json between two steps is kept by a step. No walk here. -/
namespace Go.Proofs.YtahojodgmjmpnaaDoor
open Go.RowKit Go.Px

theorem word_place {s : Bytes} {lim : Lim} : ∀ (l : Bytes) (p q : Nat), p ≤ min s.length lim.b.toNat → D6.wordN s lim l p = .ok q → p ≤ q ∧ q ≤ min s.length lim.b.toNat
  | [], p, q, hp, h => by cases h; exact ⟨Nat.le_refl _, hp⟩
  | c :: r, p, q, hp, h => by
    rw [jwordN_cons, must_want] at h
    cases hw : D6.want s lim p with
    | error e => rw [hw] at h; cases h
    | ok z =>
      rw [hw] at h
      simp only at h
      have hlt := (want_lt6 hw).1
      by_cases hz : (z == c.toNat) = true
      · rw [if_pos hz] at h
        have := word_place r (p + 1) q (by omega) h
        omega
      · rw [if_neg hz] at h; cases h
theorem number_place {s : Bytes} {lim : Lim} {p q : Nat} (hp : p ≤ min s.length lim.b.toNat) (h : D6.number s lim p = .ok q) : p ≤ q ∧ q ≤ min s.length lim.b.toNat := by
  unfold D6.number at h
  cases hA : D6.numA s lim p with
  | error e => rw [hA] at h; cases h
  | ok q1 =>
    rw [hA] at h
    simp only at h
    have hq1 : p ≤ q1 ∧ q1 ≤ min s.length lim.b.toNat := by
      unfold D6.numA at hA
      have key : ∀ p0, p ≤ p0 → p0 ≤ min s.length lim.b.toNat → (if D6.peek s lim p0 == 48 then Except.ok (p0 + 1) else D6.digits s lim p0) = Except.ok q1 → p ≤ q1 ∧ q1 ≤ min s.length lim.b.toNat := by
        intro p0 h1 h2 h3
        by_cases hz : (D6.peek s lim p0 == 48) = true
        · rw [if_pos hz] at h3
          have := peek_lt (s := s) (lim := lim) (p := p0) (by rw [eq_of_beq hz]; decide)
          cases h3
          omega
        · rw [if_neg hz] at h3
          have := digits_le h2 h3
          omega
      by_cases hm : (D6.peek s lim p == 45) = true
      · rw [if_pos hm] at hA
        have := peek_lt (s := s) (lim := lim) (p := p) (by rw [eq_of_beq hm]; decide)
        exact key (p + 1) (by omega) (by omega) hA
      · rw [if_neg hm] at hA
        exact key p (Nat.le_refl _) hp hA
    cases hB : D6.numB s lim q1 with
    | error e => rw [hB] at h; cases h
    | ok q2 =>
      rw [hB] at h
      simp only at h
      have hq2 : q1 ≤ q2 ∧ q2 ≤ min s.length lim.b.toNat := by
        unfold D6.numB at hB
        by_cases hm : (D6.peek s lim q1 == 46) = true
        · rw [if_pos hm] at hB
          have := peek_lt (s := s) (lim := lim) (p := q1) (by rw [eq_of_beq hm]; decide)
          have := digits_le (by omega) hB
          omega
        · rw [if_neg hm] at hB
          cases hB
          omega
      unfold D6.numC at h
      by_cases hm : (D6.peek s lim q2 == 101 || D6.peek s lim q2 == 69) = true
      · rw [if_pos hm] at h
        have h0 : D6.peek s lim q2 ≠ 0 := by
          intro e
          rw [e] at hm
          exact absurd hm (by decide)
        have h1 := peek_lt h0
        by_cases hs : (D6.peek s lim (q2 + 1) == 43 || D6.peek s lim (q2 + 1) == 45) = true
        · rw [if_pos hs] at h
          have h0 : D6.peek s lim (q2 + 1) ≠ 0 := by
            intro e
            rw [e] at hs
            exact absurd hs (by decide)
          have h2 := peek_lt h0
          have := digits_le (by omega) h
          omega
        · rw [if_neg hs] at h
          have := digits_le (by omega) h
          omega
      · rw [if_neg hm] at h
        cases h
        omega
theorem bump_kids {l : List Val} {i : Nat} {a : Val} {L : Int} (h : ∀ a ∈ l, 0 ≤ a.kids ∧ a.kids ≤ L) (ha : a ∈ R6.bump l i 1) : 0 ≤ a.kids ∧ a.kids ≤ L + 1 := by
  unfold R6.bump at ha
  obtain ⟨j, hj⟩ := List.mem_iff_getElem?.1 ha
  rw [List.getElem?_modify] at hj
  cases hl : l[j]? with
  | none => rw [hl] at hj; simp at hj
  | some y =>
    rw [hl] at hj
    have hy := h y (List.mem_of_getElem? hl)
    by_cases hij : i = j
    · simp [hij] at hj
      rw [← hj]
      show 0 ≤ y.kids + 1 ∧ y.kids + 1 ≤ L + 1
      omega
    · simp [hij] at hj
      rw [← hj]
      omega
theorem bumpTop_kids {l : List Val} {st : List D6.Fm} {a : Val} {L : Int} (h : ∀ a ∈ l, 0 ≤ a.kids ∧ a.kids ≤ L) (ha : a ∈ D6.bumpTop l st) : 0 ≤ a.kids ∧ a.kids ≤ L + 1 := by
  cases st with
  | nil => have := h a ha; omega
  | cons f r => exact bump_kids h ha
theorem setText_last (o : List Val) (st : List D6.Fm) (a : Val) (t : Bytes) : R6.setText (D6.bumpTop o st ++ [a]) o.length t = D6.bumpTop o st ++ [{ a with text := t }] := by
  have h := setText_set (D6.bumpTop o st) a t
  rw [bumpTop_len] at h
  rw [h, ← bumpTop_len o st]
  simp
section
variable {s : Bytes} {lim : Lim} {x y : D6.Dx} {n q : Nat}
theorem JOk.at_ (h : JOk s lim x) (h2 : q ≤ min s.length lim.b.toNat) : JOk s lim { x with at_ := q } :=
  ⟨h.ctx, h2, h.ol, h.sl, h.no, h.kd, h.nm⟩
theorem JOk.push (h : JOk s lim x) (hi : ¬ (x.out.length : Int) = lim.i) (v : Val) (hv : v.kids = 0) (h2 : q ≤ min s.length lim.b.toNat) :
    JOk s lim { at_ := q, stack := x.stack, out := D6.bumpTop x.out x.stack ++ [v] } := by
  have hol := h.ol
  refine ⟨h.ctx, h2, ?_, h.sl, fun f hf => ?_, fun a ha => ?_, fun f hf => ?_⟩
  · show ((D6.bumpTop x.out x.stack ++ [v]).length : Int) ≤ lim.i
    rw [List.length_append, bumpTop_len]
    simp only [List.length_singleton]
    omega
  · show f.no < (D6.bumpTop x.out x.stack ++ [v]).length
    rw [List.length_append, bumpTop_len]
    have := h.no f hf
    omega
  · show 0 ≤ a.kids ∧ a.kids ≤ ((D6.bumpTop x.out x.stack ++ [v]).length : Int)
    rw [List.length_append, bumpTop_len]
    simp only [List.length_singleton]
    rcases List.mem_append.1 ha with ha | ha
    · have := bumpTop_kids h.kd ha
      omega
    · rw [List.mem_singleton.1 ha, hv]
      omega
  · show f.names.length ≤ (D6.bumpTop x.out x.stack ++ [v]).length
    rw [List.length_append, bumpTop_len]
    have := h.nm f hf
    omega
/-- Between two steps: which, and how the reader stands. -/
structure JInv (s : Bytes) (lim : Lim) (n : Nat) (x : D6.Dx) : Prop where
  ok : JOk s lim x
  le : n ≤ 5
  st : n ≠ 0 → n ≠ 5 → x.stack ≠ []
theorem over_inv (h : JOk s lim y) (hx : x.stack = y.stack) : JInv s lim (D6.over x) y := by
  unfold D6.over
  cases hs : x.stack with
  | nil => exact ⟨h, by decide, fun _ e => absurd rfl e⟩
  | cons f r => exact ⟨h, Nat.le_succ 4, fun _ _ => by rw [← hx, hs]; simp⟩
theorem end_inv (h : JOk s lim x) (hl : x.at_ < min s.length lim.b.toNat) : JInv s lim (D6.end_ x).1 (D6.end_ x).2 := by
  have hk : JOk s lim (D6.end_ x).2 := ⟨h.ctx, by show x.at_ + 1 ≤ min s.length lim.b.toNat; omega, h.ol, by show (x.stack.tail.length : Int) ≤ lim.d; have := h.sl; rw [List.length_tail]; omega,
    fun f hf => h.no f (List.mem_of_mem_tail hf), h.kd, fun f hf => h.nm f (List.mem_of_mem_tail hf)⟩
  unfold D6.end_ at *
  cases hs : x.stack.tail with
  | nil => rw [hs] at hk; exact ⟨hk, by simp, fun _ e => by simp at e⟩
  | cons f r => rw [hs] at hk; exact ⟨hk, by simp, fun _ _ => by simp⟩
theorem opens_inv (h : JOk s lim x) (hl : x.at_ < min s.length lim.b.toNat) {c : Nat} (ho : D6.opens lim x c = .ok (n, y)) : JInv s lim n y := by
  unfold D6.opens D6.one at ho
  by_cases hd : (x.out.length : Int) < lim.i ∧ (x.stack.length : Int) = lim.d
  · rw [if_pos hd] at ho; cases ho
  · rw [if_neg hd] at ho
    by_cases hi : (x.out.length : Int) = lim.i
    · rw [if_pos hi] at ho; cases ho
    · rw [if_neg hi] at ho
      have hol := h.ol
      have hsl := h.sl
      have hp := h.push hi ⟨if c == 91 then 5 else 6, 0, []⟩ rfl (q := x.at_ + 1) (by omega)
      simp only [Except.ok.injEq, Prod.mk.injEq] at ho
      obtain ⟨rfl, rfl⟩ := ho
      refine ⟨⟨hp.ctx, hp.al, hp.ol, ?_, ?_, hp.kd, ?_⟩, by split <;> decide, fun _ _ => by simp⟩
      · show ((x.stack.length + 1 : Nat) : Int) ≤ lim.d
        omega
      · intro f hf
        rcases List.mem_cons.1 hf with rfl | hf
        · show x.out.length < (D6.bumpTop x.out x.stack ++ [_]).length
          rw [List.length_append, bumpTop_len]
          simp
        · exact hp.no f hf
      · intro f hf
        rcases List.mem_cons.1 hf with rfl | hf
        · exact Nat.zero_le _
        · exact hp.nm f hf
theorem value_inv (h : JOk s lim x) (hl : x.at_ < min s.length lim.b.toNat) {c : Nat} (ho : D6.value s lim x c = .ok (n, y)) : JInv s lim n y := by
  have word : ∀ (k : Int) (l : Bytes), D6.wordV s lim x k l = .ok (n, y) → JInv s lim n y := by
    intro k l ho
    unfold D6.wordV D6.one at ho
    by_cases hi : (x.out.length : Int) = lim.i
    · rw [if_pos hi] at ho; cases ho
    · rw [if_neg hi] at ho
      simp only at ho
      cases hw : D6.wordN s lim l x.at_ with
      | error e => rw [hw] at ho; cases ho
      | ok q =>
        rw [hw] at ho
        simp only [Except.ok.injEq, Prod.mk.injEq] at ho
        obtain ⟨rfl, rfl⟩ := ho
        have := word_place l x.at_ q (by omega) hw
        exact over_inv (h.push hi ⟨k, 0, []⟩ rfl this.2) rfl
  unfold D6.value at ho
  split at ho
  · exact opens_inv h hl ho
  split at ho
  · unfold D6.strV D6.one at ho
    by_cases hi : (x.out.length : Int) = lim.i
    · rw [if_pos hi] at ho; cases ho
    · rw [if_neg hi] at ho
      simp only at ho
      cases ht : D6.text s lim x.at_ with
      | error e => rw [ht] at ho; cases ho
      | ok lq =>
        obtain ⟨l, q⟩ := lq
        rw [ht] at ho
        simp only [Except.ok.injEq, Prod.mk.injEq] at ho
        obtain ⟨rfl, rfl⟩ := ho
        have := text_place ht
        rw [setText_last]
        exact over_inv (h.push hi ⟨4, 0, l⟩ rfl this.2) rfl
  split at ho
  · unfold D6.numV D6.one at ho
    by_cases hi : (x.out.length : Int) = lim.i
    · rw [if_pos hi] at ho; cases ho
    · rw [if_neg hi] at ho
      simp only at ho
      cases ht : D6.number s lim x.at_ with
      | error e => rw [ht] at ho; cases ho
      | ok q =>
        rw [ht] at ho
        simp only [Except.ok.injEq, Prod.mk.injEq] at ho
        obtain ⟨rfl, rfl⟩ := ho
        have := number_place (by omega) ht
        rw [setText_last]
        exact over_inv (h.push hi ⟨3, 0, _⟩ rfl this.2) rfl
  split at ho
  · exact word _ _ ho
  split at ho
  · exact word _ _ ho
  split at ho
  · exact word _ _ ho
  · cases ho
theorem name_inv (h : JOk s lim x) (ho : D6.name s lim x = .ok (n, y)) : JInv s lim n y := by
  unfold D6.name D6.one at ho
  by_cases hi : (x.out.length : Int) = lim.i
  · rw [if_pos hi] at ho; cases ho
  · rw [if_neg hi] at ho
    simp only at ho
    cases ht : D6.text s lim x.at_ with
    | error e => rw [ht] at ho; cases ho
    | ok lq =>
      obtain ⟨l, q⟩ := lq
      rw [ht] at ho
      obtain ⟨st, hst⟩ : ∃ st, x.stack = st := ⟨_, rfl⟩
      cases st with
      | nil => simp only [hst] at ho; cases ho
      | cons f rest =>
        simp only [hst] at ho
        by_cases hc : f.names.contains l = true
        · rw [if_pos hc] at ho; cases ho
        · rw [if_neg hc] at ho
          cases hp : D6.pass s lim q with
          | error e => rw [hp] at ho; cases ho
          | ok q2 =>
            rw [hp] at ho
            simp only [must_want] at ho
            cases hw : D6.want s lim q2 with
            | error e => rw [hw] at ho; cases ho
            | ok z =>
              rw [hw] at ho
              simp only at ho
              by_cases hz : (z == 58) = true
              · rw [if_pos hz] at ho
                simp only [Except.ok.injEq, Prod.mk.injEq] at ho
                obtain ⟨rfl, rfl⟩ := ho
                have h1 := text_place ht
                have h2 := pass_ok6 _ _ _ hp
                have hk := h.push hi ⟨4, 0, l⟩ rfl (q := q2 + 1) (by omega)
                have e := setText_last x.out x.stack ⟨4, 0, []⟩ l
                rw [hst] at e hk
                rw [e]
                refine ⟨⟨hk.ctx, hk.al, hk.ol, hk.sl, ?_, hk.kd, ?_⟩, by decide, fun e => absurd rfl e⟩
                · intro g hg
                  rcases List.mem_cons.1 hg with rfl | hg
                  · exact hk.no f (List.mem_cons_self ..)
                  · exact hk.no g (List.mem_cons_of_mem _ hg)
                · intro g hg
                  rcases List.mem_cons.1 hg with rfl | hg
                  · have := h.nm f (by rw [hst]; exact List.mem_cons_self ..)
                    show (f.names ++ [l]).length ≤ (D6.bumpTop x.out (f :: rest) ++ [_]).length
                    rw [List.length_append, List.length_singleton, List.length_append, bumpTop_len, List.length_singleton]
                    omega
                  · exact hk.nm g (List.mem_cons_of_mem _ hg)
              · rw [if_neg hz] at ho; cases ho
theorem object_stack (h : D6.object x = true) : x.stack ≠ [] := by
  intro e
  unfold D6.object at h
  rw [e] at h
  cases h
theorem step_inv (h : JInv s lim n x) (hl : x.at_ < min s.length lim.b.toNat) {c n' : Nat} (ho : D6.step s lim n x c = .ok (n', y)) : JInv s lim n' y := by
  unfold D6.step at ho
  split at ho
  · have e : D6.end_ x = (n', y) := by cases ho; rfl
    have := end_inv h.ok hl
    rw [e] at this
    exact this
  split at ho
  · exact value_inv h.ok hl ho
  split at ho
  · simp only [Except.ok.injEq, Prod.mk.injEq] at ho
    obtain ⟨rfl, rfl⟩ := ho
    refine ⟨h.ok.at_ (by omega), by split <;> decide, fun h1 _ => ?_⟩
    by_cases hb : D6.object x = true
    · exact object_stack hb
    · rw [if_neg hb] at h1; exact absurd rfl h1
  split at ho
  · exact name_inv h.ok ho
  · cases ho
end
end Go.Proofs.YtahojodgmjmpnaaDoor

/-! The program's reader of package json against the reference's: arrays, objects, whole texts (plain law). No program is named here. -/
namespace Go.Px.D6
open R6 (at_ setText setKind bump)
open J6 (bl bl_len bl_app bl_bump bl_kind Ext v0 vbump_len bump_app setText_last setKind_last bump_two bump_kind)
variable {s : Bytes} {lim : Lim} {x y : R6.St} {p q n d : Nat} {st : List Fm} {P Q : List Nat}
abbrev Rslt := Nat → Option (Except Flt Dx)
def Runs (r e : Rslt) : Prop := ∃ n, ∀ m, r (n + m) = e m
theorem Runs.refl {r : Rslt} : Runs r r := ⟨0, fun m => by rw [Nat.zero_add]⟩
theorem Runs.trans {r e f : Rslt} (h : Runs r e) (k : Runs e f) : Runs r f := by
  obtain ⟨a, h⟩ := h
  obtain ⟨b, k⟩ := k
  exact ⟨a + b, fun m => by rw [Nat.add_assoc, h, k]⟩
theorem Runs.step {r e : Rslt} (h : ∀ m, r (m + 1) = e m) : Runs r e := ⟨1, fun m => by rw [Nat.add_comm]; exact h m⟩
theorem Runs.of {r e : Rslt} (h : ∀ m, r m = e m) : Runs r e := ⟨0, fun m => by rw [Nat.zero_add]; exact h m⟩
def bad (e : Flt) : Rslt := fun _ => some (.error e)
def loopR (s : Bytes) (lim : Lim) (y : Nx) : Rslt := fun m => loopN s lim m y
def afterS (s : Bytes) (lim : Lim) (r : Except Flt Nx) : Rslt := fun m => match r with
  | .error e => some (.error e)
  | .ok y => loopN s lim m y
theorem after_ok (y : Nx) : afterS s lim (.ok y) = loopR s lim y := rfl
theorem loop_bad {a : Nat} {o : List Val} {e : Flt} (hn : n ≠ 5) (h : pass s lim a = .error e) : Runs (loopR s lim (n, ⟨a, st, o⟩)) (bad e) := Runs.step fun m => by
  unfold loopR loopN
  rw [if_neg (by simpa using hn)]
  simp only
  rw [h]
  rfl
theorem loop_step {a : Nat} {o : List Val} (hn : n ≠ 5) (h : pass s lim a = .ok q) : Runs (loopR s lim (n, ⟨a, st, o⟩)) (afterS s lim (step s lim n ⟨q, st, o⟩ (at_ s q))) := Runs.step fun m => by
  unfold loopR
  conv => lhs; unfold loopN
  rw [if_neg (by simpa using hn)]
  simp only
  rw [h]
  simp only
  cases step s lim n ⟨q, st, o⟩ (at_ s q) with
  | error e => rfl
  | ok y => rfl
def hold (st : List Fm) (P : List Nat) : List Nat := match st with
  | [] => P
  | h :: _ => h.no :: P
/-- Ahead of a value. -/
structure VIn (s : Bytes) (lim : Lim) (d : Nat) (x : R6.St) (p n : Nat) (st : List Fm) (P : List Nat) : Prop where
  ps : p < s.length
  pb : (p : Int) < lim.b
  nx : n = 0 ∨ (n = 1 ∧ at_ s p ≠ 93)
  ix : ∀ i ∈ P, i < x.out.length
  hx : ∀ h, st.head? = some h → h.no < x.out.length
  dep : ((st.length + d : Nat) : Int) = lim.d
  oi : (x.out.length : Int) ≤ lim.i
/-- Behind a value. -/
structure VOut (s : Bytes) (lim : Lim) (x y : R6.St) (p q : Nat) : Prop where
  le : p ≤ q
  qs : q ≤ s.length
  qb : (q : Int) ≤ lim.b
  ext : Ext x.out y.out
  oi : (y.out.length : Int) ≤ lim.i
def nextN (st : List Fm) : Nat := if st.isEmpty then 5 else 4
def Sim (s : Bytes) (lim : Lim) (r : Rslt) (x : R6.St) (p : Nat) (st : List Fm) (P : List Nat) (res : Option Nat × R6.St) : Prop := match res with
  | (none, y) => Runs r (bad (flt y))
  | (some q, y) => Runs r (loopR s lim (nextN st, ⟨q, st, bl P y.out⟩)) ∧ VOut s lim x y p q
def VSim (s : Bytes) (lim : Lim) (d : Nat) (rc : R6.St → Nat → Option Nat × R6.St) : Prop := ∀ x p n st P, VIn s lim d x p n st P →
  Sim s lim (afterS s lim (step s lim n ⟨p, st, bl P x.out⟩ (at_ s p))) x p st (hold st P) (rc x p)
theorem VIn.hold (h : VIn s lim d x p n st P) : ∀ i ∈ hold st P, i < x.out.length := by
  intro i hi
  cases st with
  | nil => exact h.ix i hi
  | cons a st =>
    rcases List.mem_cons.1 hi with e | e
    · rw [e]; exact h.hx a rfl
    · exact h.ix i e
theorem step_value (h : VIn s lim d x p n st P) (D : Dx) : step s lim n D (at_ s p) = value s lim D (at_ s p) := by
  unfold step
  have h1 : ((n == 1 && at_ s p == 93) || (n == 3 && at_ s p == 125) || (n == 4 && ((at_ s p == 125 && object D) || (at_ s p == 93 && !object D)))) = false := by
    rcases h.nx with e | ⟨e, k⟩
    · rw [e]; rfl
    · have : (at_ s p == 93) = false := by simpa using k
      rw [e, this]
      rfl
  have h2 : (n == 0 || n == 1) = true := by rcases h.nx with e | ⟨e, _⟩ <;> rw [e] <;> rfl
  rw [h1, if_neg (by decide), if_pos h2]
theorem bumpTop_bl (l : List Val) : bumpTop (bl P l) st = bl (hold st P) l := by
  cases st with
  | nil => rfl
  | cons a st => rfl
theorem one_full (v : Val) (h : (x.out.length : Int) = lim.i) : one lim ⟨p, st, bl P x.out⟩ v = .error (p, 10) := by
  unfold one
  rw [if_pos (by simp only [bl_len]; exact h)]
theorem one_ok (h : ∀ i ∈ hold st P, i < x.out.length) (v : Val) (hl : ¬ (x.out.length : Int) = lim.i) : one lim ⟨p, st, bl P x.out⟩ v = .ok ⟨p, st, bl (hold st P) (x.out ++ [v])⟩ := by
  unfold one
  rw [if_neg (by simp only [bl_len]; exact hl)]
  simp only
  rw [bumpTop_bl, bl_app _ _ _ h]
theorem setText_bl (l : List Val) (a : Val) (t : Bytes) (P : List Nat) (h : ∀ i ∈ P, i < l.length) : setText (bl P (l ++ [a])) (bl Q l).length t = bl P (l ++ [{ a with text := t }]) := by
  rw [bl_len, bl_app _ _ _ h, bl_app _ _ _ h]
  exact setText_last _ _ _ _ (by rw [bl_len])
theorem oi_snoc {l : List Val} {v : Val} (h : (l.length : Int) ≤ lim.i) (hl : ¬ (l.length : Int) = lim.i) : ((l ++ [v]).length : Int) ≤ lim.i := by
  rw [List.length_append, List.length_singleton]
  omega
/-- A string as a value. -/
theorem str_val (h : VIn s lim d x p n st P) (hl : ¬ (x.out.length : Int) = lim.i) :
    Sim s lim (afterS s lim (strV s lim ⟨p, st, bl P x.out⟩)) x p st (hold st P) (match R6.text s lim { x with out := x.out ++ [⟨4, 0, []⟩] } p with
      | (none, y) => (none, y)
      | (some (b, q), y) => (some q, { y with out := setText y.out x.out.length b })) := by
  unfold strV
  rw [one_ok h.hold _ hl]
  simp only
  cases ht : R6.text s lim { x with out := x.out ++ [⟨4, 0, []⟩] } p with
  | mk o z =>
    cases o with
    | none =>
      rw [text_no h.pb h.ps ht]
      exact Runs.refl
    | some v =>
      obtain ⟨b, q⟩ := v
      obtain ⟨k1, k2, k3, k4, k5⟩ := text_yes h.pb h.ps ht
      rw [k1]
      simp only
      have ho : z.out = x.out ++ [⟨4, 0, []⟩] := k5.1
      have e1 : setText (bl (hold st P) (x.out ++ [⟨4, 0, []⟩])) (bl P x.out).length b = bl (hold st P) (x.out ++ [⟨4, 0, b⟩]) := setText_bl _ _ _ _ h.hold
      have e2 : setText z.out x.out.length b = x.out ++ [⟨4, 0, b⟩] := by rw [ho]; exact setText_last _ _ _ _ rfl
      rw [e1, e2]
      exact ⟨Runs.refl, by omega, k3, k2, Ext.snoc _ _, oi_snoc h.oi hl⟩
theorem word_val (h : VIn s lim d x p n st P) (hl : ¬ (x.out.length : Int) = lim.i) (k : Int) (l : Bytes) :
    Sim s lim (afterS s lim (wordV s lim ⟨p, st, bl P x.out⟩ k l)) x p st (hold st P) (R6.wordN s lim l { x with out := x.out ++ [⟨k, 0, []⟩] } p) := by
  unfold wordV
  rw [one_ok h.hold _ hl]
  simp only
  have hw := wordN_eq (s := s) (lim := lim) l p { x with out := x.out ++ [⟨k, 0, []⟩] } (Int.le_of_lt h.pb)
  cases ht : R6.wordN s lim l { x with out := x.out ++ [⟨k, 0, []⟩] } p with
  | mk o z =>
    rw [ht] at hw
    cases o with
    | none =>
      simp only at hw
      rw [hw]
      exact Runs.refl
    | some q =>
      simp only at hw
      obtain ⟨k1, k2, k3⟩ := R6.wordN_ok _ _ _ (Nat.le_of_lt h.ps) ht
      rw [hw.1]
      simp only
      have ho : z.out = x.out ++ [⟨k, 0, []⟩] := k1.1
      refine ⟨?_, k2, k3, hw.2, by rw [ho]; exact Ext.snoc _ _, by rw [ho]; exact oi_snoc h.oi hl⟩
      rw [ho]
      exact Runs.refl
theorem num_val (h : VIn s lim d x p n st P) (hl : ¬ (x.out.length : Int) = lim.i) (hc : at_ s p = 45 ∨ R6.digit (at_ s p) = true) :
    Sim s lim (afterS s lim (numV s lim ⟨p, st, bl P x.out⟩)) x p st (hold st P) (R6.numVal s lim { x with out := x.out ++ [⟨3, 0, []⟩] } p x.out.length) := by
  unfold numV
  rw [one_ok h.hold _ hl]
  simp only
  have hw := numVal_eq (s := s) (lim := lim) (x := { x with out := x.out ++ [⟨3, 0, []⟩] }) (me := x.out.length) h.pb h.ps hc
  cases ht : R6.numVal s lim { x with out := x.out ++ [⟨3, 0, []⟩] } p x.out.length with
  | mk o z =>
    rw [ht] at hw
    cases o with
    | none =>
      simp only at hw
      rw [hw]
      exact Runs.refl
    | some q =>
      simp only at hw
      obtain ⟨w1, w2, w3⟩ := hw
      have hk := R6.numVal_ok (s := s) (lim := lim) (u := x.out) (a := ⟨3, 0, []⟩) (x := { x with out := x.out ++ [⟨3, 0, []⟩] }) rfl h.ps h.pb ht
      rw [w1]
      simp only
      have e1 : setText (bl (hold st P) (x.out ++ [⟨3, 0, []⟩])) (bl P x.out).length ((s.take q).drop p) = bl (hold st P) (x.out ++ [⟨3, 0, (s.take q).drop p⟩]) := setText_bl _ _ _ _ h.hold
      have e2 : z.out = x.out ++ [⟨3, 0, (s.take q).drop p⟩] := by rw [w3]; exact setText_last _ _ _ _ rfl
      rw [e1]
      refine ⟨?_, hk.le, hk.ps, w2, by rw [e2]; exact Ext.snoc _ _, by rw [e2]; exact oi_snoc h.oi hl⟩
      rw [e2]
      exact Runs.refl
/-- Values without elements. -/
theorem plain_val (h : VIn s lim d x p n st P) (hl : ¬ (x.out.length : Int) = lim.i) (hf : R6.firsts (at_ s p) = true) (h123 : at_ s p ≠ 123) (h91 : at_ s p ≠ 91) :
    Sim s lim (afterS s lim (value s lim ⟨p, st, bl P x.out⟩ (at_ s p))) x p st (hold st P) (R6.plainV s lim { x with out := x.out ++ [⟨0, 0, []⟩] } (at_ s p) p x.out.length) := by
  obtain ⟨D, hD⟩ : ∃ D : Dx, D = ⟨p, st, bl P x.out⟩ := ⟨_, rfl⟩
  have hs := str_val h hl
  have hw := word_val h hl
  have hn := num_val h hl
  rw [← hD] at hs hw hn ⊢
  have e0 : ¬ (at_ s p == 123 || at_ s p == 91) = true := by simp [h123, h91]
  unfold R6.plainV
  simp only [setKind_last]
  by_cases c1 : at_ s p = 34
  · rw [if_pos (by simpa using c1)]
    have hv : value s lim D (at_ s p) = strV s lim D := by unfold value; rw [if_neg e0, if_pos (by simpa using c1)]
    rw [hv]
    exact hs
  rw [if_neg (by simpa using c1)]
  by_cases c2 : at_ s p = 116
  · rw [if_pos (by simpa using c2)]
    have hv : value s lim D (at_ s p) = wordV s lim D 2 [116, 114, 117, 101] := by rw [c2]; rfl
    rw [hv]
    exact hw 2 _
  rw [if_neg (by simpa using c2)]
  by_cases c3 : at_ s p = 102
  · rw [if_pos (by simpa using c3)]
    have hv : value s lim D (at_ s p) = wordV s lim D 1 [102, 97, 108, 115, 101] := by rw [c3]; rfl
    rw [hv]
    exact hw 1 _
  rw [if_neg (by simpa using c3)]
  by_cases c4 : at_ s p = 110
  · rw [if_pos (by simpa using c4)]
    have hv : value s lim D (at_ s p) = wordV s lim D 0 [110, 117, 108, 108] := by rw [c4]; rfl
    rw [hv]
    exact hw 0 _
  rw [if_neg (by simpa using c4)]
  have hc : at_ s p = 45 ∨ R6.digit (at_ s p) = true := by
    unfold R6.firsts at hf
    simp only [Bool.or_eq_true, beq_iff_eq] at hf
    rcases hf with ((((((w | w) | w) | w) | w) | w) | w) | w
    · exact absurd w h123
    · exact absurd w h91
    · exact absurd w c1
    · exact .inl w
    · exact absurd w c2
    · exact absurd w c3
    · exact absurd w c4
    · exact .inr w
  have hv : value s lim D (at_ s p) = numV s lim D := by unfold value; rw [if_neg e0, if_neg (by simpa using c1), if_pos (by simpa using hc)]
  rw [hv]
  exact hn hc
theorem value_full (hl : (x.out.length : Int) = lim.i) (hf : R6.firsts (at_ s p) = true) : value s lim ⟨p, st, bl P x.out⟩ (at_ s p) = .error (p, 10) := by
  have ho := fun v => one_full (x := x) (p := p) (st := st) (P := P) v hl
  unfold value opens strV numV wordV
  simp only [ho]
  by_cases c0 : (at_ s p == 123 || at_ s p == 91) = true
  · rw [if_pos c0]
    split <;> rfl
  rw [if_neg c0]
  by_cases c1 : (at_ s p == 34) = true
  · rw [if_pos c1]
  rw [if_neg c1]
  by_cases c2 : (at_ s p == 45 || R6.digit (at_ s p)) = true
  · rw [if_pos c2]
  rw [if_neg c2]
  by_cases c3 : (at_ s p == 116) = true
  · rw [if_pos c3]
  rw [if_neg c3]
  by_cases c4 : (at_ s p == 102) = true
  · rw [if_pos c4]
  rw [if_neg c4]
  by_cases c5 : (at_ s p == 110) = true
  · rw [if_pos c5]
  exfalso
  unfold R6.firsts at hf
  simp only [Bool.or_eq_true, beq_iff_eq, not_or] at hf c0 c1 c2 c3 c4 c5
  rcases hf with ((((((w | w) | w) | w) | w) | w) | w) | w
  · exact c0.1 w
  · exact c0.2 w
  · exact c1 w
  · exact c2.1 w
  · exact c3 w
  · exact c4 w
  · exact c5 w
  · exact c2.2 w
theorem value_bad (D : Dx) (hf : R6.firsts (at_ s p) = false) : value s lim D (at_ s p) = .error (D.at_, 9) := by
  unfold R6.firsts at hf
  simp only [Bool.or_eq_false_iff] at hf
  obtain ⟨⟨⟨⟨⟨⟨⟨w1, w2⟩, w3⟩, w4⟩, w5⟩, w6⟩, w7⟩, w8⟩ := hf
  unfold value
  rw [w1, w2, w3, w4, w5, w6, w7, w8]
  rfl
theorem object_kind {o : List Val} {a : Nat} {f : Fm} {k : Int} (h : (o.getD f.no v0).kind = k) : object ⟨a, f :: st, o⟩ = (k == 6) := by
  unfold object
  simp only
  rw [show (⟨0, 0, []⟩ : Val) = v0 from rfl, h]
theorem opens_ok (h : VIn s lim (d + 1) x p n st P) (hl : ¬ (x.out.length : Int) = lim.i) (c : Nat) :
    opens lim ⟨p, st, bl P x.out⟩ c = .ok (if c == 91 then 1 else 3, ⟨p + 1, ⟨x.out.length, []⟩ :: st, bl (hold st P) (x.out ++ [⟨if c == 91 then 5 else 6, 0, []⟩])⟩) := by
  unfold opens
  have := h.dep
  rw [if_neg (by rintro ⟨_, e⟩; simp only at e; omega), one_ok h.hold _ hl]
  simp only
  rw [bl_len]
theorem opens_deep (h : VIn s lim 0 x p n st P) (hl : ¬ (x.out.length : Int) = lim.i) (c : Nat) : opens lim ⟨p, st, bl P x.out⟩ c = .error (p, 10) := by
  unfold opens
  have := h.dep
  have := h.oi
  rw [if_pos ⟨by simp only [bl_len]; omega, by simp only; omega⟩]
theorem step_end {D : Dx} {c : Nat} (h : (n = 1 ∧ c = 93) ∨ (n = 3 ∧ c = 125) ∨ (n = 4 ∧ c = (if object D then 125 else 93))) : step s lim n D c = .ok (end_ D) := by
  unfold step
  rw [if_pos]
  rcases h with ⟨e1, e2⟩ | ⟨e1, e2⟩ | ⟨e1, e2⟩
  · rw [e1, e2]; rfl
  · rw [e1, e2]; rfl
  · rw [e1, e2]
    cases object D <;> rfl
theorem step_comma {D : Dx} : step s lim 4 D 44 = .ok (if object D then 2 else 0, { D with at_ := D.at_ + 1 }) := by
  unfold step
  rw [if_neg (by simp), if_neg (by simp), if_pos (by simp)]
theorem step_odd {D : Dx} {c : Nat} (h1 : c ≠ (if object D then 125 else 93)) (h2 : c ≠ 44) : step s lim 4 D c = .error (D.at_, 9) := by
  unfold step
  rw [if_neg, if_neg (by simp), if_neg (by simp [h2]), if_neg (by simp)]
  cases ho : object D with
  | true => rw [ho] at h1; simp at h1; simp [h1]
  | false => rw [ho] at h1; simp at h1; simp [h1]
theorem end_eq {a : Nat} {f : Fm} {o : List Val} : end_ ⟨a, f :: st, o⟩ = (nextN st, ⟨a + 1, st, o⟩) := rfl
/-- Behind what closes: as behind a value. -/
structure COut (s : Bytes) (lim : Lim) (x y : R6.St) (q : Nat) : Prop where
  qs : q ≤ s.length
  qb : (q : Int) ≤ lim.b
  ext : Ext x.out y.out
  oi : (y.out.length : Int) ≤ lim.i
theorem array_loop {me : Nat} {rc : R6.St → Nat → Option Nat × R6.St} (hrc : VSim s lim d rc) : ∀ (m p n : Nat) (x : R6.St), s.length + 1 ≤ m + p → VIn s lim d x p n (⟨me, []⟩ :: st) Q → (x.out.getD me v0).kind = 5 →
    Sim s lim (afterS s lim (step s lim n ⟨p, ⟨me, []⟩ :: st, bl Q x.out⟩ (at_ s p))) x p st Q (R6.arrayN s lim rc me m x p) := by
  intro m
  induction m with
  | zero => intro p n x hm h; have := h.ps; omega
  | succ m ih =>
    intro p n x hm h hk
    have hml : me < x.out.length := h.hx _ rfl
    unfold R6.arrayN
    have hv := hrc x p n _ Q h
    cases hr : rc x p with
    | mk o y =>
      rw [hr] at hv
      cases o with
      | none => exact hv
      | some q =>
        obtain ⟨hv, ho⟩ := hv
        obtain ⟨y1, hy1⟩ : ∃ y1 : R6.St, y1 = { y with out := bump y.out me 1 } := ⟨_, rfl⟩
        have hgo : bl (hold (⟨me, []⟩ :: st) Q) y.out = bl Q y1.out := by
          rw [hy1, bl_bump]
          rfl
        have hyk : (y1.out.getD me v0).kind = 5 := by rw [hy1]; exact (bump_kind _ _ _ _).trans ((ho.ext.2 me hml).trans hk)
        have hob : ∀ a : Nat, object ⟨a, ⟨me, []⟩ :: st, bl Q y1.out⟩ = false := fun a => object_kind (f := ⟨me, []⟩) (k := 5) ((bl_kind _ _ _).trans hyk)
        rw [hgo] at hv
        simp only
        rw [← hy1]
        have hxe : Ext x.out y1.out := by rw [hy1]; exact ho.ext.trans (Ext.bump _ _ _)
        have hyo : (y1.out.length : Int) ≤ lim.i := by rw [hy1]; show ((bump y.out me 1).length : Int) ≤ _; rw [vbump_len]; exact ho.oi
        cases hp : R6.pass s lim y1 q with
        | mk o z =>
          cases o with
          | none => exact hv.trans (loop_bad (n := 4) (by decide) (pass_no ho.qb ho.qs hp))
          | some q1 =>
            obtain ⟨i1, i2, i3, i4, i5, i6⟩ := pass_yes ho.qb ho.qs hp
            have hzo : z.out = y1.out := i6.1
            have hls := hv.trans (loop_step (n := 4) (by decide) i1)
            simp only
            by_cases c1 : at_ s q1 = 93
            · rw [if_pos (by simpa using c1)]
              rw [step_end (.inr (.inr ⟨rfl, by rw [hob, c1]; rfl⟩)), after_ok, end_eq] at hls
              refine ⟨?_, by have := ho.le; omega, i4, by omega, ?_, ?_⟩
              · show Runs _ (loopR s lim (nextN st, ⟨q1 + 1, st, bl Q z.out⟩))
                rw [hzo]
                exact hls
              · show Ext x.out z.out; rw [hzo]; exact hxe
              · show (z.out.length : Int) ≤ _; rw [hzo]; exact hyo
            · rw [if_neg (by simpa using c1)]
              by_cases c2 : at_ s q1 = 44
              · rw [if_neg (by simp [c2])]
                rw [c2, step_comma, hob, after_ok] at hls
                simp only at hls
                cases hp2 : R6.pass s lim z (q1 + 1) with
                | mk o u =>
                  cases o with
                  | none => exact hls.trans (loop_bad (by decide) (pass_no (by omega) (by omega) hp2))
                  | some q2 =>
                    obtain ⟨j1, j2, j3, j4, j5, j6⟩ := pass_yes (by omega) (by omega) hp2
                    have huo : u.out = y1.out := j6.1.trans hzo
                    have hl2 := hls.trans (loop_step (n := 0) (by decide) j1)
                    have hle := ho.le
                    have hu : VIn s lim d u q2 0 (⟨me, []⟩ :: st) Q := ⟨j4, j2, .inl rfl, fun i hi => by rw [huo]; exact Nat.lt_of_lt_of_le (h.ix i hi) hxe.1, fun b hb => by rw [huo]; exact Nat.lt_of_lt_of_le (h.hx b hb) hxe.1, h.dep, by rw [huo]; exact hyo⟩
                    have hi := ih q2 0 u (by omega) hu (by rw [huo]; exact hyk)
                    rw [huo] at hi
                    simp only
                    cases hl3 : R6.arrayN s lim rc me m u q2 with
                    | mk o v =>
                      rw [hl3] at hi
                      cases o with
                      | none => exact hl2.trans hi
                      | some q3 =>
                        obtain ⟨k1, k2⟩ := hi
                        exact ⟨hl2.trans k1, by have := k2.le; omega, k2.qs, k2.qb, hxe.trans (by have := k2.ext; rw [huo] at this; exact this), k2.oi⟩
              · rw [if_pos (by simpa using c2)]
                rw [step_odd (by rw [hob]; exact c1) c2] at hls
                exact hls
/-- A whole array. -/
theorem array_val {rc : R6.St → Nat → Option Nat × R6.St} (hrc : VSim s lim d rc) (h : VIn s lim (d + 1) x p n st P) (hl : ¬ (x.out.length : Int) = lim.i) (hc : at_ s p = 91) :
    Sim s lim (afterS s lim (value s lim ⟨p, st, bl P x.out⟩ (at_ s p))) x p st (hold st P) (R6.array s lim rc x.out.length { x with out := x.out ++ [⟨5, 0, []⟩] } (p + 1)) := by
  obtain ⟨x1, hx1⟩ : ∃ x1 : R6.St, x1 = R6.frame { x with out := x.out ++ [⟨5, 0, []⟩] } 1 := ⟨_, rfl⟩
  have hx1o : x1.out = x.out ++ [⟨5, 0, []⟩] := by rw [hx1]; rfl
  have hv : value s lim ⟨p, st, bl P x.out⟩ (at_ s p) = .ok (1, ⟨p + 1, ⟨x.out.length, []⟩ :: st, bl (hold st P) x1.out⟩) := by
    rw [hc, hx1o]
    exact opens_ok h hl 91
  rw [hv, after_ok]
  have hk1 : (x1.out.getD x.out.length v0).kind = 5 := by rw [hx1o]; simp [List.getD_eq_getElem?_getD]
  have hext1 : Ext x.out x1.out := by rw [hx1o]; exact Ext.snoc _ _
  have hoi1 : (x1.out.length : Int) ≤ lim.i := by rw [hx1o]; exact oi_snoc h.oi hl
  have hl1 : x1.out.length = x.out.length + 1 := by rw [hx1o, List.length_append]; rfl
  have hps := h.ps
  have hpb := h.pb
  unfold R6.array
  rw [← hx1]
  cases hp : R6.pass s lim x1 (p + 1) with
  | mk o z =>
    cases o with
    | none => exact loop_bad (by decide) (pass_no (by omega) (by omega) hp)
    | some q =>
      obtain ⟨i1, i2, i3, i4, i5, i6⟩ := pass_yes (by omega) (by omega) hp
      have hzo : z.out = x1.out := i6.1
      have hls := loop_step (st := ⟨x.out.length, []⟩ :: st) (o := bl (hold st P) x1.out) (n := 1) (by decide) i1
      simp only
      by_cases c1 : at_ s q = 93
      · rw [if_pos (by simpa using c1)]
        rw [step_end (.inl ⟨rfl, c1⟩), after_ok, end_eq] at hls
        refine ⟨?_, by omega, i4, by omega, ?_, ?_⟩
        · show Runs _ (loopR s lim (nextN st, ⟨q + 1, st, bl (hold st P) z.out⟩))
          rw [hzo]
          exact hls
        · show Ext x.out z.out; rw [hzo]; exact hext1
        · show (z.out.length : Int) ≤ _; rw [hzo]; exact hoi1
      · rw [if_neg (by simpa using c1)]
        have hu : VIn s lim d z q 1 (⟨x.out.length, []⟩ :: st) (hold st P) := by
          refine ⟨i4, i2, .inr ⟨rfl, c1⟩, fun i hi => ?_, fun b hb => ?_, ?_, by rw [hzo]; exact hoi1⟩
          · rw [hzo, hl1]; have := h.hold i hi; omega
          · simp only [List.head?_cons, Option.some.injEq] at hb
            rw [← hb, hzo, hl1]
            show x.out.length < _
            omega
          · have := h.dep
            rw [List.length_cons]
            omega
        have hi := array_loop hrc (s.length + 1 - q) q 1 z (by omega) hu (by rw [hzo]; exact hk1)
        rw [hzo] at hi
        cases hl2 : R6.arrayN s lim rc x.out.length (s.length + 1 - q) z q with
        | mk o v =>
          rw [hl2] at hi
          cases o with
          | none => exact hls.trans hi
          | some q3 =>
            obtain ⟨k1, k2⟩ := hi
            exact ⟨hls.trans k1, by have := k2.le; omega, k2.qs, k2.qb, hext1.trans (by have := k2.ext; rw [hzo] at this; exact this), k2.oi⟩
/-- Ahead of a name. -/
structure NIn (s : Bytes) (lim : Lim) (d me : Nat) (x : R6.St) (p n : Nat) (st : List Fm) (Q : List Nat) : Prop where
  ps : p < s.length
  pb : (p : Int) < lim.b
  nx : n = 2 ∨ (n = 3 ∧ at_ s p ≠ 125)
  ix : ∀ i ∈ Q, i < x.out.length
  ml : me < x.out.length
  kd : (x.out.getD me v0).kind = 6
  dep : ((st.length + 1 + d : Nat) : Int) = lim.d
  oi : (x.out.length : Int) ≤ lim.i
theorem step_name {me : Nat} (h : NIn s lim d me x p n st Q) (D : Dx) : step s lim n D (at_ s p) = if at_ s p == 34 then name s lim D else .error (D.at_, 9) := by
  unfold step
  have h1 : ((n == 1 && at_ s p == 93) || (n == 3 && at_ s p == 125) || (n == 4 && ((at_ s p == 125 && object D) || (at_ s p == 93 && !object D)))) = false := by
    rcases h.nx with e | ⟨e, k⟩
    · rw [e]; rfl
    · have : (at_ s p == 125) = false := by simpa using k
      rw [e, this]
      rfl
  have h2 : (n == 0 || n == 1) = false := by rcases h.nx with e | ⟨e, _⟩ <;> rw [e] <;> rfl
  have h3 : (n == 4 && at_ s p == 44) = false := by rcases h.nx with e | ⟨e, _⟩ <;> rw [e] <;> rfl
  have h4 : (n != 4 && at_ s p == 34) = (at_ s p == 34) := by rcases h.nx with e | ⟨e, _⟩ <;> rw [e] <;> rfl
  rw [h1, h2, h3, h4, if_neg (by decide), if_neg (by decide), if_neg (by decide)]
/-- A name and what it names. -/
theorem member_val {me : Nat} {names : List Bytes} {rc : R6.St → Nat → Option Nat × R6.St} (hrc : VSim s lim d rc) (h : NIn s lim d me x p n st Q) :
    match R6.member s lim rc x p names with
    | (none, y) => Runs (afterS s lim (step s lim n ⟨p, ⟨me, names⟩ :: st, bl Q x.out⟩ (at_ s p))) (bad (flt y))
    | (some (b, q), y) => Runs (afterS s lim (step s lim n ⟨p, ⟨me, names⟩ :: st, bl Q x.out⟩ (at_ s p))) (loopR s lim (4, ⟨q, ⟨me, names ++ [b]⟩ :: st, bl Q (bump y.out me 2)⟩)) ∧ VOut s lim x y p q := by
  rw [step_name h]
  unfold R6.member
  cases hw : R6.is s lim x p 34 with
  | mk o u =>
    cases o with
    | false =>
      have hm := must_no (Int.le_of_lt h.pb) hw
      have hne : ¬ (at_ s p == 34) = true := by
        intro e
        unfold must want at hm
        have h1 := h.ps
        have h2 := h.pb
        rw [if_neg (by omega), if_neg (by omega)] at hm
        simp only at hm
        rw [if_pos e] at hm
        cases hm
      simp only
      rw [if_neg hne]
      have hf : flt u = (((p : Nat) : Int), 9) := by
        unfold must want at hm
        have h1 := h.ps
        have h2 := h.pb
        rw [if_neg (by omega), if_neg (by omega)] at hm
        simp only at hm
        rw [if_neg hne] at hm
        exact (Except.error.inj hm).symm
      rw [hf]
      exact Runs.refl
    | true =>
      obtain ⟨_, _, _, hk0⟩ := must_yes hw
      obtain ⟨_, _, _, h34⟩ := R6.is_ok hw
      have huo : u.out = x.out := hk0.1
      simp only
      rw [show (if (at_ s p == 34) = true then name s lim ⟨p, ⟨me, names⟩ :: st, bl Q x.out⟩ else .error ((p : Nat), 9)) = name s lim ⟨p, ⟨me, names⟩ :: st, bl Q x.out⟩ from if_pos (by simpa using h34)]
      unfold name
      by_cases hl : (x.out.length : Int) = lim.i
      · rw [if_pos (by rw [huo]; omega), one_full _ hl]
        exact Runs.refl
      · have hoi := h.oi
        have hhold : ∀ i ∈ hold (⟨me, names⟩ :: st) Q, i < x.out.length := by
          intro i hi
          rcases List.mem_cons.1 hi with e | e
          · rw [e]; exact h.ml
          · exact h.ix i e
        rw [if_neg (by rw [huo]; omega), one_ok hhold _ hl]
        simp only
        cases ht : R6.text s lim u p with
        | mk o z =>
          cases o with
          | none =>
            simp only
            rw [text_no h.pb h.ps ht]
            exact Runs.refl
          | some v =>
            obtain ⟨b, q⟩ := v
            obtain ⟨k1, k2, k3, k4, k5⟩ := text_yes h.pb h.ps ht
            have hzo : z.out = x.out := k5.1.trans huo
            simp only
            rw [k1]
            simp only
            by_cases hc : names.contains b = true
            · rw [if_pos hc, if_pos hc]
              exact Runs.refl
            · rw [if_neg hc, if_neg hc]
              cases hp : R6.pass s lim { z with out := z.out ++ [⟨4, 0, b⟩] } q with
              | mk o w =>
                cases o with
                | none =>
                  simp only
                  rw [pass_no k2 k3 hp]
                  exact Runs.refl
                | some q1 =>
                  obtain ⟨i1, i2, i3, i4, i5, i6⟩ := pass_yes k2 k3 hp
                  have hwo : w.out = x.out ++ [⟨4, 0, b⟩] := by rw [← hzo]; exact i6.1
                  simp only
                  rw [i1]
                  simp only
                  cases hi : R6.is s lim w q1 58 with
                  | mk o v =>
                    cases o with
                    | false =>
                      simp only
                      rw [must_no (Int.le_of_lt i2) hi]
                      exact Runs.refl
                    | true =>
                      obtain ⟨m1, m2, m3, m4⟩ := must_yes hi
                      have hvo : v.out = x.out ++ [⟨4, 0, b⟩] := m4.1.trans hwo
                      simp only
                      rw [m1]
                      simp only
                      rw [setText_bl _ _ _ _ hhold, after_ok]
                      have hext : Ext x.out v.out := by rw [hvo]; exact Ext.snoc _ _
                      have hvl : (v.out.length : Int) ≤ lim.i := by rw [hvo]; exact oi_snoc h.oi hl
                      show match (match R6.pass s lim v (q1 + 1) with
                        | (none, v) => (none, v)
                        | (some q, v) => match rc v q with
                          | (none, v) => (none, v)
                          | (some q, v) => (some (b, q), v) : Option (Bytes × Nat) × R6.St) with
                        | (none, y) => Runs _ (bad (flt y))
                        | (some (b, q), y) => Runs _ (loopR s lim (4, ⟨q, ⟨me, names ++ [b]⟩ :: st, bl Q (bump y.out me 2)⟩)) ∧ VOut s lim x y p q
                      have hst : ∀ z : List Val, bl (hold (⟨me, names⟩ :: st) Q) z = bl (me :: Q) z := fun z => rfl
                      rw [hst, ← hvo]
                      cases hp2 : R6.pass s lim v (q1 + 1) with
                      | mk o v2 =>
                        cases o with
                        | none => exact loop_bad (by decide) (pass_no (by omega) (by omega) hp2)
                        | some q2 =>
                          obtain ⟨j1, j2, j3, j4, j5, j6⟩ := pass_yes (by omega) (by omega) hp2
                          have hv2 : v2.out = v.out := j6.1
                          have hls := loop_step (st := ⟨me, names ++ [b]⟩ :: st) (o := bl (me :: Q) v.out) (n := 0) (by decide) j1
                          have hml : me < v.out.length := Nat.lt_of_lt_of_le h.ml hext.1
                          have hu : VIn s lim d v2 q2 0 (⟨me, names ++ [b]⟩ :: st) (me :: Q) := by
                            refine ⟨j4, j2, .inl rfl, fun i hi => ?_, fun a ha => ?_, ?_, by rw [hv2]; exact hvl⟩
                            · rw [hv2]
                              rcases List.mem_cons.1 hi with e | e
                              · rw [e]; exact hml
                              · exact Nat.lt_of_lt_of_le (h.ix i e) hext.1
                            · simp only [List.head?_cons, Option.some.injEq] at ha
                              rw [← ha, hv2]
                              exact hml
                            · have := h.dep
                              rw [List.length_cons]
                              omega
                          have hv := hrc v2 q2 0 _ _ hu
                          rw [hv2] at hv
                          simp only
                          cases hr : rc v2 q2 with
                          | mk o y =>
                            rw [hr] at hv
                            cases o with
                            | none => exact hls.trans hv
                            | some q3 =>
                              obtain ⟨n1, n2⟩ := hv
                              have e1 : bl (hold (⟨me, names ++ [b]⟩ :: st) (me :: Q)) y.out = bl Q (bump y.out me 2) := by
                                rw [bl_bump, ← bump_two]
                                rfl
                              rw [e1] at n1
                              exact ⟨hls.trans n1, by have := n2.le; omega, n2.qs, n2.qb, hext.trans (by have := n2.ext; rw [hv2] at this; exact this), n2.oi⟩
theorem object_loop {me : Nat} {rc : R6.St → Nat → Option Nat × R6.St} (hrc : VSim s lim d rc) : ∀ (m p n : Nat) (x : R6.St) (names : List Bytes), s.length + 1 ≤ m + p → NIn s lim d me x p n st Q →
    Sim s lim (afterS s lim (step s lim n ⟨p, ⟨me, names⟩ :: st, bl Q x.out⟩ (at_ s p))) x p st Q (R6.objectN s lim rc me m x p names) := by
  intro m
  induction m with
  | zero => intro p n x names hm h; have := h.ps; omega
  | succ m ih =>
    intro p n x names hm h
    unfold R6.objectN
    have hv := member_val (names := names) hrc h
    cases hr : R6.member s lim rc x p names with
    | mk o y =>
      rw [hr] at hv
      cases o with
      | none => exact hv
      | some v =>
        obtain ⟨b, q⟩ := v
        obtain ⟨hv, ho⟩ := hv
        obtain ⟨y1, hy1⟩ : ∃ y1 : R6.St, y1 = { y with out := bump y.out me 2 } := ⟨_, rfl⟩
        have hgo : bump y.out me 2 = y1.out := by rw [hy1]
        have hyk : (y1.out.getD me v0).kind = 6 := by rw [hy1]; exact (bump_kind _ _ _ _).trans ((ho.ext.2 me h.ml).trans h.kd)
        have hob : ∀ a : Nat, object ⟨a, ⟨me, names ++ [b]⟩ :: st, bl Q y1.out⟩ = true := fun a => object_kind (f := ⟨me, names ++ [b]⟩) (k := 6) ((bl_kind _ _ _).trans hyk)
        rw [hgo] at hv
        simp only
        rw [← hy1]
        have hxe : Ext x.out y1.out := by rw [hy1]; exact ho.ext.trans (Ext.bump _ _ _)
        have hyo : (y1.out.length : Int) ≤ lim.i := by rw [hy1]; show ((bump y.out me 2).length : Int) ≤ _; rw [vbump_len]; exact ho.oi
        cases hp : R6.pass s lim y1 q with
        | mk o z =>
          cases o with
          | none => exact hv.trans (loop_bad (n := 4) (by decide) (pass_no ho.qb ho.qs hp))
          | some q1 =>
            obtain ⟨i1, i2, i3, i4, i5, i6⟩ := pass_yes ho.qb ho.qs hp
            have hzo : z.out = y1.out := i6.1
            have hls := hv.trans (loop_step (n := 4) (by decide) i1)
            simp only
            by_cases c1 : at_ s q1 = 125
            · rw [if_pos (by simpa using c1)]
              rw [step_end (.inr (.inr ⟨rfl, by rw [hob, c1]; rfl⟩)), after_ok, end_eq] at hls
              refine ⟨?_, by have := ho.le; omega, i4, by omega, ?_, ?_⟩
              · show Runs _ (loopR s lim (nextN st, ⟨q1 + 1, st, bl Q z.out⟩))
                rw [hzo]
                exact hls
              · show Ext x.out z.out; rw [hzo]; exact hxe
              · show (z.out.length : Int) ≤ _; rw [hzo]; exact hyo
            · rw [if_neg (by simpa using c1)]
              by_cases c2 : at_ s q1 = 44
              · rw [if_neg (by simp [c2])]
                rw [c2, step_comma, hob, after_ok] at hls
                simp only at hls
                cases hp2 : R6.pass s lim z (q1 + 1) with
                | mk o u =>
                  cases o with
                  | none => exact hls.trans (loop_bad (by decide) (pass_no (by omega) (by omega) hp2))
                  | some q2 =>
                    obtain ⟨j1, j2, j3, j4, j5, j6⟩ := pass_yes (by omega) (by omega) hp2
                    have huo : u.out = y1.out := j6.1.trans hzo
                    have hl2 := hls.trans (loop_step (n := 2) (by decide) j1)
                    have hle := ho.le
                    have hu : NIn s lim d me u q2 2 st Q := ⟨j4, j2, .inl rfl, fun i hi => by rw [huo]; exact Nat.lt_of_lt_of_le (h.ix i hi) hxe.1, by rw [huo]; exact Nat.lt_of_lt_of_le h.ml hxe.1, by rw [huo]; exact hyk, h.dep, by rw [huo]; exact hyo⟩
                    have hi := ih q2 2 u (names ++ [b]) (by omega) hu
                    rw [huo] at hi
                    simp only
                    cases hl3 : R6.objectN s lim rc me m u q2 (names ++ [b]) with
                    | mk o v =>
                      rw [hl3] at hi
                      cases o with
                      | none => exact hl2.trans hi
                      | some q3 =>
                        obtain ⟨k1, k2⟩ := hi
                        exact ⟨hl2.trans k1, by have := k2.le; omega, k2.qs, k2.qb, hxe.trans (by have := k2.ext; rw [huo] at this; exact this), k2.oi⟩
              · rw [if_pos (by simpa using c2)]
                rw [step_odd (by rw [hob]; exact c1) c2] at hls
                exact hls
/-- A whole object. -/
theorem object_val {rc : R6.St → Nat → Option Nat × R6.St} (hrc : VSim s lim d rc) (h : VIn s lim (d + 1) x p n st P) (hl : ¬ (x.out.length : Int) = lim.i) (hc : at_ s p = 123) :
    Sim s lim (afterS s lim (value s lim ⟨p, st, bl P x.out⟩ (at_ s p))) x p st (hold st P) (R6.object s lim rc x.out.length { x with out := x.out ++ [⟨6, 0, []⟩] } (p + 1)) := by
  obtain ⟨x1, hx1⟩ : ∃ x1 : R6.St, x1 = R6.frame { x with out := x.out ++ [⟨6, 0, []⟩] } 1 := ⟨_, rfl⟩
  have hx1o : x1.out = x.out ++ [⟨6, 0, []⟩] := by rw [hx1]; rfl
  have hv : value s lim ⟨p, st, bl P x.out⟩ (at_ s p) = .ok (3, ⟨p + 1, ⟨x.out.length, []⟩ :: st, bl (hold st P) x1.out⟩) := by
    rw [hc, hx1o]
    exact opens_ok h hl 123
  rw [hv, after_ok]
  have hk1 : (x1.out.getD x.out.length v0).kind = 6 := by rw [hx1o]; simp [List.getD_eq_getElem?_getD]
  have hext1 : Ext x.out x1.out := by rw [hx1o]; exact Ext.snoc _ _
  have hoi1 : (x1.out.length : Int) ≤ lim.i := by rw [hx1o]; exact oi_snoc h.oi hl
  have hl1 : x1.out.length = x.out.length + 1 := by rw [hx1o, List.length_append]; rfl
  have hps := h.ps
  have hpb := h.pb
  unfold R6.object
  rw [← hx1]
  cases hp : R6.pass s lim x1 (p + 1) with
  | mk o z =>
    cases o with
    | none => exact loop_bad (by decide) (pass_no (by omega) (by omega) hp)
    | some q =>
      obtain ⟨i1, i2, i3, i4, i5, i6⟩ := pass_yes (by omega) (by omega) hp
      have hzo : z.out = x1.out := i6.1
      have hls := loop_step (st := ⟨x.out.length, []⟩ :: st) (o := bl (hold st P) x1.out) (n := 3) (by decide) i1
      simp only
      by_cases c1 : at_ s q = 125
      · rw [if_pos (by simpa using c1)]
        rw [step_end (.inr (.inl ⟨rfl, c1⟩)), after_ok, end_eq] at hls
        refine ⟨?_, by omega, i4, by omega, ?_, ?_⟩
        · show Runs _ (loopR s lim (nextN st, ⟨q + 1, st, bl (hold st P) z.out⟩))
          rw [hzo]
          exact hls
        · show Ext x.out z.out; rw [hzo]; exact hext1
        · show (z.out.length : Int) ≤ _; rw [hzo]; exact hoi1
      · rw [if_neg (by simpa using c1)]
        have hu : NIn s lim d x.out.length z q 3 st (hold st P) := by
          refine ⟨i4, i2, .inr ⟨rfl, c1⟩, fun i hi => ?_, by rw [hzo]; omega, by rw [hzo]; exact hk1, ?_, by rw [hzo]; exact hoi1⟩
          · rw [hzo, hl1]; have := h.hold i hi; omega
          · have := h.dep
            omega
        have hi := object_loop hrc (s.length + 1 - q) q 3 z [] (by omega) hu
        rw [hzo] at hi
        cases hl2 : R6.objectN s lim rc x.out.length (s.length + 1 - q) z q [] with
        | mk o v =>
          rw [hl2] at hi
          cases o with
          | none => exact hls.trans hi
          | some q3 =>
            obtain ⟨k1, k2⟩ := hi
            exact ⟨hls.trans k1, by have := k2.le; omega, k2.qs, k2.qb, hext1.trans (by have := k2.ext; rw [hzo] at this; exact this), k2.oi⟩
/-- Any value. -/
theorem value_sim : ∀ d, VSim s lim d (R6.value s lim d) := by
  have wanted : ∀ {x : R6.St} {p : Nat}, p < s.length → (p : Int) < lim.b → ∃ y, R6.want s lim x p = (true, y) ∧ y.out = x.out := by
    intro x p h1 h2
    rcases J6.want_cases s lim x p with ⟨_, _, e⟩ | ⟨c1, _, _⟩ | ⟨c1, _, _⟩
    · exact ⟨_, e, rfl⟩
    · exact absurd ⟨h1, h2⟩ c1
    · exact absurd ⟨h1, h2⟩ c1
  intro d
  induction d with
  | zero =>
    intro x p n st P h
    obtain ⟨y, hw, hyo⟩ := wanted (x := x) h.ps h.pb
    have hy : VIn s lim 0 y p n st P := ⟨h.ps, h.pb, h.nx, by rw [hyo]; exact h.ix, by rw [hyo]; exact h.hx, h.dep, by rw [hyo]; exact h.oi⟩
    have hoi := hy.oi
    rw [step_value h]
    unfold R6.value
    rw [hw, ← hyo]
    simp only
    show Sim s lim _ x p st _ _
    by_cases hf : R6.firsts (at_ s p) = true
    · rw [if_neg (by rw [hf]; decide)]
      by_cases hl : (y.out.length : Int) = lim.i
      · rw [if_pos (by simp; omega), value_full hl hf]
        exact Runs.refl
      · by_cases hc : at_ s p = 123 ∨ at_ s p = 91
        · rw [if_pos (by simp [hc])]
          have e1 : value s lim ⟨p, st, bl P y.out⟩ (at_ s p) = opens lim ⟨p, st, bl P y.out⟩ (at_ s p) := by
            unfold value
            rw [if_pos (by simpa using hc)]
          rw [e1, opens_deep hy hl]
          exact Runs.refl
        · rw [if_neg (by simp only [Bool.or_eq_true, decide_eq_true_eq, beq_iff_eq]; rintro (w | w); omega; exact hc w)]
          have k := plain_val hy hl hf (fun e => hc (.inl e)) (fun e => hc (.inr e))
          unfold Sim at k ⊢
          split <;> rename_i hm <;> rw [hm] at k
          · exact k
          · exact ⟨k.1, k.2.le, k.2.qs, k.2.qb, by rw [← hyo]; exact k.2.ext, k.2.oi⟩
    · rw [if_pos (by simpa using hf), value_bad _ (by simpa using hf)]
      exact Runs.refl
  | succ d ih =>
    intro x p n st P h
    obtain ⟨y, hw, hyo⟩ := wanted (x := x) h.ps h.pb
    have hy : VIn s lim (d + 1) y p n st P := ⟨h.ps, h.pb, h.nx, by rw [hyo]; exact h.ix, by rw [hyo]; exact h.hx, h.dep, by rw [hyo]; exact h.oi⟩
    have hoi := hy.oi
    rw [step_value h]
    unfold R6.value
    rw [hw, ← hyo]
    simp only
    show Sim s lim _ x p st _ _
    have fin : ∀ {r : Rslt} {res : Option Nat × R6.St}, Sim s lim r y p st (hold st P) res → Sim s lim r x p st (hold st P) res := by
      intro r res k
      obtain ⟨o, v⟩ := res
      cases o with
      | none => exact k
      | some q => exact ⟨k.1, k.2.le, k.2.qs, k.2.qb, by rw [← hyo]; exact k.2.ext, k.2.oi⟩
    by_cases hf : R6.firsts (at_ s p) = true
    · rw [if_neg (by rw [hf]; decide)]
      by_cases hl : (y.out.length : Int) = lim.i
      · rw [if_pos (by omega), value_full hl hf]
        exact Runs.refl
      · rw [if_neg (by omega)]
        by_cases hc : at_ s p = 123
        · rw [if_pos (by simpa using hc), setKind_last]
          exact fin (object_val ih hy hl hc)
        · rw [if_neg (by simpa using hc)]
          by_cases hc2 : at_ s p = 91
          · rw [if_pos (by simpa using hc2), setKind_last]
            exact fin (array_val ih hy hl hc2)
          · rw [if_neg (by simpa using hc2)]
            exact fin (plain_val hy hl hf hc hc2)
    · rw [if_pos (by simpa using hf), value_bad _ (by simpa using hf)]
      exact Runs.refl
theorem restN_eq : ∀ (m p : Nat) (x : R6.St), (p : Int) ≤ lim.b → match R6.restN s lim m x p with
    | (false, y) => restN s lim m p = .error (flt y)
    | (true, y) => restN s lim m p = .ok () ∧ y.out = x.out ∧ y.r.err = x.r.err ∧ y.r.place = x.r.place := by
  intro m
  induction m with
  | zero => intro p x hp; exact ⟨rfl, rfl, rfl, rfl⟩
  | succ m ih =>
    intro p x hp
    unfold R6.restN restN
    by_cases hlt : p < s.length
    · rw [if_pos hlt, if_pos hlt]
      cases hw : R6.want s lim x p with
      | mk b y =>
        cases b with
        | false => simp only; rw [want_no hp hw]
        | true =>
          obtain ⟨h1, hk, h2, h3⟩ := want_yes hw
          have hye : y.r.err = x.r.err ∧ y.r.place = x.r.place := by
            rcases J6.want_cases s lim x p with ⟨_, _, e⟩ | ⟨c1, _, _⟩ | ⟨c1, _, _⟩
            · rw [e] at hw; cases hw; exact ⟨rfl, rfl⟩
            · exact absurd ⟨h2, h3⟩ c1
            · exact absurd ⟨h2, h3⟩ c1
          simp only
          rw [h1]
          simp only
          by_cases hb : R6.blank (at_ s p) = true
          · rw [if_pos hb, if_pos hb]
            have k := ih (p + 1) y (by omega)
            cases hr : R6.restN s lim m y (p + 1) with
            | mk o z =>
              rw [hr] at k
              cases o with
              | false => exact k
              | true => exact ⟨k.1, k.2.1.trans hk.1, k.2.2.1.trans hye.1, k.2.2.2.trans hye.2⟩
          · rw [if_neg hb, if_neg hb]
            rfl
    · rw [if_neg hlt, if_neg hlt]
      exact ⟨rfl, rfl, rfl, rfl⟩
end Go.Px.D6

/-! The program's reader of package json tells what the reference's reader tells (plain law). No program is named here. -/
namespace Go.Px.D6
open R6 (at_)
variable {s : Bytes} {lim : Lim} {x y z : R6.St} {p q q2 : Nat}
/-- A value that is read leaves no fault. -/
theorem read_clean (hm : lim.may = true) (hp : R6.pass s lim R6.start 0 = (some q, z)) (hr : R6.value s lim lim.d.toNat z q = (some q2, y)) : y.r.err = 0 ∧ y.r.place = 0 := by
  have hmay := J6.may_of hm
  have ha : J6.At s lim 0 (J6.init lim) := ⟨rfl, rfl, Nat.zero_le _, by omega, rfl⟩
  have hx : J6.RAt s lim 0 R6.start := ⟨Nat.le_refl _, Nat.zero_le _, (fun h => by cases h), rfl, rfl, rfl⟩
  have hps := J6.pass_sim (s := s) (lim := lim) (s.length + 1) 0 R6.start (J6.init lim) (by omega) ha hx rfl rfl (by show (0 : Nat) ≠ 6; decide)
  unfold R6.pass at hp
  rw [Nat.sub_zero] at hp
  rw [hp] at hps
  obtain ⟨i1, i2, i3, i4, i5, i6, i7⟩ := hps
  have hin : J6.VIn s lim lim.d.toNat z q { J6.init lim with n := q } [] := by
    refine ⟨i6, ⟨by rw [i5]; exact Nat.le_succ _, by rw [i5]; exact Nat.le_refl _, fun _ => ⟨i2, i3⟩, by rw [i5]; rfl, by rw [i5]; rfl, by rw [i5]; rfl⟩, by rw [i5], i4, by rw [i5]; rfl, rfl, .inl rfl, by rw [i5]; rfl, (fun i hi => by cases hi), (fun h hh => by cases hh), ?_, ?_⟩
    · show ((0 + lim.d.toNat : Nat) : Int) = lim.d
      omega
    · rw [i5]
      show ((0 : Nat) : Int) ≤ lim.i
      omega
  have hv := J6.value_sim (s := s) (lim := lim) (by omega) lim.d.toNat z q { J6.init lim with n := q } [] hin
  rw [hr] at hv
  obtain ⟨g, hg⟩ := hv
  exact ⟨hg.r.err, hg.r.place⟩
/-- What Decode hands back, out of how its reading ended. -/
def ends (r : Except Flt (List Val)) : List Val × Int × Int := match r with
  | .error e => ([], e.1, e.2)
  | .ok l => (l, 0, 0)
def rests (s : Bytes) (lim : Lim) (r : Except Flt Dx) : Except Flt (List Val) := match r with
  | .error e => .error e
  | .ok x => match restN s lim (s.length + 1 - x.at_) x.at_ with
    | .error e => .error e
    | .ok _ => .ok x.out
theorem run_of {m : Nat} {r : Except Flt Dx} (h : loopN s lim m (0, ⟨0, [], []⟩) = some r) : run s lim m = some (rests s lim r) := by
  unfold run
  rw [h]
  unfold rests
  cases r with
  | error e => rfl
  | ok x =>
    simp only
    cases restN s lim (s.length + 1 - x.at_) x.at_ with
    | error e => rfl
    | ok u => rfl
theorem run_ref (s : Bytes) (lim : Lim) (hm : lim.may = true) : ∃ m r, run s lim m = some r ∧ R6.decode s lim = ends r := by
  have hmay := J6.may_of hm
  have hdec : R6.decode s lim = ((R6.read s lim).1, (R6.read s lim).2.place, (R6.read s lim).2.err) := by unfold R6.decode; rw [if_pos hm]
  rw [hdec]
  unfold R6.read
  cases hp : R6.pass s lim R6.start 0 with
  | mk o z =>
    cases o with
    | none =>
      have h0 := loop_bad (s := s) (lim := lim) (n := 0) (st := []) (o := []) (by decide) (pass_no (by omega) (Nat.zero_le _) hp)
      obtain ⟨n, h0⟩ := h0
      exact ⟨n, .error (flt z), run_of (h0 0), rfl⟩
    | some q =>
      obtain ⟨i1, i2, i3, i4, i5, i6⟩ := pass_yes (by omega) (Nat.zero_le _) hp
      have h0 := loop_step (s := s) (lim := lim) (n := 0) (st := []) (o := []) (by decide) i1
      have hzo : z.out = [] := i6.1
      have hin : VIn s lim lim.d.toNat z q 0 [] [] := ⟨i4, i2, .inl rfl, (fun i hi => by cases hi), (fun h hh => by cases hh), by show ((0 + lim.d.toNat : Nat) : Int) = lim.d; omega, by rw [hzo]; show ((0 : Nat) : Int) ≤ lim.i; omega⟩
      have hv := value_sim lim.d.toNat z q 0 [] [] hin
      rw [hzo] at hv
      simp only
      cases hr : R6.value s lim lim.d.toNat z q with
      | mk o y =>
        rw [hr] at hv
        cases o with
        | none =>
          obtain ⟨n, h1⟩ := h0.trans hv
          exact ⟨n, .error (flt y), run_of (h1 0), rfl⟩
        | some q2 =>
          obtain ⟨hv, ho⟩ := hv
          obtain ⟨n, h1⟩ := h0.trans hv
          have h2 : loopN s lim (n + 1) (0, ⟨0, [], []⟩) = some (.ok ⟨q2, [], y.out⟩) := h1 1
          have hrun := run_of h2
          obtain ⟨c1, c2⟩ := read_clean hm hp hr
          have hre := restN_eq (s := s) (lim := lim) (s.length + 1 - q2) q2 y ho.qb
          unfold rests at hrun
          simp only at hrun ⊢
          cases hl : R6.restN s lim (s.length + 1 - q2) y q2 with
          | mk o u =>
            rw [hl] at hre
            cases o with
            | false =>
              rw [hre] at hrun
              exact ⟨n + 1, _, hrun, rfl⟩
            | true =>
              rw [hre.1] at hrun
              refine ⟨n + 1, _, hrun, ?_⟩
              show (u.out, u.r.place, u.r.err) = (y.out, 0, 0)
              rw [hre.2.1, hre.2.2.1, hre.2.2.2, c1, c2]
end Go.Px.D6

/-! The walk over the program's read (package json). Printed by gen_nm.py. -/
namespace Go.Proofs.YtahojodgmjmpnaaDoor
open Go.RowKit Go.Px

/-- What read leaves. -/
def JRead (w : World) (b : Nat) (s : Bytes) (lim : Lim) (vs vo : Value) (ps : List (D6.Fm × Value)) (res : Except D6.Flt D6.Dx) (r : Ending) (w' : World) : Prop := match res with
  | .error e => r = jpanics e ∧ Fr (foot b (jbl vo vs ps)) w w'
  | .ok y => r = .returned (.tuple #[]) ∧ (∃ vs' vo' ps', JRun w b s lim vs vo ps y w' vs' vo' ps') ∧ JOk s lim y
theorem JRead.bad {w w' : World} {b : Nat} {s : Bytes} {lim : Lim} {vs vo : Value} {ps : List (D6.Fm × Value)} {res : Except D6.Flt D6.Dx} {e : D6.Flt} (h : some (Except.error e) = some res) (hf : Fr (foot b (jbl vo vs ps)) w w') : JRead w b s lim vs vo ps res (jpanics e) w' := by
  cases h; exact ⟨rfl, hf⟩
section
variable {s : Bytes} {lim : Lim} {x : D6.Dx} {c : Nat}
theorem stepV0 : D6.step s lim 0 x c = D6.value s lim x c := by simp [D6.step]
theorem stepV1 (h : c ≠ 93) : D6.step s lim 1 x c = D6.value s lim x c := by simp [D6.step, h]
theorem stepN2 (h : c = 34) : D6.step s lim 2 x c = D6.name s lim x := by simp [D6.step, h]
theorem stepN3 (h : c = 34) : D6.step s lim 3 x c = D6.name s lim x := by simp [D6.step, h]
theorem stepW2 (h : c ≠ 34) : D6.step s lim 2 x c = .error ((x.at_ : Nat), 9) := by simp [D6.step, h]
theorem stepW3 (h : c ≠ 34) (h2 : c ≠ 125) : D6.step s lim 3 x c = .error ((x.at_ : Nat), 9) := by simp [D6.step, h, h2]
end
theorem object_top {o : List Val} {a : Nat} {f : D6.Fm} {st : List D6.Fm} {y : Val} (hy : o[f.no]? = some y) : D6.object ⟨a, f :: st, o⟩ = (y.kind == 6) := by
  unfold D6.object
  simp [List.getD_eq_getElem?_getD, hy]
/-- The reader, stood at a place, with the loop's next step. -/
structure JMid (w : World) (b : Nat) (s : Bytes) (lim : Lim) (vs vo : Value) (ps : List (D6.Fm × Value)) (res : Except D6.Flt D6.Dx) (g n c : Nat) (x : D6.Dx) (wr : World) (vs' vo' : Value) (ps' : List (D6.Fm × Value)) : Prop where
  run : JRun w b s lim vs vo ps x wr vs' vo' ps'
  inv : JInv s lim n x
  lt : x.at_ < min s.length lim.b.toNat
  go : (match D6.step s lim n x c with
        | .error e => some (.error e)
        | .ok y => D6.loopN s lim g y) = some res
theorem JMid.drewN {w : World} {b : Nat} {s : Bytes} {lim : Lim} {vs vo : Value} {ps : List (D6.Fm × Value)} {res : Except D6.Flt D6.Dx} {g n c : Nat} {x : D6.Dx} {wr : World} {vs' vo' : Value} {ps' : List (D6.Fm × Value)} (h : JMid w b s lim vs vo ps res g n c x wr vs' vo' ps') (k : Nat) : JMid w b s lim vs vo ps res g n c x (wr.drewN k) vs' vo' ps' := ⟨h.run.drewN k, h.inv, h.lt, h.go⟩
set_option maxRecDepth 100000 in
set_option maxHeartbeats 8000000 in
theorem jread_any (s : Bytes) (lim : Lim) (b : Nat) (x : D6.Dx) (vs vo : Value) (ps : List (D6.Fm × Value)) (w : World) (h : JRep w b s lim x vs vo ps) (hinv : JInv s lim 0 x) (m : Nat) (res : Except D6.Flt D6.Dx) (hrun : D6.loopN s lim m (0, x) = some res) :
    Calls Tryd.prog 20 #[.pointer (some ⟨b, 0, none⟩)] w (JRead w b s lim vs vo ps res) := by
  have HH := Px.hid (And.intro h (And.intro hinv hrun))
  have hlen := hinv.ok.ctx.len
  have hmay := J6.may_of hinv.ok.ctx.may
  have hctx := Px.hid hinv.ok.ctx
  clear h hinv hrun
  go_enter Tryd.func20, Tryd.ntmps20
  go_wp2
  go_loopg [2] m (fun gk v wr => ∃ n z vs' vo' ps', v = .int .i64 (n : Nat) ∧ D6.loopN s lim gk (n, z) = some res ∧ JRun w b s lim vs vo ps z wr vs' vo' ps' ∧ JInv s lim n z)
  case atStart => exact ⟨0, x, vs, vo, ps, rfl, HH.out.2.2, JRun.refl HH.out.1, HH.out.2.1⟩
  case round =>
    obtain ⟨n, z, vs', vo', ps', rfl, hrun, hjr, hinv⟩ := hrel
    clear HH
    obtain ⟨g', rfl⟩ : ∃ g', gk = g' + 1 := by
      cases gk with
      | zero => cases hrun
      | succ g => exact ⟨g, rfl⟩
    unfold D6.loopN at hrun
    by_cases hn5 : n = 5
    · subst hn5
      rw [if_pos (by rfl)] at hrun
      have HK := Px.hid (And.intro hjr (And.intro hrun hinv.ok))
      clear hjr hrun hinv
      go_wp2
      refine bodyPost_ret (results_none rfl _ _ _) rfl ?_
      have e := HK.out.2.1
      cases e
      exact ⟨rfl, ⟨_, _, _, HK.out.1⟩, HK.out.2.2⟩
    · have e5 : (n == 5) = false := by simpa using hn5
      rw [if_neg (by rw [e5]; decide)] at hrun
      have hn5i : ¬ (n : Int) = 5 := by omega
      have hal := hinv.ok.al
      cases hp : D6.pass s lim z.at_ with
      | error e =>
        rw [hp] at hrun
        have HK := Px.hid (And.intro hjr (And.intro hrun (And.intro (jpass_no hctx.out hal hjr.rep.jr hp) hal)))
        clear hjr hrun hinv hal hp e5 hn5
        go_wp2_with fail
        refine HK.out.2.2.1.mono ?_
        rintro r w1 ⟨rfl, hf⟩
        have HE := Px.hid (HK.out.1.frit hf)
        clear hf
        unfold jpanics
        go_wp2
        exact ⟨rfl, JRead.bad HK.out.2.1 HE.out⟩
      | ok q =>
        rw [hp] at hrun
        simp only at hrun
        have hq := pass_ok6 _ _ _ hp
        have HK := Px.hid (And.intro hjr (And.intro hrun (And.intro (jpass_yes hctx.out hal hjr.rep.jr hp) (And.intro hinv hq))))
        clear hjr hrun hinv hal hp e5 hn5
        go_wp2_with fail
        refine HK.out.2.2.1.mono ?_
        rintro r w1 ⟨rfl, hj, hf⟩
        obtain ⟨c, hc⟩ : ∃ c, R6.at_ s q = c := ⟨_, rfl⟩
        obtain ⟨X, hX⟩ : ∃ X : D6.Dx, X = { z with at_ := q } := ⟨_, rfl⟩
        have hM : JMid w b s lim vs vo ps res g' n c X w1 vs' vo' ps' := by
          rw [hX]
          refine ⟨HK.out.1.it hj hf, ⟨HK.out.2.2.2.1.ok.at_ (by omega), HK.out.2.2.2.1.le, HK.out.2.2.2.1.st⟩, hq.2, ?_⟩
          rw [← hc]
          exact HK.out.2.1
        have HB := Px.hid hM
        unfold byteV
        rw [hc]
        clear hj hf hM hX hc hq HK
        have hle := HB.out.inv.le
        have hst := HB.out.inv.st
        obtain ⟨st, hxs⟩ : ∃ st, X.stack = st := ⟨_, rfl⟩
        rcases st with _ | ⟨f, rest⟩
        · have hn0 : n = 0 := Classical.byContradiction fun e => hst e (by omega) hxs
          subst hn0
          obtain ⟨sa, sc, hsv⟩ := HB.out.run.rep.stackLen
          have c6 : w1.cell? ⟨b, 6, none⟩ = some (.slice sa 0 sc) := by rw [HB.out.run.rep.jr.cells.2.2.2.2.2.1, hsv, hxs]; rfl
          have HO := Px.hid (show D6.object X = false by unfold D6.object; rw [hxs])
          clear hsv hxs hle hst
          go_wp2_with fail
          go_quiet (fail)
          clear c6
          have HB := Px.hid (HB.out.drewN nq)
          go_wp2_with fail
          refine (jval_any c b s lim X _ vs' vo' ps' HB.out.run.rep HB.out.inv.ok HB.out.lt).mono ?_
          rintro r w2 hpost
          have hgo := HB.out.go
          rw [stepV0] at hgo
          unfold JVal at hpost
          cases hres : D6.value s lim X c with
          | error e =>
            rw [hres] at hpost hgo
            obtain ⟨rfl, hf⟩ := hpost
            have HZ := Px.hid (And.intro (HB.out.run.fr.step HB.out.run.fresh hf) hgo)
            clear hf hgo hres
            unfold jpanics
            go_wp2
            exact ⟨rfl, JRead.bad HZ.out.2 HZ.out.1⟩
          | ok ny =>
            obtain ⟨n2, y2⟩ := ny
            rw [hres] at hpost hgo
            obtain ⟨rfl, vs2, vo2, ps2', hr2⟩ := hpost
            have HZ := Px.hid (And.intro (HB.out.run.trans hr2) (And.intro hgo (step_inv HB.out.inv HB.out.lt ((stepV0).trans hres))))
            clear hr2 hgo hres
            go_wp2
            go_roundg g'
            case measure => omega
            case rel => exact ⟨n2, y2, vs2, vo2, ps2', rfl, HZ.out.2.1, HZ.out.1, HZ.out.2.2⟩
        · obtain ⟨vn, ps2, hps, hm, g, cap', hsv, h1, h2, k0, _, kf⟩ := HB.out.run.rep.top hxs
          obtain ⟨y, hy⟩ : ∃ y, X.out[f.no]? = some y := ⟨_, List.getElem?_eq_getElem (HB.out.inv.ok.no f (by rw [hxs]; exact List.mem_cons_self ..))⟩
          obtain ⟨go, co, hvo, o1, o2, q0, _, _, qf⟩ := HB.out.run.rep.val hy
          have hsl := HB.out.inv.ok.sl
          have hol := HB.out.inv.ok.ol
          have hpl : ps2.length ≤ 32 := by have := congrArg List.length hm; rw [List.length_map] at this; rw [hxs] at hsl; simp at hsl; omega
          have hno : f.no < X.out.length := HB.out.inv.ok.no f (by rw [hxs]; exact List.mem_cons_self ..)
          have n0 : (0 : Int) < (ps2.length : Int) + 1 := by omega
          have hL : X.out.length ≤ 4096 := by omega
          unfold maxLen at h2 o2
          have HO := Px.hid (show D6.object X = (y.kind == 6) by
            have e : X = ⟨X.at_, f :: rest, X.out⟩ := by rw [← hxs]
            rw [e]
            exact object_top hy)
          have c6 : w1.cell? ⟨b, 6, none⟩ = some (.slice (some ⟨g, 0, none⟩) (ps2.length + 1) cap') := by rw [HB.out.run.rep.jr.cells.2.2.2.2.2.1, hsv]
          have c7 : w1.cell? ⟨b, 7, none⟩ = some (.slice (some ⟨go, 0, none⟩) X.out.length co) := by rw [HB.out.run.rep.jr.cells.2.2.2.2.2.2, hvo]
          have HS := Px.hid (And.intro hxs hsv)
          obtain ⟨L, hLL⟩ : ∃ L, X.out.length = L := ⟨_, rfl⟩
          rw [hLL] at hno hL o1 c7
          clear hsv hxs hst hps hm kf qf hsl hol hy hvo hLL
          have hws : IntKind.i64.wrap ((ps2.length : Int)) = (ps2.length : Int) := IntWalk.i64_in _ ⟨by omega, by omega⟩
          go_wp2_with fail
          go_quiet (fail)
          clear c6 c7 k0 q0 h1 h2 o1 o2 hno n0 hL hpl hws
          have HB := Px.hid (HB.out.drewN nq)
          obtain ⟨ob, hob⟩ : ∃ ob, (y.kind == 6) = ob := ⟨_, rfl⟩
          rw [hob] at HO ⊢
          clear hob
          have hcases : n = 0 ∨ n = 1 ∨ n = 2 ∨ n = 3 ∨ n = 4 := by omega
          rcases hcases with rfl | rfl | rfl | rfl | rfl
          · go_wp2_with fail
            refine (jval_any c b s lim X _ vs' vo' ps' HB.out.run.rep HB.out.inv.ok HB.out.lt).mono ?_
            rintro r w2 hpost
            have hgo := HB.out.go
            rw [stepV0] at hgo
            unfold JVal at hpost
            cases hres : D6.value s lim X c with
            | error e =>
              rw [hres] at hpost hgo
              obtain ⟨rfl, hf⟩ := hpost
              have HZ := Px.hid (And.intro (HB.out.run.fr.step HB.out.run.fresh hf) hgo)
              clear hf hgo hres
              unfold jpanics
              go_wp2
              exact ⟨rfl, JRead.bad HZ.out.2 HZ.out.1⟩
            | ok ny =>
              obtain ⟨n2, y2⟩ := ny
              rw [hres] at hpost hgo
              obtain ⟨rfl, vs2, vo2, ps2', hr2⟩ := hpost
              have HZ := Px.hid (And.intro (HB.out.run.trans hr2) (And.intro hgo (step_inv HB.out.inv HB.out.lt ((stepV0).trans hres))))
              clear hr2 hgo hres
              go_wp2
              go_roundg g'
              case measure => omega
              case rel => exact ⟨n2, y2, vs2, vo2, ps2', rfl, HZ.out.2.1, HZ.out.1, HZ.out.2.2⟩
          · by_cases hc93 : c = 93
            · have t93 : (c : Int) = 93 := by omega
              have hse := D6.step_end (s := s) (lim := lim) (D := X) (c := c) (.inl ⟨rfl, hc93⟩)
              go_wp2_with fail
              refine (jend_any b s lim X _ vs' vo' ps' HB.out.run.rep HB.out.inv.ok f rest HS.out.1).mono ?_
              rintro r w2 ⟨rfl, vs2, ps2', hr2⟩
              have hgo := HB.out.go
              rw [hse] at hgo
              have HZ := Px.hid (And.intro (HB.out.run.trans hr2) (And.intro hgo (end_inv HB.out.inv.ok HB.out.lt)))
              clear hr2 hgo hse
              go_wp2
              go_roundg g'
              case measure => omega
              case rel => exact ⟨_, _, vs2, vo', ps2', rfl, HZ.out.2.1, HZ.out.1, HZ.out.2.2⟩
            · have t93 : ¬ (c : Int) = 93 := by omega
              go_wp2_with fail
              refine (jval_any c b s lim X _ vs' vo' ps' HB.out.run.rep HB.out.inv.ok HB.out.lt).mono ?_
              rintro r w2 hpost
              have hgo := HB.out.go
              rw [stepV1 hc93] at hgo
              unfold JVal at hpost
              cases hres : D6.value s lim X c with
              | error e =>
                rw [hres] at hpost hgo
                obtain ⟨rfl, hf⟩ := hpost
                have HZ := Px.hid (And.intro (HB.out.run.fr.step HB.out.run.fresh hf) hgo)
                clear hf hgo hres
                unfold jpanics
                go_wp2
                exact ⟨rfl, JRead.bad HZ.out.2 HZ.out.1⟩
              | ok ny =>
                obtain ⟨n2, y2⟩ := ny
                rw [hres] at hpost hgo
                obtain ⟨rfl, vs2, vo2, ps2', hr2⟩ := hpost
                have HZ := Px.hid (And.intro (HB.out.run.trans hr2) (And.intro hgo (step_inv HB.out.inv HB.out.lt ((stepV1 hc93).trans hres))))
                clear hr2 hgo hres
                go_wp2
                go_roundg g'
                case measure => omega
                case rel => exact ⟨n2, y2, vs2, vo2, ps2', rfl, HZ.out.2.1, HZ.out.1, HZ.out.2.2⟩
          · by_cases hc34 : c = 34
            · have t34 : (c : Int) = 34 := by omega
              go_wp2_with fail
              refine (jname_any b s lim X _ vs' vo' ps' HB.out.run.rep HB.out.inv.ok HB.out.lt f rest HS.out.1).mono ?_
              rintro r w2 hpost
              have hgo := HB.out.go
              rw [stepN2 hc34] at hgo
              unfold JVal at hpost
              cases hres : D6.name s lim X with
              | error e =>
                rw [hres] at hpost hgo
                obtain ⟨rfl, hf⟩ := hpost
                have HZ := Px.hid (And.intro (HB.out.run.fr.step HB.out.run.fresh hf) hgo)
                clear hf hgo hres
                unfold jpanics
                go_wp2
                exact ⟨rfl, JRead.bad HZ.out.2 HZ.out.1⟩
              | ok ny =>
                obtain ⟨n2, y2⟩ := ny
                rw [hres] at hpost hgo
                obtain ⟨rfl, vs2, vo2, ps2', hr2⟩ := hpost
                have HZ := Px.hid (And.intro (HB.out.run.trans hr2) (And.intro hgo (step_inv HB.out.inv HB.out.lt ((stepN2 hc34).trans hres))))
                clear hr2 hgo hres
                go_wp2
                go_roundg g'
                case measure => omega
                case rel => exact ⟨n2, y2, vs2, vo2, ps2', rfl, HZ.out.2.1, HZ.out.1, HZ.out.2.2⟩
            · have t34 : ¬ (c : Int) = 34 := by omega
              have hse := stepW2 (s := s) (lim := lim) (x := X) hc34
              have c5 := HB.out.run.rep.jr.cells.2.2.2.2.1
              go_wp2_with fail
              refine (jwrong b _ _ _).mono ?_
              rintro r w2 ⟨rfl, rfl⟩
              have hgo := HB.out.go
              rw [hse] at hgo
              have HZ := Px.hid (And.intro HB.out.run.fr hgo)
              clear hgo hse c5
              unfold jpanics
              go_wp2
              exact ⟨rfl, JRead.bad HZ.out.2 HZ.out.1⟩
          · by_cases hc125 : c = 125
            · have t125 : (c : Int) = 125 := by omega
              have hse := D6.step_end (s := s) (lim := lim) (D := X) (c := c) (.inr (.inl ⟨rfl, hc125⟩))
              go_wp2_with fail
              refine (jend_any b s lim X _ vs' vo' ps' HB.out.run.rep HB.out.inv.ok f rest HS.out.1).mono ?_
              rintro r w2 ⟨rfl, vs2, ps2', hr2⟩
              have hgo := HB.out.go
              rw [hse] at hgo
              have HZ := Px.hid (And.intro (HB.out.run.trans hr2) (And.intro hgo (end_inv HB.out.inv.ok HB.out.lt)))
              clear hr2 hgo hse
              go_wp2
              go_roundg g'
              case measure => omega
              case rel => exact ⟨_, _, vs2, vo', ps2', rfl, HZ.out.2.1, HZ.out.1, HZ.out.2.2⟩
            · have t125 : ¬ (c : Int) = 125 := by omega
              by_cases hc34 : c = 34
              · have t34 : (c : Int) = 34 := by omega
                go_wp2_with fail
                refine (jname_any b s lim X _ vs' vo' ps' HB.out.run.rep HB.out.inv.ok HB.out.lt f rest HS.out.1).mono ?_
                rintro r w2 hpost
                have hgo := HB.out.go
                rw [stepN3 hc34] at hgo
                unfold JVal at hpost
                cases hres : D6.name s lim X with
                | error e =>
                  rw [hres] at hpost hgo
                  obtain ⟨rfl, hf⟩ := hpost
                  have HZ := Px.hid (And.intro (HB.out.run.fr.step HB.out.run.fresh hf) hgo)
                  clear hf hgo hres
                  unfold jpanics
                  go_wp2
                  exact ⟨rfl, JRead.bad HZ.out.2 HZ.out.1⟩
                | ok ny =>
                  obtain ⟨n2, y2⟩ := ny
                  rw [hres] at hpost hgo
                  obtain ⟨rfl, vs2, vo2, ps2', hr2⟩ := hpost
                  have HZ := Px.hid (And.intro (HB.out.run.trans hr2) (And.intro hgo (step_inv HB.out.inv HB.out.lt ((stepN3 hc34).trans hres))))
                  clear hr2 hgo hres
                  go_wp2
                  go_roundg g'
                  case measure => omega
                  case rel => exact ⟨n2, y2, vs2, vo2, ps2', rfl, HZ.out.2.1, HZ.out.1, HZ.out.2.2⟩
              · have t34 : ¬ (c : Int) = 34 := by omega
                have hse := stepW3 (s := s) (lim := lim) (x := X) hc34 hc125
                have c5 := HB.out.run.rep.jr.cells.2.2.2.2.1
                go_wp2_with fail
                refine (jwrong b _ _ _).mono ?_
                rintro r w2 ⟨rfl, rfl⟩
                have hgo := HB.out.go
                rw [hse] at hgo
                have HZ := Px.hid (And.intro HB.out.run.fr hgo)
                clear hgo hse c5
                unfold jpanics
                go_wp2
                exact ⟨rfl, JRead.bad HZ.out.2 HZ.out.1⟩
          · cases ob with
            | true =>
              by_cases hc125 : c = 125
              · have t125 : (c : Int) = 125 := by omega
                have t93 : ¬ (c : Int) = 93 := by omega
                have hse := D6.step_end (s := s) (lim := lim) (D := X) (c := c) (.inr (.inr ⟨rfl, by rw [HO.out]; exact hc125⟩))
                go_wp2_with fail
                refine (jend_any b s lim X _ vs' vo' ps' HB.out.run.rep HB.out.inv.ok f rest HS.out.1).mono ?_
                rintro r w2 ⟨rfl, vs2, ps2', hr2⟩
                have hgo := HB.out.go
                rw [hse] at hgo
                have HZ := Px.hid (And.intro (HB.out.run.trans hr2) (And.intro hgo (end_inv HB.out.inv.ok HB.out.lt)))
                clear hr2 hgo hse
                go_wp2
                go_roundg g'
                case measure => omega
                case rel => exact ⟨_, _, vs2, vo', ps2', rfl, HZ.out.2.1, HZ.out.1, HZ.out.2.2⟩
              · have t125 : ¬ (c : Int) = 125 := by omega
                by_cases hc44 : c = 44
                · have t44 : (c : Int) = 44 := by omega
                  have t93 : ¬ (c : Int) = 93 := by omega
                  have hse := D6.step_comma (s := s) (lim := lim) (D := X)
                  rw [HO.out] at hse
                  have hgo := HB.out.go
                  rw [hc44, hse] at hgo
                  have hsi := step_inv HB.out.inv HB.out.lt hse
                  have c5 := HB.out.run.rep.jr.cells.2.2.2.2.1
                  have f5 := HB.out.run.rep.jr.free 5
                  have hwa := wrap1 X.at_ (by have := HB.out.lt; omega)
                  have HZ := Px.hid (And.intro (HB.out.run.it (HB.out.run.rep.jr.move (X.at_ + 1)) (It.set _)) (And.intro hgo hsi))
                  clear hse hgo hsi
                  go_wp2
                  go_roundg g'
                  case measure => omega
                  case rel => exact ⟨2, _, vs', vo', ps', rfl, HZ.out.2.1, HZ.out.1, HZ.out.2.2⟩
                · have t44 : ¬ (c : Int) = 44 := by omega
                  by_cases hc93 : c = 93
                  · have t93 : (c : Int) = 93 := by omega
                    have hse := D6.step_odd (s := s) (lim := lim) (D := X) (c := c) (by rw [HO.out]; exact hc125) hc44
                    have c5 := HB.out.run.rep.jr.cells.2.2.2.2.1
                    go_wp2_with fail
                    refine (jwrong b _ _ _).mono ?_
                    rintro r w2 ⟨rfl, rfl⟩
                    have hgo := HB.out.go
                    rw [hse] at hgo
                    have HZ := Px.hid (And.intro HB.out.run.fr hgo)
                    clear hgo hse c5
                    unfold jpanics
                    go_wp2
                    exact ⟨rfl, JRead.bad HZ.out.2 HZ.out.1⟩
                  · have t93 : ¬ (c : Int) = 93 := by omega
                    have hse := D6.step_odd (s := s) (lim := lim) (D := X) (c := c) (by rw [HO.out]; exact hc125) hc44
                    have c5 := HB.out.run.rep.jr.cells.2.2.2.2.1
                    go_wp2_with fail
                    refine (jwrong b _ _ _).mono ?_
                    rintro r w2 ⟨rfl, rfl⟩
                    have hgo := HB.out.go
                    rw [hse] at hgo
                    have HZ := Px.hid (And.intro HB.out.run.fr hgo)
                    clear hgo hse c5
                    unfold jpanics
                    go_wp2
                    exact ⟨rfl, JRead.bad HZ.out.2 HZ.out.1⟩
            | false =>
              by_cases hc93 : c = 93
              · have t93 : (c : Int) = 93 := by omega
                have t125 : ¬ (c : Int) = 125 := by omega
                have hse := D6.step_end (s := s) (lim := lim) (D := X) (c := c) (.inr (.inr ⟨rfl, by rw [HO.out]; exact hc93⟩))
                go_wp2_with fail
                refine (jend_any b s lim X _ vs' vo' ps' HB.out.run.rep HB.out.inv.ok f rest HS.out.1).mono ?_
                rintro r w2 ⟨rfl, vs2, ps2', hr2⟩
                have hgo := HB.out.go
                rw [hse] at hgo
                have HZ := Px.hid (And.intro (HB.out.run.trans hr2) (And.intro hgo (end_inv HB.out.inv.ok HB.out.lt)))
                clear hr2 hgo hse
                go_wp2
                go_roundg g'
                case measure => omega
                case rel => exact ⟨_, _, vs2, vo', ps2', rfl, HZ.out.2.1, HZ.out.1, HZ.out.2.2⟩
              · have t93 : ¬ (c : Int) = 93 := by omega
                by_cases hc44 : c = 44
                · have t44 : (c : Int) = 44 := by omega
                  have t125 : ¬ (c : Int) = 125 := by omega
                  have hse := D6.step_comma (s := s) (lim := lim) (D := X)
                  rw [HO.out] at hse
                  have hgo := HB.out.go
                  rw [hc44, hse] at hgo
                  have hsi := step_inv HB.out.inv HB.out.lt hse
                  have c5 := HB.out.run.rep.jr.cells.2.2.2.2.1
                  have f5 := HB.out.run.rep.jr.free 5
                  have hwa := wrap1 X.at_ (by have := HB.out.lt; omega)
                  have HZ := Px.hid (And.intro (HB.out.run.it (HB.out.run.rep.jr.move (X.at_ + 1)) (It.set _)) (And.intro hgo hsi))
                  clear hse hgo hsi
                  go_wp2
                  go_roundg g'
                  case measure => omega
                  case rel => exact ⟨0, _, vs', vo', ps', rfl, HZ.out.2.1, HZ.out.1, HZ.out.2.2⟩
                · have t44 : ¬ (c : Int) = 44 := by omega
                  by_cases hc125 : c = 125
                  · have t125 : (c : Int) = 125 := by omega
                    have hse := D6.step_odd (s := s) (lim := lim) (D := X) (c := c) (by rw [HO.out]; exact hc93) hc44
                    have c5 := HB.out.run.rep.jr.cells.2.2.2.2.1
                    go_wp2_with fail
                    refine (jwrong b _ _ _).mono ?_
                    rintro r w2 ⟨rfl, rfl⟩
                    have hgo := HB.out.go
                    rw [hse] at hgo
                    have HZ := Px.hid (And.intro HB.out.run.fr hgo)
                    clear hgo hse c5
                    unfold jpanics
                    go_wp2
                    exact ⟨rfl, JRead.bad HZ.out.2 HZ.out.1⟩
                  · have t125 : ¬ (c : Int) = 125 := by omega
                    have hse := D6.step_odd (s := s) (lim := lim) (D := X) (c := c) (by rw [HO.out]; exact hc93) hc44
                    have c5 := HB.out.run.rep.jr.cells.2.2.2.2.1
                    go_wp2_with fail
                    refine (jwrong b _ _ _).mono ?_
                    rintro r w2 ⟨rfl, rfl⟩
                    have hgo := HB.out.go
                    rw [hse] at hgo
                    have HZ := Px.hid (And.intro HB.out.run.fr hgo)
                    clear hgo hse c5
                    unfold jpanics
                    go_wp2
                    exact ⟨rfl, JRead.bad HZ.out.2 HZ.out.1⟩
end Go.Proofs.YtahojodgmjmpnaaDoor
