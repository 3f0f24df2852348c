/-
  The walk over jsonfeed's End (printed by gen_yp.py).
-/
import Derived.Test.YtahojodgmjmpnaaYoJ
import Derived.Deep.Upon
namespace Go.Px
open Go.RowKit
theorem wpList_append_none {P : Program} {w : World} {ops : Array Oper} {rest : List Oper} {o : Oper} {a : Act} {Q : Exit → Act → World → Prop} (hgd : o.guard = none) (s x : Operand) (t tx : TypeId)
    (ho : o.op = .call { callee := .builtin .append, args := #[s, x], argTypes := #[t, tx] }) (e : TypeId) (i : TypeInfo) (ht : P.underlying t = some (.slice e)) (hi : P.info? e = some i) (hs : a.eval s = .slice none 0 0)
    (vx : Value) (hx : a.eval x = vx) (hsrc : Src P i.size tx vx 0 [] w) (h : wpList P ops Q rest (a.put o.dst (.slice none 0 0)) w) : wpList P ops Q (o :: rest) a w :=
  wpList_plain hgd fun _ hK => by
    have hr := run_append_nothing w t tx o.type e i ht hi none 0 0 (Nat.le_refl _) vx hsrc
    unfold Oper.wp execOp
    simp only [ho, resolve, invoke, builtin, Sem.run_bind, Sem.run_pure, Result.andThen_ok, List.map_toArray, List.map_cons, List.map_nil, hs, hx, hr]
    exact hK _ _ h
end Go.Px
namespace Go.Proofs.Ytahojodgmjmpnaa
open Go.RowKit Go.Px
@[go_sem] theorem ta_num_nil (w : World) : (Instr.typeAssert .nilIface 44 58 true).run Try.prog w = .ok (.tuple #[.pointer none, .bool false]) w := by kernel_rfl
theorem val_one (l : List Val) : ∀ u ∈ l.flatMap cVal, u.oneCell' = true := by
  intro u hu
  simp only [List.mem_flatMap] at hu
  obtain ⟨a, _, hu⟩ := hu
  simp only [cVal, List.mem_cons, List.not_mem_nil, or_false] at hu
  rcases hu with rfl | rfl | rfl <;> rfl
/-- What End hands back. -/
def EndPost (w : World) (f : J6.Feed) (e : Ending) (w' : World) : Prop :=
  ∃ v, e = .returned (.tuple #[v, .int .i64 (J6.End f).2.1, .int .i64 (J6.End f).2.2]) ∧ Owns w' 64 3 cVal v (J6.End f).1 ∧ Same w w' ∧ (∀ k, v.ownBlock = some k → w.heap.size ≤ k)
theorem EndPost.none {w w' : World} {f : J6.Feed} {p e : Int} (hE : J6.End f = ([], p, e)) (hs : Same w w') : EndPost w f (.returned (.tuple #[.slice none 0 0, .int .i64 p, .int .i64 e])) w' :=
  ⟨_, by rw [hE], by rw [hE]; exact owns_nil _ _ _ _, hs, fun k hk => by simp [Value.ownBlock] at hk⟩
theorem EndPost.some {w w' : World} {f : J6.Feed} {v : Value} {l : List Val} (hE : J6.End f = (l, 0, 0)) (hv : Owns w' 64 3 cVal v l) (hs : Same w w') (hf : ∀ k, v.ownBlock = some k → w.heap.size ≤ k) : EndPost w f (.returned (.tuple #[v, .int .i64 0, .int .i64 0])) w' :=
  ⟨_, by rw [hE], by rw [hE]; exact hv, hs, hf⟩
set_option maxRecDepth 100000 in
set_option maxHeartbeats 4000000 in
theorem end_err (b : Nat) (f : J6.Feed) (F : Nat → Prop) (w : World) (h : FeedAt w b f F) (hb0 : f.lim.b ≠ 0) (he : f.err ≠ 0) :
    Calls Try.prog 13 #[.pointer (some ⟨b, 0, none⟩)] w (EndPost w f) := by
  have h0 : (f.lim.b == 0) = false := by simpa using hb0
  obtain ⟨vo, vs, tv, tb, ps, h, hF⟩ := h
  have c2 : w.cell? ⟨b, 2, none⟩ = some (.int .i64 f.lim.b) := cellOf h.blk 2 rfl
  have c9 : w.cell? ⟨b, 9, none⟩ = some (.int .i64 f.err) := cellOf h.blk 9 rfl
  clear hb0
  have he2 : (f.err != 0) = true := by simp [he]
  have HE := Px.hid (show J6.End f = ([], f.at_, f.err) by unfold J6.End; rw [if_pos he2])
  have c10 : w.cell? ⟨b, 10, none⟩ = some (.int .i64 f.at_) := cellOf h.blk 10 rfl
  clear he h hF
  go_enter Try.func13, Try.ntmps13
  go_wp2_with fail
  go_quiet (fail)
  go_wp2
  go_ret3
  exact EndPost.none HE.out ((Fr.refl _ w).drewN nq)
set_option maxRecDepth 100000 in
set_option maxHeartbeats 4000000 in
theorem end_done_e (b : Nat) (f : J6.Feed) (F : Nat → Prop) (w : World) (h : FeedAt w b f F) (hb0 : f.lim.b ≠ 0) (he : f.err = 0) (hnow : f.now = .none) (hnx : f.next = 6) (hout : f.out = []) :
    Calls Try.prog 13 #[.pointer (some ⟨b, 0, none⟩)] w (EndPost w f) := by
  have h0 : (f.lim.b == 0) = false := by simpa using hb0
  obtain ⟨vo, vs, tv, tb, ps, h, hF⟩ := h
  have c2 : w.cell? ⟨b, 2, none⟩ = some (.int .i64 f.lim.b) := cellOf h.blk 2 rfl
  have c9 : w.cell? ⟨b, 9, none⟩ = some (.int .i64 f.err) := cellOf h.blk 9 rfl
  clear hb0
  rw [he] at c9
  have hne0 : (f.err != 0) = false := by simp [he]
  have HOUT := Px.hid hout
  have HE := Px.hid (show J6.End f = (f.out, 0, 0) by unfold J6.End; rw [if_neg (by rw [hne0]; simp), hnow]; simp only; rw [if_pos (by rw [hnx]; rfl)])
  have htv : tv = .nilIface := by have := h.parts.tok; rw [hnow] at this; exact this.1
  subst htv
  clear hnow hne0
  obtain ⟨oa, oc, hov, _⟩ := h.parts.out.len
  have c5 : w.cell? ⟨b, 5, none⟩ = some (.slice oa 0 oc) := by rw [show (Value.slice oa 0 oc) = vo by rw [hov, hout]; rfl]; exact cellOf h.blk 5 rfl
  obtain ⟨i0, hi0, hz0, hz1, hz2⟩ := info_parts Try.infoVal
  have hsrc : Src Try.prog i0.size 32 (.slice oa 0 oc) 0 [] w := by
    cases oa with
    | none => exact Src.ofNil w Try.underlying32 oc
    | some ad => exact Src.ofSlice w Try.underlying32 ad 0 oc [] (by simp) (fun j u hu => by simp at hu) (fun u hu => by cases hu)
  have c8 : w.cell? ⟨b, 8, none⟩ = some (.nilIface) := cellOf h.blk 8 rfl
  have c7 : w.cell? ⟨b, 7, none⟩ = some (.int .i64 (f.next : Nat)) := cellOf h.blk 7 rfl
  have c4 : w.cell? ⟨b, 4, none⟩ = some (.int .i64 (f.n : Nat)) := cellOf h.blk 4 rfl
  rw [hnx] at c7
  have HSR := Px.hid hsrc
  clear h hF hov he hsrc hout
  go_enter Try.func13, Try.ntmps13
  go_wp2_with (at_builtin; go_must (refine wpList_append_none rfl _ _ 32 32 rfl 64 i0 Try.underlying32 hi0 rfl (.slice oa 0 oc) rfl HSR.out ?_))
  go_wp2
  go_ret3
  exact EndPost.some HE.out (by rw [HOUT.out]; exact owns_nil _ _ _ _) (Same.refl w) (fun k hk => by simp [Value.ownBlock] at hk)
set_option maxRecDepth 100000 in
set_option maxHeartbeats 4000000 in
theorem end_done_f (b : Nat) (f : J6.Feed) (F : Nat → Prop) (w : World) (h : FeedAt w b f F) (hb0 : f.lim.b ≠ 0) (he : f.err = 0) (hol : f.out.length ≤ 4096) (hnow : f.now = .none) (hnx : f.next = 6) (hout : f.out ≠ []) :
    Calls Try.prog 13 #[.pointer (some ⟨b, 0, none⟩)] w (EndPost w f) := by
  have h0 : (f.lim.b == 0) = false := by simpa using hb0
  obtain ⟨vo, vs, tv, tb, ps, h, hF⟩ := h
  have c2 : w.cell? ⟨b, 2, none⟩ = some (.int .i64 f.lim.b) := cellOf h.blk 2 rfl
  have c9 : w.cell? ⟨b, 9, none⟩ = some (.int .i64 f.err) := cellOf h.blk 9 rfl
  clear hb0
  rw [he] at c9
  have hne0 : (f.err != 0) = false := by simp [he]
  have HE := Px.hid (show J6.End f = (f.out, 0, 0) by unfold J6.End; rw [if_neg (by rw [hne0]; simp), hnow]; simp only; rw [if_pos (by rw [hnx]; rfl)])
  have htv : tv = .nilIface := by have := h.parts.tok; rw [hnow] at this; exact this.1
  subst htv
  clear hnow hne0
  obtain ⟨m, a, hm, ha⟩ := last_of hout
  obtain ⟨g, oc, hov, _, _, _, _, _, _⟩ := h.val ha
  have c5 : w.cell? ⟨b, 5, none⟩ = some (.slice (some ⟨g, 0, none⟩) f.out.length oc) := by rw [← hov]; exact cellOf h.blk 5 rfl
  have hpos : 0 < f.out.length := by omega
  have hown : w.ownsRow 0 64 3 (.slice (some ⟨g, 0, none⟩) f.out.length oc) f.out.length (f.out.flatMap cVal) := by have := h.parts.out; rw [hov] at this; exact this
  have HC := Px.hid (hown.cells (g := g) rfl)
  obtain ⟨i0, hi0, hz0, hz1, hz2⟩ := info_parts Try.infoVal
  have HX := Px.hid (And.intro h (And.intro hm ha))
  clear h hF hov he hown hout hm ha
  go_enter Try.func13, Try.ntmps13
  go_wp2_with (at_builtin; go_must (refine wpList_append_lies _ rfl _ _ _ rfl 0 64 i0 _ 3 32 Try.underlying32 hi0 hz0 hz1 hz2 rfl (by omega) (.slice none 0 0) 0 [] rfl (World.ownsRow_nil _ _ _ _) ⟨g, 0, none⟩ f.out.length oc (f.out.flatMap cVal) rfl (flat_len cVal_len _) HC.out (val_one _) hpos (by unfold maxLen; omega) (by omega) (by omega) w.heap.size rfl ?_))
  intro gg cap w1 hown1 hgrow hat hlt
  have hS : Same w w1 := (Fr.refl _ w).grown hgrow (fun k e => by simp [Value.ownBlock] at e)
  have hv : Owns w1 64 3 cVal (.slice (some ⟨gg, 0, none⟩) f.out.length cap) f.out := by
    unfold Owns
    simpa using hown1
  have hge : w.heap.size ≤ gg := by
    rcases hat with e | e
    · simp [Value.ownBlock] at e
    · omega
  have h := HX.out.1.same hS
  have c8 : w1.cell? ⟨b, 8, none⟩ = some (.nilIface) := cellOf h.blk 8 rfl
  have c7 : w1.cell? ⟨b, 7, none⟩ = some (.int .i64 (f.next : Nat)) := cellOf h.blk 7 rfl
  have c4 : w1.cell? ⟨b, 4, none⟩ = some (.int .i64 (f.n : Nat)) := cellOf h.blk 4 rfl
  rw [hnx] at c7
  have HW := Px.hid (And.intro hS (And.intro hv hge))
  clear hown1 hgrow hat hlt hS hv hge h HC c5
  go_wp2
  go_ret3
  exact EndPost.some HE.out HW.out.2.1 HW.out.1 (fun k hk => by have e : gg = k := Option.some.inj hk; have := HW.out.2.2; omega)
set_option maxRecDepth 100000 in
set_option maxHeartbeats 4000000 in
theorem end_open_e (b : Nat) (f : J6.Feed) (F : Nat → Prop) (w : World) (h : FeedAt w b f F) (hb0 : f.lim.b ≠ 0) (he : f.err = 0) (hnow : f.now = .none) (hnx : f.next ≠ 6) (hout : f.out = []) :
    Calls Try.prog 13 #[.pointer (some ⟨b, 0, none⟩)] w (EndPost w f) := by
  have h0 : (f.lim.b == 0) = false := by simpa using hb0
  obtain ⟨vo, vs, tv, tb, ps, h, hF⟩ := h
  have c2 : w.cell? ⟨b, 2, none⟩ = some (.int .i64 f.lim.b) := cellOf h.blk 2 rfl
  have c9 : w.cell? ⟨b, 9, none⟩ = some (.int .i64 f.err) := cellOf h.blk 9 rfl
  clear hb0
  rw [he] at c9
  have hne0 : (f.err != 0) = false := by simp [he]
  have HE := Px.hid (show J6.End f = ([], (f.n : Int), 9) by unfold J6.End; rw [if_neg (by rw [hne0]; simp), hnow]; simp only; rw [if_neg (by simpa using hnx)])
  have htv : tv = .nilIface := by have := h.parts.tok; rw [hnow] at this; exact this.1
  subst htv
  have n6 : ((f.next : Int) != 6) = true := by simp; omega
  clear hnow hne0 hnx
  obtain ⟨oa, oc, hov, _⟩ := h.parts.out.len
  have c5 : w.cell? ⟨b, 5, none⟩ = some (.slice oa 0 oc) := by rw [show (Value.slice oa 0 oc) = vo by rw [hov, hout]; rfl]; exact cellOf h.blk 5 rfl
  obtain ⟨i0, hi0, hz0, hz1, hz2⟩ := info_parts Try.infoVal
  have hsrc : Src Try.prog i0.size 32 (.slice oa 0 oc) 0 [] w := by
    cases oa with
    | none => exact Src.ofNil w Try.underlying32 oc
    | some ad => exact Src.ofSlice w Try.underlying32 ad 0 oc [] (by simp) (fun j u hu => by simp at hu) (fun u hu => by cases hu)
  have c8 : w.cell? ⟨b, 8, none⟩ = some (.nilIface) := cellOf h.blk 8 rfl
  have c7 : w.cell? ⟨b, 7, none⟩ = some (.int .i64 (f.next : Nat)) := cellOf h.blk 7 rfl
  have c4 : w.cell? ⟨b, 4, none⟩ = some (.int .i64 (f.n : Nat)) := cellOf h.blk 4 rfl
  have HSR := Px.hid hsrc
  clear h hF hov he hsrc hout
  go_enter Try.func13, Try.ntmps13
  go_wp2_with (at_builtin; go_must (refine wpList_append_none rfl _ _ 32 32 rfl 64 i0 Try.underlying32 hi0 rfl (.slice oa 0 oc) rfl HSR.out ?_))
  go_wp2_with fail
  go_quiet (fail)
  go_wp2
  go_ret3
  exact EndPost.none HE.out ((Same.refl w).drewN nq)
set_option maxRecDepth 100000 in
set_option maxHeartbeats 4000000 in
theorem end_open_f (b : Nat) (f : J6.Feed) (F : Nat → Prop) (w : World) (h : FeedAt w b f F) (hb0 : f.lim.b ≠ 0) (he : f.err = 0) (hol : f.out.length ≤ 4096) (hnow : f.now = .none) (hnx : f.next ≠ 6) (hout : f.out ≠ []) :
    Calls Try.prog 13 #[.pointer (some ⟨b, 0, none⟩)] w (EndPost w f) := by
  have h0 : (f.lim.b == 0) = false := by simpa using hb0
  obtain ⟨vo, vs, tv, tb, ps, h, hF⟩ := h
  have c2 : w.cell? ⟨b, 2, none⟩ = some (.int .i64 f.lim.b) := cellOf h.blk 2 rfl
  have c9 : w.cell? ⟨b, 9, none⟩ = some (.int .i64 f.err) := cellOf h.blk 9 rfl
  clear hb0
  rw [he] at c9
  have hne0 : (f.err != 0) = false := by simp [he]
  have HE := Px.hid (show J6.End f = ([], (f.n : Int), 9) by unfold J6.End; rw [if_neg (by rw [hne0]; simp), hnow]; simp only; rw [if_neg (by simpa using hnx)])
  have htv : tv = .nilIface := by have := h.parts.tok; rw [hnow] at this; exact this.1
  subst htv
  have n6 : ((f.next : Int) != 6) = true := by simp; omega
  clear hnow hne0 hnx
  obtain ⟨m, a, hm, ha⟩ := last_of hout
  obtain ⟨g, oc, hov, _, _, _, _, _, _⟩ := h.val ha
  have c5 : w.cell? ⟨b, 5, none⟩ = some (.slice (some ⟨g, 0, none⟩) f.out.length oc) := by rw [← hov]; exact cellOf h.blk 5 rfl
  have hpos : 0 < f.out.length := by omega
  have hown : w.ownsRow 0 64 3 (.slice (some ⟨g, 0, none⟩) f.out.length oc) f.out.length (f.out.flatMap cVal) := by have := h.parts.out; rw [hov] at this; exact this
  have HC := Px.hid (hown.cells (g := g) rfl)
  obtain ⟨i0, hi0, hz0, hz1, hz2⟩ := info_parts Try.infoVal
  have HX := Px.hid (And.intro h (And.intro hm ha))
  clear h hF hov he hown hout hm ha
  go_enter Try.func13, Try.ntmps13
  go_wp2_with (at_builtin; go_must (refine wpList_append_lies _ rfl _ _ _ rfl 0 64 i0 _ 3 32 Try.underlying32 hi0 hz0 hz1 hz2 rfl (by omega) (.slice none 0 0) 0 [] rfl (World.ownsRow_nil _ _ _ _) ⟨g, 0, none⟩ f.out.length oc (f.out.flatMap cVal) rfl (flat_len cVal_len _) HC.out (val_one _) hpos (by unfold maxLen; omega) (by omega) (by omega) w.heap.size rfl ?_))
  intro gg cap w1 hown1 hgrow hat hlt
  have hS : Same w w1 := (Fr.refl _ w).grown hgrow (fun k e => by simp [Value.ownBlock] at e)
  have hv : Owns w1 64 3 cVal (.slice (some ⟨gg, 0, none⟩) f.out.length cap) f.out := by
    unfold Owns
    simpa using hown1
  have hge : w.heap.size ≤ gg := by
    rcases hat with e | e
    · simp [Value.ownBlock] at e
    · omega
  have h := HX.out.1.same hS
  have c8 : w1.cell? ⟨b, 8, none⟩ = some (.nilIface) := cellOf h.blk 8 rfl
  have c7 : w1.cell? ⟨b, 7, none⟩ = some (.int .i64 (f.next : Nat)) := cellOf h.blk 7 rfl
  have c4 : w1.cell? ⟨b, 4, none⟩ = some (.int .i64 (f.n : Nat)) := cellOf h.blk 4 rfl
  have HW := Px.hid (And.intro hS (And.intro hv hge))
  clear hown1 hgrow hat hlt hS hv hge h HC c5
  go_wp2_with fail
  go_quiet (fail)
  go_wp2
  go_ret3
  exact EndPost.none HE.out (HW.out.1.drewN nq)
set_option maxRecDepth 100000 in
set_option maxHeartbeats 4000000 in
theorem end_word (b : Nat) (f : J6.Feed) (r : Bytes) (F : Nat → Prop) (w : World) (h : FeedAt w b f F) (hb0 : f.lim.b ≠ 0) (he : f.err = 0) (hol : f.out.length ≤ 4096) (hnow : f.now = .word r) (hout : f.out ≠ []) :
    Calls Try.prog 13 #[.pointer (some ⟨b, 0, none⟩)] w (EndPost w f) := by
  have h0 : (f.lim.b == 0) = false := by simpa using hb0
  obtain ⟨vo, vs, tv, tb, ps, h, hF⟩ := h
  have c2 : w.cell? ⟨b, 2, none⟩ = some (.int .i64 f.lim.b) := cellOf h.blk 2 rfl
  have c9 : w.cell? ⟨b, 9, none⟩ = some (.int .i64 f.err) := cellOf h.blk 9 rfl
  clear hb0
  rw [he] at c9
  have hne0 : (f.err != 0) = false := by simp [he]
  have HE := Px.hid (show J6.End f = ([], (f.n : Int), 9) by unfold J6.End; rw [if_neg (by rw [hne0]; simp), hnow])
  obtain ⟨kt, htv⟩ : ∃ kt, tv = .iface 107 (.pointer (some ⟨kt, 0, none⟩)) := by
    have ht : TokIs w tv tb (.word r) := by rw [← hnow]; exact h.parts.tok
    obtain ⟨k, x⟩ := ht
    exact ⟨k, x.1⟩
  subst htv
  clear hnow hne0
  obtain ⟨m, a, hm, ha⟩ := last_of hout
  obtain ⟨g, oc, hov, _, _, _, _, _, _⟩ := h.val ha
  have c5 : w.cell? ⟨b, 5, none⟩ = some (.slice (some ⟨g, 0, none⟩) f.out.length oc) := by rw [← hov]; exact cellOf h.blk 5 rfl
  have hpos : 0 < f.out.length := by omega
  have hown : w.ownsRow 0 64 3 (.slice (some ⟨g, 0, none⟩) f.out.length oc) f.out.length (f.out.flatMap cVal) := by have := h.parts.out; rw [hov] at this; exact this
  have HC := Px.hid (hown.cells (g := g) rfl)
  obtain ⟨i0, hi0, hz0, hz1, hz2⟩ := info_parts Try.infoVal
  have HX := Px.hid (And.intro h (And.intro hm ha))
  clear h hF hov he hown hout hm ha
  go_enter Try.func13, Try.ntmps13
  go_wp2_with (at_builtin; go_must (refine wpList_append_lies _ rfl _ _ _ rfl 0 64 i0 _ 3 32 Try.underlying32 hi0 hz0 hz1 hz2 rfl (by omega) (.slice none 0 0) 0 [] rfl (World.ownsRow_nil _ _ _ _) ⟨g, 0, none⟩ f.out.length oc (f.out.flatMap cVal) rfl (flat_len cVal_len _) HC.out (val_one _) hpos (by unfold maxLen; omega) (by omega) (by omega) w.heap.size rfl ?_))
  intro gg cap w1 hown1 hgrow hat hlt
  have hS : Same w w1 := (Fr.refl _ w).grown hgrow (fun k e => by simp [Value.ownBlock] at e)
  have hv : Owns w1 64 3 cVal (.slice (some ⟨gg, 0, none⟩) f.out.length cap) f.out := by
    unfold Owns
    simpa using hown1
  have hge : w.heap.size ≤ gg := by
    rcases hat with e | e
    · simp [Value.ownBlock] at e
    · omega
  have h := HX.out.1.same hS
  have c8 : w1.cell? ⟨b, 8, none⟩ = some (.iface 107 (.pointer (some ⟨kt, 0, none⟩))) := cellOf h.blk 8 rfl
  have c7 : w1.cell? ⟨b, 7, none⟩ = some (.int .i64 (f.next : Nat)) := cellOf h.blk 7 rfl
  have c4 : w1.cell? ⟨b, 4, none⟩ = some (.int .i64 (f.n : Nat)) := cellOf h.blk 4 rfl
  have HW := Px.hid (And.intro hS (And.intro hv hge))
  clear hown1 hgrow hat hlt hS hv hge h HC c5
  go_wp2_with fail
  go_quiet (fail)
  go_wp2
  go_ret3
  exact EndPost.none HE.out (HW.out.1.drewN nq)
set_option maxRecDepth 100000 in
set_option maxHeartbeats 4000000 in
theorem end_str (b : Nat) (f : J6.Feed) (t : J6.Txt) (F : Nat → Prop) (w : World) (h : FeedAt w b f F) (hb0 : f.lim.b ≠ 0) (he : f.err = 0) (hol : f.out.length ≤ 4096) (hnow : f.now = .str t) (hout : f.out ≠ []) :
    Calls Try.prog 13 #[.pointer (some ⟨b, 0, none⟩)] w (EndPost w f) := by
  have h0 : (f.lim.b == 0) = false := by simpa using hb0
  obtain ⟨vo, vs, tv, tb, ps, h, hF⟩ := h
  have c2 : w.cell? ⟨b, 2, none⟩ = some (.int .i64 f.lim.b) := cellOf h.blk 2 rfl
  have c9 : w.cell? ⟨b, 9, none⟩ = some (.int .i64 f.err) := cellOf h.blk 9 rfl
  clear hb0
  rw [he] at c9
  have hne0 : (f.err != 0) = false := by simp [he]
  have HE := Px.hid (show J6.End f = ([], (f.n : Int), 9) by unfold J6.End; rw [if_neg (by rw [hne0]; simp), hnow])
  obtain ⟨kt, htv⟩ : ∃ kt, tv = .iface 87 (.pointer (some ⟨kt, 0, none⟩)) := by
    have ht : TokIs w tv tb (.str t) := by rw [← hnow]; exact h.parts.tok
    obtain ⟨k, x⟩ := ht
    obtain ⟨vt, x⟩ := x
    exact ⟨k, x.1⟩
  subst htv
  clear hnow hne0
  obtain ⟨m, a, hm, ha⟩ := last_of hout
  obtain ⟨g, oc, hov, _, _, _, _, _, _⟩ := h.val ha
  have c5 : w.cell? ⟨b, 5, none⟩ = some (.slice (some ⟨g, 0, none⟩) f.out.length oc) := by rw [← hov]; exact cellOf h.blk 5 rfl
  have hpos : 0 < f.out.length := by omega
  have hown : w.ownsRow 0 64 3 (.slice (some ⟨g, 0, none⟩) f.out.length oc) f.out.length (f.out.flatMap cVal) := by have := h.parts.out; rw [hov] at this; exact this
  have HC := Px.hid (hown.cells (g := g) rfl)
  obtain ⟨i0, hi0, hz0, hz1, hz2⟩ := info_parts Try.infoVal
  have HX := Px.hid (And.intro h (And.intro hm ha))
  clear h hF hov he hown hout hm ha
  go_enter Try.func13, Try.ntmps13
  go_wp2_with (at_builtin; go_must (refine wpList_append_lies _ rfl _ _ _ rfl 0 64 i0 _ 3 32 Try.underlying32 hi0 hz0 hz1 hz2 rfl (by omega) (.slice none 0 0) 0 [] rfl (World.ownsRow_nil _ _ _ _) ⟨g, 0, none⟩ f.out.length oc (f.out.flatMap cVal) rfl (flat_len cVal_len _) HC.out (val_one _) hpos (by unfold maxLen; omega) (by omega) (by omega) w.heap.size rfl ?_))
  intro gg cap w1 hown1 hgrow hat hlt
  have hS : Same w w1 := (Fr.refl _ w).grown hgrow (fun k e => by simp [Value.ownBlock] at e)
  have hv : Owns w1 64 3 cVal (.slice (some ⟨gg, 0, none⟩) f.out.length cap) f.out := by
    unfold Owns
    simpa using hown1
  have hge : w.heap.size ≤ gg := by
    rcases hat with e | e
    · simp [Value.ownBlock] at e
    · omega
  have h := HX.out.1.same hS
  have c8 : w1.cell? ⟨b, 8, none⟩ = some (.iface 87 (.pointer (some ⟨kt, 0, none⟩))) := cellOf h.blk 8 rfl
  have c7 : w1.cell? ⟨b, 7, none⟩ = some (.int .i64 (f.next : Nat)) := cellOf h.blk 7 rfl
  have c4 : w1.cell? ⟨b, 4, none⟩ = some (.int .i64 (f.n : Nat)) := cellOf h.blk 4 rfl
  have HW := Px.hid (And.intro hS (And.intro hv hge))
  clear hown1 hgrow hat hlt hS hv hge h HC c5
  go_wp2_with fail
  go_quiet (fail)
  go_wp2
  go_ret3
  exact EndPost.none HE.out (HW.out.1.drewN nq)
set_option maxRecDepth 100000 in
set_option maxHeartbeats 4000000 in
theorem end_numw (b : Nat) (f : J6.Feed) (q : Nat) (t : Bytes) (F : Nat → Prop) (w : World) (h : FeedAt w b f F) (hb0 : f.lim.b ≠ 0) (he : f.err = 0) (hol : f.out.length ≤ 4096) (hnow : f.now = .num q t) (hout : f.out ≠ []) (hq : q ≤ 8) (hw : R6.numEnd q = false) :
    Calls Try.prog 13 #[.pointer (some ⟨b, 0, none⟩)] w (EndPost w f) := by
  have h0 : (f.lim.b == 0) = false := by simpa using hb0
  obtain ⟨vo, vs, tv, tb, ps, h, hF⟩ := h
  have c2 : w.cell? ⟨b, 2, none⟩ = some (.int .i64 f.lim.b) := cellOf h.blk 2 rfl
  have c9 : w.cell? ⟨b, 9, none⟩ = some (.int .i64 f.err) := cellOf h.blk 9 rfl
  clear hb0
  rw [he] at c9
  have hne0 : (f.err != 0) = false := by simp [he]
  have HE := Px.hid (show J6.End f = ([], (f.n : Int), 9) by unfold J6.End; rw [if_neg (by rw [hne0]; simp), hnow]; simp only; rw [if_neg (by rw [hw]; simp)])
  obtain ⟨kt, vt, htv, htb, hna⟩ : TokIs w tv tb (.num q t) := by rw [← hnow]; exact h.parts.tok
  subst htv
  have HQ := Px.hid hw
  clear hw
  have HNA := Px.hid hna
  have HTB := Px.hid htb
  clear hnow hne0 hna htb
  obtain ⟨m, a, hm, ha⟩ := last_of hout
  obtain ⟨g, oc, hov, _, _, _, _, _, _⟩ := h.val ha
  have c5 : w.cell? ⟨b, 5, none⟩ = some (.slice (some ⟨g, 0, none⟩) f.out.length oc) := by rw [← hov]; exact cellOf h.blk 5 rfl
  have hpos : 0 < f.out.length := by omega
  have hown : w.ownsRow 0 64 3 (.slice (some ⟨g, 0, none⟩) f.out.length oc) f.out.length (f.out.flatMap cVal) := by have := h.parts.out; rw [hov] at this; exact this
  have HC := Px.hid (hown.cells (g := g) rfl)
  obtain ⟨i0, hi0, hz0, hz1, hz2⟩ := info_parts Try.infoVal
  have HX := Px.hid (And.intro h (And.intro hm ha))
  clear h hF hov he hown hout hm ha
  go_enter Try.func13, Try.ntmps13
  go_wp2_with (at_builtin; go_must (refine wpList_append_lies _ rfl _ _ _ rfl 0 64 i0 _ 3 32 Try.underlying32 hi0 hz0 hz1 hz2 rfl (by omega) (.slice none 0 0) 0 [] rfl (World.ownsRow_nil _ _ _ _) ⟨g, 0, none⟩ f.out.length oc (f.out.flatMap cVal) rfl (flat_len cVal_len _) HC.out (val_one _) hpos (by unfold maxLen; omega) (by omega) (by omega) w.heap.size rfl ?_))
  intro gg cap w1 hown1 hgrow hat hlt
  have hS : Same w w1 := (Fr.refl _ w).grown hgrow (fun k e => by simp [Value.ownBlock] at e)
  have hv : Owns w1 64 3 cVal (.slice (some ⟨gg, 0, none⟩) f.out.length cap) f.out := by
    unfold Owns
    simpa using hown1
  have hge : w.heap.size ≤ gg := by
    rcases hat with e | e
    · simp [Value.ownBlock] at e
    · omega
  have h := HX.out.1.same hS
  have c8 : w1.cell? ⟨b, 8, none⟩ = some (.iface 58 (.pointer (some ⟨kt, 0, none⟩))) := cellOf h.blk 8 rfl
  have c7 : w1.cell? ⟨b, 7, none⟩ = some (.int .i64 (f.next : Nat)) := cellOf h.blk 7 rfl
  have c4 : w1.cell? ⟨b, 4, none⟩ = some (.int .i64 (f.n : Nat)) := cellOf h.blk 4 rfl
  have hna : NumAt w1 kt q t vt := by
    exact ⟨HNA.out.blk |> fun x => (hS.block kt (ltOf x) (fun y => y)).trans x, Owns.same HNA.out.text hS, HNA.out.tb⟩
  have HWH := Px.hid (num_whole kt q hq w1 (cellOf hna.blk 0 rfl))
  have n1 : w1.cell? ⟨kt, 1, none⟩ = some vt := cellOf hna.blk 1 rfl
  have HT := Px.hid hna.text
  obtain ⟨sa, sc, hsv, _⟩ := h.stackLen
  have c6 : w1.cell? ⟨b, 6, none⟩ = some (.slice sa f.stack.length sc) := by rw [← hsv]; exact cellOf h.blk 6 rfl
  clear hna hsv
  have HW := Px.hid (And.intro hS (And.intro hv hge))
  clear hown1 hgrow hat hlt hS hv hge h HC c5
  go_wp2_with fail
  refine HWH.out.mono ?_
  rintro e w2 ⟨rfl, rfl⟩
  rw [HQ.out]
  go_wp2_with fail
  go_quiet (fail)
  go_wp2
  go_ret3
  exact EndPost.none HE.out (HW.out.1.drewN nq)
set_option maxRecDepth 100000 in
set_option maxHeartbeats 4000000 in
theorem end_nums (b : Nat) (f : J6.Feed) (q : Nat) (t : Bytes) (F : Nat → Prop) (w : World) (h : FeedAt w b f F) (hb0 : f.lim.b ≠ 0) (he : f.err = 0) (hol : f.out.length ≤ 4096) (hnow : f.now = .num q t) (hout : f.out ≠ []) (hq : q ≤ 8) (hw : R6.numEnd q = true) (hst : f.stack ≠ []) :
    Calls Try.prog 13 #[.pointer (some ⟨b, 0, none⟩)] w (EndPost w f) := by
  have h0 : (f.lim.b == 0) = false := by simpa using hb0
  obtain ⟨vo, vs, tv, tb, ps, h, hF⟩ := h
  have c2 : w.cell? ⟨b, 2, none⟩ = some (.int .i64 f.lim.b) := cellOf h.blk 2 rfl
  have c9 : w.cell? ⟨b, 9, none⟩ = some (.int .i64 f.err) := cellOf h.blk 9 rfl
  clear hb0
  rw [he] at c9
  have hne0 : (f.err != 0) = false := by simp [he]
  have HE := Px.hid (show J6.End f = ([], (f.n : Int), 9) by unfold J6.End; rw [if_neg (by rw [hne0]; simp), hnow]; simp only; rw [if_neg (by rw [hw]; simpa using hst)])
  obtain ⟨kt, vt, htv, htb, hna⟩ : TokIs w tv tb (.num q t) := by rw [← hnow]; exact h.parts.tok
  subst htv
  have HQ := Px.hid hw
  have hs0 : ((f.stack.length : Int) == 0) = false := by have := List.length_pos_iff.2 hst; simp; omega
  clear hw hst
  have HNA := Px.hid hna
  have HTB := Px.hid htb
  clear hnow hne0 hna htb
  obtain ⟨m, a, hm, ha⟩ := last_of hout
  obtain ⟨g, oc, hov, _, _, _, _, _, _⟩ := h.val ha
  have c5 : w.cell? ⟨b, 5, none⟩ = some (.slice (some ⟨g, 0, none⟩) f.out.length oc) := by rw [← hov]; exact cellOf h.blk 5 rfl
  have hpos : 0 < f.out.length := by omega
  have hown : w.ownsRow 0 64 3 (.slice (some ⟨g, 0, none⟩) f.out.length oc) f.out.length (f.out.flatMap cVal) := by have := h.parts.out; rw [hov] at this; exact this
  have HC := Px.hid (hown.cells (g := g) rfl)
  obtain ⟨i0, hi0, hz0, hz1, hz2⟩ := info_parts Try.infoVal
  have HX := Px.hid (And.intro h (And.intro hm ha))
  clear h hF hov he hown hout hm ha
  go_enter Try.func13, Try.ntmps13
  go_wp2_with (at_builtin; go_must (refine wpList_append_lies _ rfl _ _ _ rfl 0 64 i0 _ 3 32 Try.underlying32 hi0 hz0 hz1 hz2 rfl (by omega) (.slice none 0 0) 0 [] rfl (World.ownsRow_nil _ _ _ _) ⟨g, 0, none⟩ f.out.length oc (f.out.flatMap cVal) rfl (flat_len cVal_len _) HC.out (val_one _) hpos (by unfold maxLen; omega) (by omega) (by omega) w.heap.size rfl ?_))
  intro gg cap w1 hown1 hgrow hat hlt
  have hS : Same w w1 := (Fr.refl _ w).grown hgrow (fun k e => by simp [Value.ownBlock] at e)
  have hv : Owns w1 64 3 cVal (.slice (some ⟨gg, 0, none⟩) f.out.length cap) f.out := by
    unfold Owns
    simpa using hown1
  have hge : w.heap.size ≤ gg := by
    rcases hat with e | e
    · simp [Value.ownBlock] at e
    · omega
  have h := HX.out.1.same hS
  have c8 : w1.cell? ⟨b, 8, none⟩ = some (.iface 58 (.pointer (some ⟨kt, 0, none⟩))) := cellOf h.blk 8 rfl
  have c7 : w1.cell? ⟨b, 7, none⟩ = some (.int .i64 (f.next : Nat)) := cellOf h.blk 7 rfl
  have c4 : w1.cell? ⟨b, 4, none⟩ = some (.int .i64 (f.n : Nat)) := cellOf h.blk 4 rfl
  have hna : NumAt w1 kt q t vt := by
    exact ⟨HNA.out.blk |> fun x => (hS.block kt (ltOf x) (fun y => y)).trans x, Owns.same HNA.out.text hS, HNA.out.tb⟩
  have HWH := Px.hid (num_whole kt q hq w1 (cellOf hna.blk 0 rfl))
  have n1 : w1.cell? ⟨kt, 1, none⟩ = some vt := cellOf hna.blk 1 rfl
  have HT := Px.hid hna.text
  obtain ⟨sa, sc, hsv, _⟩ := h.stackLen
  have c6 : w1.cell? ⟨b, 6, none⟩ = some (.slice sa f.stack.length sc) := by rw [← hsv]; exact cellOf h.blk 6 rfl
  clear hna hsv
  have HW := Px.hid (And.intro hS (And.intro hv hge))
  clear hown1 hgrow hat hlt hS hv hge h HC c5
  go_wp2_with fail
  refine HWH.out.mono ?_
  rintro e w2 ⟨rfl, rfl⟩
  rw [HQ.out]
  go_wp2_with fail
  go_quiet (fail)
  go_wp2
  go_ret3
  exact EndPost.none HE.out (HW.out.1.drewN nq)
set_option maxRecDepth 100000 in
set_option maxHeartbeats 4000000 in
theorem end_numok (b : Nat) (f : J6.Feed) (q : Nat) (t : Bytes) (F : Nat → Prop) (w : World) (h : FeedAt w b f F) (hb0 : f.lim.b ≠ 0) (he : f.err = 0) (hol : f.out.length ≤ 4096) (hnow : f.now = .num q t) (hout : f.out ≠ []) (hq : q ≤ 8) (hw : R6.numEnd q = true) (hst : f.stack = []) :
    Calls Try.prog 13 #[.pointer (some ⟨b, 0, none⟩)] w (EndPost w f) := by
  have h0 : (f.lim.b == 0) = false := by simpa using hb0
  obtain ⟨vo, vs, tv, tb, ps, h, hF⟩ := h
  have c2 : w.cell? ⟨b, 2, none⟩ = some (.int .i64 f.lim.b) := cellOf h.blk 2 rfl
  have c9 : w.cell? ⟨b, 9, none⟩ = some (.int .i64 f.err) := cellOf h.blk 9 rfl
  clear hb0
  rw [he] at c9
  have hne0 : (f.err != 0) = false := by simp [he]
  have HE := Px.hid (show J6.End f = (R6.setText f.out (f.out.length - 1) t, 0, 0) by unfold J6.End; rw [if_neg (by rw [hne0]; simp), hnow]; simp only; rw [if_pos (by rw [hw, hst]; rfl)])
  obtain ⟨kt, vt, htv, htb, hna⟩ : TokIs w tv tb (.num q t) := by rw [← hnow]; exact h.parts.tok
  subst htv
  have HQ := Px.hid hw
  have HST := Px.hid hst
  clear hw hst
  have HNA := Px.hid hna
  have HTB := Px.hid htb
  clear hnow hne0 hna htb
  obtain ⟨m, a, hm, ha⟩ := last_of hout
  obtain ⟨g, oc, hov, _, _, _, _, _, _⟩ := h.val ha
  have c5 : w.cell? ⟨b, 5, none⟩ = some (.slice (some ⟨g, 0, none⟩) f.out.length oc) := by rw [← hov]; exact cellOf h.blk 5 rfl
  have hpos : 0 < f.out.length := by omega
  have hown : w.ownsRow 0 64 3 (.slice (some ⟨g, 0, none⟩) f.out.length oc) f.out.length (f.out.flatMap cVal) := by have := h.parts.out; rw [hov] at this; exact this
  have HC := Px.hid (hown.cells (g := g) rfl)
  obtain ⟨i0, hi0, hz0, hz1, hz2⟩ := info_parts Try.infoVal
  have HX := Px.hid (And.intro h (And.intro hm ha))
  clear h hF hov he hown hout hm ha
  go_enter Try.func13, Try.ntmps13
  go_wp2_with (at_builtin; go_must (refine wpList_append_lies _ rfl _ _ _ rfl 0 64 i0 _ 3 32 Try.underlying32 hi0 hz0 hz1 hz2 rfl (by omega) (.slice none 0 0) 0 [] rfl (World.ownsRow_nil _ _ _ _) ⟨g, 0, none⟩ f.out.length oc (f.out.flatMap cVal) rfl (flat_len cVal_len _) HC.out (val_one _) hpos (by unfold maxLen; omega) (by omega) (by omega) w.heap.size rfl ?_))
  intro gg cap w1 hown1 hgrow hat hlt
  have hS : Same w w1 := (Fr.refl _ w).grown hgrow (fun k e => by simp [Value.ownBlock] at e)
  have hv : Owns w1 64 3 cVal (.slice (some ⟨gg, 0, none⟩) f.out.length cap) f.out := by
    unfold Owns
    simpa using hown1
  have hge : w.heap.size ≤ gg := by
    rcases hat with e | e
    · simp [Value.ownBlock] at e
    · omega
  have h := HX.out.1.same hS
  have c8 : w1.cell? ⟨b, 8, none⟩ = some (.iface 58 (.pointer (some ⟨kt, 0, none⟩))) := cellOf h.blk 8 rfl
  have c7 : w1.cell? ⟨b, 7, none⟩ = some (.int .i64 (f.next : Nat)) := cellOf h.blk 7 rfl
  have c4 : w1.cell? ⟨b, 4, none⟩ = some (.int .i64 (f.n : Nat)) := cellOf h.blk 4 rfl
  have hna : NumAt w1 kt q t vt := by
    exact ⟨HNA.out.blk |> fun x => (hS.block kt (ltOf x) (fun y => y)).trans x, Owns.same HNA.out.text hS, HNA.out.tb⟩
  have HWH := Px.hid (num_whole kt q hq w1 (cellOf hna.blk 0 rfl))
  have n1 : w1.cell? ⟨kt, 1, none⟩ = some vt := cellOf hna.blk 1 rfl
  have HT := Px.hid hna.text
  obtain ⟨sa, sc, hsv, _⟩ := h.stackLen
  have c6 : w1.cell? ⟨b, 6, none⟩ = some (.slice sa f.stack.length sc) := by rw [← hsv]; exact cellOf h.blk 6 rfl
  clear hna hsv
  rw [HST.out] at c6
  have HW := Px.hid (And.intro hS (And.intro hv hge))
  clear hown1 hgrow hat hlt hS hv hge h HC c5
  go_wp2_with fail
  refine HWH.out.mono ?_
  rintro e w2 ⟨rfl, rfl⟩
  rw [HQ.out]
  go_upto_region 8 with fail
  have hml := HX.out.2.1
  obtain ⟨g2, cap2, hv2, hc3, hc4, hc5, hc6⟩ := Owns.at HW.out.2.1 cVal_len HX.out.2.2
  simp only [Value.slice.injEq, Option.some.injEq, Addr.mk.injEq, and_true, true_and] at hv2
  obtain ⟨hg2, hcap2⟩ := hv2
  subst hg2
  subst hcap2
  have q2 := hc5 2 (S a.text) rfl
  have qf := hc6 (m * 3 + 2)
  rw [hml] at hc3 ⊢
  have hcv : (convert 60 9 vt).run Try.prog w1 = .ok (S t) w1 := Owns.str HT.out (by kernel_rfl) (by kernel_rfl) (by kernel_rfl)
  have hset : Owns (w1.setCell ⟨gg, m * 3 + 2, none⟩ (S t)) 64 3 cVal (.slice (some ⟨gg, 0, none⟩) f.out.length cap) (f.out.set m { a with text := t }) := owns_setAt cVal_len HW.out.2.1 HX.out.2.2 2 (by decide) (S t) rfl
  have hlst : R6.setText f.out (f.out.length - 1) t = f.out.set m { a with text := t } := by
    unfold R6.setText
    rw [hml, Nat.add_sub_cancel]
    exact modify_set f.out m a _ HX.out.2.2
  have HZ := Px.hid (And.intro hset (And.intro hlst (Fr.setCell HW.out.1 (p := ⟨gg, m * 3 + 2, none⟩) (.inr HW.out.2.2) (S t))))
  have HML := Px.hid hml
  have hol' : m + 1 ≤ 4096 := by omega
  unfold maxLen at hc4
  clear hset hlst hc5 hc6 hml hol
  go_wp2
  go_ret3
  rw [← HML.out]
  refine EndPost.some HE.out ?_ HZ.out.2.2 (fun k hk => by have e : gg = k := Option.some.inj hk; have := HW.out.2.2; omega)
  rw [HZ.out.2.1]
  exact HZ.out.1
/-- End, whole, of a feed of which the invariant holds. -/
theorem end_any (b : Nat) (f : J6.Feed) (F : Nat → Prop) (w : World) (h : FeedAt w b f F) (hok : J6.Fits f) :
    Calls Try.prog 13 #[.pointer (some ⟨b, 0, none⟩)] w (EndPost w f) := by
  have hm := J6.may_parts6 hok.may
  have hb0 : f.lim.b ≠ 0 := by omega
  by_cases he : f.err = 0
  · have ho := hok.ok he
    have hol : f.out.length ≤ 4096 := by have := ho.ol; omega
    have htk := ho.tk
    have hne := ho.ne
    cases hnow : f.now with
    | none =>
      by_cases hnx : f.next = 6
      · by_cases hout : f.out = []
        · exact end_done_e b f F w h hb0 he hnow hnx hout
        · exact end_done_f b f F w h hb0 he hol hnow hnx hout
      · by_cases hout : f.out = []
        · exact end_open_e b f F w h hb0 he hnow hnx hout
        · exact end_open_f b f F w h hb0 he hol hnow hnx hout
    | word r => exact end_word b f r F w h hb0 he hol hnow (hne (by rw [hnow]; intro e; cases e))
    | str t => exact end_str b f t F w h hb0 he hol hnow (hne (by rw [hnow]; intro e; cases e))
    | num q t =>
      have hout := hne (by rw [hnow]; intro e; cases e)
      rw [hnow] at htk
      cases hw : R6.numEnd q with
      | false => exact end_numw b f q t F w h hb0 he hol hnow hout htk.1 hw
      | true =>
        by_cases hst : f.stack = []
        · exact end_numok b f q t F w h hb0 he hol hnow hout htk.1 hw hst
        · exact end_nums b f q t F w h hb0 he hol hnow hout htk.1 hw hst
  · exact end_err b f F w h hb0 he
end Go.Proofs.Ytahojodgmjmpnaa
