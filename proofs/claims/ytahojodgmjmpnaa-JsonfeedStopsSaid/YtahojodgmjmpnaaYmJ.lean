/-
  The walk over jsonfeed's finish (printed by gen_ym.py).
-/
import Derived.Test.YtahojodgmjmpnaaYlJ
import Derived.Test.YtahojodgmjmpnaaYiJ
namespace Go.Proofs.Ytahojodgmjmpnaa
open Go.RowKit Go.Px
@[go_sem] theorem ta_num_word (v : Value) (w : World) : (Instr.typeAssert (.iface 107 v) 44 58 true).run Try.prog w = .ok (.tuple #[.pointer none, .bool false]) w := by kernel_rfl
@[go_sem] theorem ta_text_word (v : Value) (w : World) : (Instr.typeAssert (.iface 107 v) 44 87 true).run Try.prog w = .ok (.tuple #[.pointer none, .bool false]) w := by kernel_rfl
@[go_sem] theorem ta_num_text (v : Value) (w : World) : (Instr.typeAssert (.iface 87 v) 44 58 true).run Try.prog w = .ok (.tuple #[.pointer none, .bool false]) w := by kernel_rfl
@[go_sem] theorem ta_text_text (v : Value) (w : World) : (Instr.typeAssert (.iface 87 v) 44 87 true).run Try.prog w = .ok (.tuple #[v, .bool true]) w := by kernel_rfl
@[go_sem] theorem ta_num_num (v : Value) (w : World) : (Instr.typeAssert (.iface 58 v) 44 58 true).run Try.prog w = .ok (.tuple #[v, .bool true]) w := by kernel_rfl
theorem After.bind {w w1 : World} {b : Nat} {f f' : J6.Feed} {F : Nat → Prop} {n : Nat} {args : Array Value} {V : Value} (hA : After w w1 b f F)
    (k : ∀ F1, FeedAt w1 b f F1 → Calls Try.prog n args w1 fun r w' => r = .returned V ∧ After w1 w' b f' F1) : Calls Try.prog n args w1 fun r w' => r = .returned V ∧ After w w' b f' F := by
  obtain ⟨F1, h1, h2, h3⟩ := hA
  refine (k F1 h1).mono ?_
  rintro r w' ⟨rfl, F2, k1, k2, k3⟩
  exact ⟨rfl, F2, k1, h2.step h3 k2, Fresh.trans h3 h2.size k3⟩
theorem Try.infoStr : (Try.prog.info? 9).map (fun i => (i.zero, i.size, i.bytes)) = some (some (.string ByteArray.empty), 1, 16) := by kernel_rfl
/-- The last value of a list that is not empty. -/
theorem last_of {l : List Val} (h : l ≠ []) : ∃ m a, l.length = m + 1 ∧ l[m]? = some a := by
  obtain ⟨m, hm⟩ : ∃ m, l.length = m + 1 := ⟨l.length - 1, by have := List.length_pos_iff.2 h; omega⟩
  exact ⟨m, l[m], hm, List.getElem?_eq_getElem (by omega)⟩
set_option maxRecDepth 100000 in
set_option maxHeartbeats 4000000 in
theorem finish_word (b : Nat) (f : J6.Feed) (r : Bytes) (F : Nat → Prop) (w : World) (h : FeedAt w b f F) (hol : f.out.length ≤ 4096) (hsl : f.stack.length ≤ 32) (hout : f.out ≠ []) (hnow : f.now = .word r) :
    Calls Try.prog 27 #[.pointer (some ⟨b, 0, none⟩)] w fun r w' => r = .returned (.tuple #[]) ∧ After w w' b (J6.over { f with now := .none }) F := by
  obtain ⟨m, a, hm, ha⟩ := last_of hout
  obtain ⟨vo, vs, tv, tb, ps, h, hF⟩ := h
  obtain ⟨go, co, hvo, o1, o2, q0, q1, q2, qf⟩ := h.val ha
  have hb : b < w.heap.size := h.lt
  have c5 : w.cell? ⟨b, 5, none⟩ = some vo := cellOf h.blk 5 rfl
  rw [hvo, hm] at c5
  rw [hm] at hol o1
  have c8 : w.cell? ⟨b, 8, none⟩ = some tv := cellOf h.blk 8 rfl
  have f8 := h.free 8
  obtain ⟨k, htv, _, _⟩ : TokIs w tv tb (.word r) := by rw [← hnow]; exact h.parts.tok
  rw [htv] at c8
  have hd := h.drop
  have HV := Px.hid (fun F1 => over_ok b { f with now := .none } F1 hsl)
  have hkeep : ∀ nq, After w ((w.drewN nq).setCell ⟨b, 8, none⟩ .nilIface) b { f with now := .none } F := fun nq => by
    have hd := (h.drewN nq).drop
    rw [hF]
    refine ⟨_, ⟨_, _, _, _, _, hd, rfl⟩, (((Fr.refl _ w).drewN nq)).setCell (p := ⟨b, 8, none⟩) (.inl (.inl rfl)) _, Fresh.foot fun j e => .inl ?_⟩
    rcases mem_blocks.1 e with x | x | x | x
    · exact mem_blocks.2 (.inl x)
    · exact mem_blocks.2 (.inr (.inl x))
    · cases x
    · exact mem_blocks.2 (.inr (.inr (.inr x)))
  have HK := Px.hid hkeep
  unfold maxLen at o2
  clear hd hkeep h hF hvo ha hout hnow htv qf q0 q1 q2 hsl hm
  go_enter Try.func27, Try.ntmps27
  go_wp2_with fail
  go_quiet (fail)
  go_wp2_with fail
  refine (After.bind (HK.out nq) (fun F1 h1 => HV.out F1 _ h1)).mono ?_
  rintro e w2 ⟨rfl, hA⟩
  have HA := Px.hid hA
  clear hA
  go_wp2
  go_end0
  exact ⟨rfl, HA.out⟩
set_option maxRecDepth 100000 in
set_option maxHeartbeats 4000000 in
theorem finish_num (b : Nat) (f : J6.Feed) (q : Nat) (t : Bytes) (F : Nat → Prop) (w : World) (h : FeedAt w b f F) (hol : f.out.length ≤ 4096) (hsl : f.stack.length ≤ 32) (hout : f.out ≠ []) (hnow : f.now = .num q t) :
    Calls Try.prog 27 #[.pointer (some ⟨b, 0, none⟩)] w fun r w' => r = .returned (.tuple #[]) ∧ After w w' b (J6.over { f with now := .none, out := R6.setText f.out (f.out.length - 1) t }) F := by
  obtain ⟨m, a, hm, ha⟩ := last_of hout
  obtain ⟨vo, vs, tv, tb, ps, h, hF⟩ := h
  obtain ⟨go, co, hvo, o1, o2, q0, q1, q2, qf⟩ := h.val ha
  have hb : b < w.heap.size := h.lt
  have c5 : w.cell? ⟨b, 5, none⟩ = some vo := cellOf h.blk 5 rfl
  rw [hvo, hm] at c5
  rw [hm] at hol o1
  have c8 : w.cell? ⟨b, 8, none⟩ = some tv := cellOf h.blk 8 rfl
  have f8 := h.free 8
  have HV := Px.hid (fun F1 => over_ok b { f with now := .none, out := R6.setText f.out (f.out.length - 1) t } F1 hsl)
  clear hsl
  obtain ⟨k, vt, htv, htb, hna⟩ : TokIs w tv tb (.num q t) := by rw [← hnow]; exact h.parts.tok
  rw [htv] at c8
  have hkb : k ≠ b := fun e => h.nb (mem_blocks.2 (.inr (.inr (.inl (by rw [htb, e]; simp)))))
  have hvb : vt.ownBlock ≠ some b := fun e => h.nb (mem_blocks.2 (.inr (.inr (.inl (by rw [htb, ← e]; simp)))))
  have HK := Px.hid (fun nq : Nat => (h.drewN nq).drop)
  have HN := Px.hid (fun nq : Nat => (show ((w.drewN nq).setCell ⟨b, 8, none⟩ .nilIface).heap[k]? = w.heap[k]? from heap_setCell_other (w.drewN nq) ⟨b, 8, none⟩ k _ (fun e => hkb e)).trans hna.blk)
  have HT := Px.hid (fun nq : Nat => (hna.text.drewN nq).setCell (p := ⟨b, 8, none⟩) hvb .nilIface)
  have HF := Px.hid (And.intro hF (And.intro hvo (And.intro ha (And.intro hm hnow))))
  unfold maxLen at o2
  clear h hF hvo ha hout hnow htv htb hna hkb hvb qf q0 q1 q2 hm
  go_enter Try.func27, Try.ntmps27
  go_wp2_with fail
  go_quiet (fail)
  go_upto_region 6 with fail
  have hD := HK.out nq
  have hN := HN.out nq
  have hT := HT.out nq
  have hFr : Fr (foot b (blocks vo vs tb ps)) w ((w.drewN nq).setCell ⟨b, 8, none⟩ .nilIface) := ((Fr.refl _ w).drewN nq).setCell (p := ⟨b, 8, none⟩) (.inl (.inl rfl)) _
  obtain ⟨W1, hW1⟩ : ∃ W1, W1 = (w.drewN nq).setCell ⟨b, 8, none⟩ .nilIface := ⟨_, rfl⟩
  rw [← hW1] at hD hN hT hFr ⊢
  obtain ⟨go', co', hvo', _, _, q0, q1, q2, qf⟩ := hD.val (j := m) (a := a) HF.out.2.2.1
  have hgo : go' = go := by have := HF.out.2.1.symm.trans hvo'; simp only [Value.slice.injEq, Option.some.injEq, Addr.mk.injEq] at this; exact this.1.1.symm
  subst hgo
  have n1 : W1.cell? ⟨k, 1, none⟩ = some vt := cellOf hN 1 rfl
  have hcv : (convert 60 9 vt).run Try.prog W1 = .ok (S t) W1 := Owns.str hT (by kernel_rfl) (by kernel_rfl) (by kernel_rfl)
  have qf2 := qf (m * 3 + 2)
  have hb1 : b < W1.heap.size := hD.lt
  have hs : FeedRep (W1.setCell ⟨go', m * 3 + 2, none⟩ (S t)) b { f with now := .none, out := R6.setText f.out (f.out.length - 1) t } vo vs .nilIface [] ps := by
    have hD2 := hD
    rw [HF.out.2.1] at hD2 ⊢
    have e : R6.setText f.out (f.out.length - 1) t = f.out.set m { a with text := t } := by
      unfold R6.setText
      rw [HF.out.2.2.2.1, Nat.add_sub_cancel]
      exact modify_set f.out m a _ HF.out.2.2.1
    rw [e]
    exact hD2.setVal (j := m) (a := a) (a' := { a with text := t }) HF.out.2.2.1 2 (by decide) _ rfl
  have hbl : ∀ j, some j ∈ blocks vo vs [] ps → some j ∈ blocks vo vs tb ps := fun j e => by
    rcases mem_blocks.1 e with x | x | x | x
    · exact mem_blocks.2 (.inl x)
    · exact mem_blocks.2 (.inr (.inl x))
    · cases x
    · exact mem_blocks.2 (.inr (.inr (.inr x)))
  have hFr2 : Fr (foot b (blocks vo vs tb ps)) w (W1.setCell ⟨go', m * 3 + 2, none⟩ (S t)) := hFr.setCell (p := ⟨go', m * 3 + 2, none⟩) (.inl (.inr (mem_blocks.2 (.inl (by rw [HF.out.2.1]; rfl))))) _
  have hA0 : After w (W1.setCell ⟨go', m * 3 + 2, none⟩ (S t)) b { f with now := .none, out := R6.setText f.out (f.out.length - 1) t } F := by
    rw [HF.out.1]
    exact ⟨_, ⟨_, _, _, _, _, hs, rfl⟩, hFr2, Fresh.foot (fun j e => .inl (hbl j e))⟩
  have HS := Px.hid hs
  have HFR := Px.hid (And.intro hFr2 hbl)
  have HA0 := Px.hid hA0
  clear hW1 hN hT hFr hvo' qf hbl hFr2 hA0 hs hD c5 c8 f8
  go_wp2_with fail
  refine (After.bind HA0.out (fun F1 h1 => HV.out F1 _ h1)).mono ?_
  rintro e w2 ⟨rfl, hA⟩
  have HA := Px.hid hA
  clear hA
  go_wp2
  go_end0
  exact ⟨rfl, HA.out⟩
set_option maxRecDepth 100000 in
set_option maxHeartbeats 4000000 in
theorem finish_plain (b : Nat) (f : J6.Feed) (t : J6.Txt) (F : Nat → Prop) (w : World) (h : FeedAt w b f F) (hol : f.out.length ≤ 4096) (hsl : f.stack.length ≤ 32) (hout : f.out ≠ []) (hnow : f.now = .str t) (hnx : f.next ≠ 2) :
    Calls Try.prog 27 #[.pointer (some ⟨b, 0, none⟩)] w fun r w' => r = .returned (.tuple #[]) ∧ After w w' b (J6.over { f with now := .none, out := R6.setText f.out (f.out.length - 1) t.out }) F := by
  obtain ⟨m, a, hm, ha⟩ := last_of hout
  obtain ⟨vo, vs, tv, tb, ps, h, hF⟩ := h
  obtain ⟨go, co, hvo, o1, o2, q0, q1, q2, qf⟩ := h.val ha
  have hb : b < w.heap.size := h.lt
  have c5 : w.cell? ⟨b, 5, none⟩ = some vo := cellOf h.blk 5 rfl
  rw [hvo, hm] at c5
  rw [hm] at hol o1
  have c8 : w.cell? ⟨b, 8, none⟩ = some tv := cellOf h.blk 8 rfl
  have f8 := h.free 8
  have HV := Px.hid (fun F1 => over_ok b { f with now := .none, out := R6.setText f.out (f.out.length - 1) t.out } F1 hsl)
  have hx2 : ((f.next : Int) == 2) = false := by simp; omega
  clear hsl hnx
  obtain ⟨k, vt, htv, htb, hna⟩ : TokIs w tv tb (.str t) := by rw [← hnow]; exact h.parts.tok
  rw [htv] at c8
  have hkb : k ≠ b := fun e => h.nb (mem_blocks.2 (.inr (.inr (.inl (by rw [htb, e]; simp)))))
  have hvb : vt.ownBlock ≠ some b := fun e => h.nb (mem_blocks.2 (.inr (.inr (.inl (by rw [htb, ← e]; simp)))))
  have HK := Px.hid (fun nq : Nat => (h.drewN nq).drop)
  have HN := Px.hid (fun nq : Nat => (show ((w.drewN nq).setCell ⟨b, 8, none⟩ .nilIface).heap[k]? = w.heap[k]? from heap_setCell_other (w.drewN nq) ⟨b, 8, none⟩ k _ (fun e => hkb e)).trans hna.blk)
  have HT := Px.hid (fun nq : Nat => (hna.text.drewN nq).setCell (p := ⟨b, 8, none⟩) hvb .nilIface)
  have HF := Px.hid (And.intro hF (And.intro hvo (And.intro ha (And.intro hm hnow))))
  unfold maxLen at o2
  clear h hF hvo ha hout hnow htv htb hna hkb hvb qf q0 q1 q2 hm
  go_enter Try.func27, Try.ntmps27
  go_wp2_with fail
  go_quiet (fail)
  go_upto_region 9 with fail
  have hD := HK.out nq
  have hN := HN.out nq
  have hT := HT.out nq
  have hFr : Fr (foot b (blocks vo vs tb ps)) w ((w.drewN nq).setCell ⟨b, 8, none⟩ .nilIface) := ((Fr.refl _ w).drewN nq).setCell (p := ⟨b, 8, none⟩) (.inl (.inl rfl)) _
  obtain ⟨W1, hW1⟩ : ∃ W1, W1 = (w.drewN nq).setCell ⟨b, 8, none⟩ .nilIface := ⟨_, rfl⟩
  rw [← hW1] at hD hN hT hFr ⊢
  obtain ⟨go', co', hvo', _, _, q0, q1, q2, qf⟩ := hD.val (j := m) (a := a) HF.out.2.2.1
  have hgo : go' = go := by have := HF.out.2.1.symm.trans hvo'; simp only [Value.slice.injEq, Option.some.injEq, Addr.mk.injEq] at this; exact this.1.1.symm
  subst hgo
  have n1 : W1.cell? ⟨k, 1, none⟩ = some vt := cellOf hN 1 rfl
  have hcv : (convert 60 9 vt).run Try.prog W1 = .ok (S t.out) W1 := Owns.str hT (by kernel_rfl) (by kernel_rfl) (by kernel_rfl)
  have qf2 := qf (m * 3 + 2)
  have hb1 : b < W1.heap.size := hD.lt
  have hs : FeedRep (W1.setCell ⟨go', m * 3 + 2, none⟩ (S t.out)) b { f with now := .none, out := R6.setText f.out (f.out.length - 1) t.out } vo vs .nilIface [] ps := by
    have hD2 := hD
    rw [HF.out.2.1] at hD2 ⊢
    have e : R6.setText f.out (f.out.length - 1) t.out = f.out.set m { a with text := t.out } := by
      unfold R6.setText
      rw [HF.out.2.2.2.1, Nat.add_sub_cancel]
      exact modify_set f.out m a _ HF.out.2.2.1
    rw [e]
    exact hD2.setVal (j := m) (a := a) (a' := { a with text := t.out }) HF.out.2.2.1 2 (by decide) _ rfl
  have hbl : ∀ j, some j ∈ blocks vo vs [] ps → some j ∈ blocks vo vs tb ps := fun j e => by
    rcases mem_blocks.1 e with x | x | x | x
    · exact mem_blocks.2 (.inl x)
    · exact mem_blocks.2 (.inr (.inl x))
    · cases x
    · exact mem_blocks.2 (.inr (.inr (.inr x)))
  have hFr2 : Fr (foot b (blocks vo vs tb ps)) w (W1.setCell ⟨go', m * 3 + 2, none⟩ (S t.out)) := hFr.setCell (p := ⟨go', m * 3 + 2, none⟩) (.inl (.inr (mem_blocks.2 (.inl (by rw [HF.out.2.1]; rfl))))) _
  have hA0 : After w (W1.setCell ⟨go', m * 3 + 2, none⟩ (S t.out)) b { f with now := .none, out := R6.setText f.out (f.out.length - 1) t.out } F := by
    rw [HF.out.1]
    exact ⟨_, ⟨_, _, _, _, _, hs, rfl⟩, hFr2, Fresh.foot (fun j e => .inl (hbl j e))⟩
  have HS := Px.hid hs
  have HFR := Px.hid (And.intro hFr2 hbl)
  have HA0 := Px.hid hA0
  clear hW1 hN hT hFr hvo' qf hbl hFr2 hA0 hs hD c5 c8 f8
  obtain ⟨W2, hW2⟩ : ∃ W2, W2 = W1.setCell ⟨go', m * 3 + 2, none⟩ (S t.out) := ⟨_, rfl⟩
  have k7 : W2.cell? ⟨b, 7, none⟩ = some (.int .i64 (f.next : Nat)) := by rw [hW2]; exact cellOf HS.out.blk 7 rfl
  go_upto_region 10 with fail
  rw [← hW2] at HA0 ⊢
  clear hW2 n1 hcv qf2 q0 q1 q2 HS
  go_wp2_with fail
  refine (After.bind HA0.out (fun F1 h1 => HV.out F1 _ h1)).mono ?_
  rintro e w2 ⟨rfl, hA⟩
  have HA := Px.hid hA
  clear hA
  go_wp2
  go_end0
  exact ⟨rfl, HA.out⟩
set_option maxRecDepth 100000 in
set_option maxHeartbeats 4000000 in
theorem finish_again (b : Nat) (f : J6.Feed) (t : J6.Txt) (x : J6.Fm) (rest : List J6.Fm) (F : Nat → Prop) (w : World) (h : FeedAt w b f F) (hol : f.out.length ≤ 4096) (hsl : f.stack.length ≤ 32) (hout : f.out ≠ []) (hnow : f.now = .str t) (hnx : f.next = 2) (hst : f.stack = x :: rest) (hnl : x.names.length ≤ 262144) (hct : x.names.contains t.out = true) :
    Calls Try.prog 27 #[.pointer (some ⟨b, 0, none⟩)] w fun r w' => r = .returned (.tuple #[]) ∧ After w w' b (J6.wrong { f with now := .none, out := R6.setText f.out (f.out.length - 1) t.out } x.at_ 9) F := by
  obtain ⟨m, a, hm, ha⟩ := last_of hout
  obtain ⟨vo, vs, tv, tb, ps, h, hF⟩ := h
  obtain ⟨go, co, hvo, o1, o2, q0, q1, q2, qf⟩ := h.val ha
  have hb : b < w.heap.size := h.lt
  have c5 : w.cell? ⟨b, 5, none⟩ = some vo := cellOf h.blk 5 rfl
  rw [hvo, hm] at c5
  rw [hm] at hol o1
  have c8 : w.cell? ⟨b, 8, none⟩ = some tv := cellOf h.blk 8 rfl
  have f8 := h.free 8
  have HX := Px.hid (And.intro hnx (And.intro hst (And.intro hct hnl)))
  clear hnx hst hct
  obtain ⟨k, vt, htv, htb, hna⟩ : TokIs w tv tb (.str t) := by rw [← hnow]; exact h.parts.tok
  rw [htv] at c8
  have hkb : k ≠ b := fun e => h.nb (mem_blocks.2 (.inr (.inr (.inl (by rw [htb, e]; simp)))))
  have hvb : vt.ownBlock ≠ some b := fun e => h.nb (mem_blocks.2 (.inr (.inr (.inl (by rw [htb, ← e]; simp)))))
  have HK := Px.hid (fun nq : Nat => (h.drewN nq).drop)
  have HN := Px.hid (fun nq : Nat => (show ((w.drewN nq).setCell ⟨b, 8, none⟩ .nilIface).heap[k]? = w.heap[k]? from heap_setCell_other (w.drewN nq) ⟨b, 8, none⟩ k _ (fun e => hkb e)).trans hna.blk)
  have HT := Px.hid (fun nq : Nat => (hna.text.drewN nq).setCell (p := ⟨b, 8, none⟩) hvb .nilIface)
  have HF := Px.hid (And.intro hF (And.intro hvo (And.intro ha (And.intro hm hnow))))
  unfold maxLen at o2
  clear h hF hvo ha hout hnow htv htb hna hkb hvb qf q0 q1 q2 hm
  go_enter Try.func27, Try.ntmps27
  go_wp2_with fail
  go_quiet (fail)
  go_upto_region 9 with fail
  have hD := HK.out nq
  have hN := HN.out nq
  have hT := HT.out nq
  have hFr : Fr (foot b (blocks vo vs tb ps)) w ((w.drewN nq).setCell ⟨b, 8, none⟩ .nilIface) := ((Fr.refl _ w).drewN nq).setCell (p := ⟨b, 8, none⟩) (.inl (.inl rfl)) _
  obtain ⟨W1, hW1⟩ : ∃ W1, W1 = (w.drewN nq).setCell ⟨b, 8, none⟩ .nilIface := ⟨_, rfl⟩
  rw [← hW1] at hD hN hT hFr ⊢
  obtain ⟨go', co', hvo', _, _, q0, q1, q2, qf⟩ := hD.val (j := m) (a := a) HF.out.2.2.1
  have hgo : go' = go := by have := HF.out.2.1.symm.trans hvo'; simp only [Value.slice.injEq, Option.some.injEq, Addr.mk.injEq] at this; exact this.1.1.symm
  subst hgo
  have n1 : W1.cell? ⟨k, 1, none⟩ = some vt := cellOf hN 1 rfl
  have hcv : (convert 60 9 vt).run Try.prog W1 = .ok (S t.out) W1 := Owns.str hT (by kernel_rfl) (by kernel_rfl) (by kernel_rfl)
  have qf2 := qf (m * 3 + 2)
  have hb1 : b < W1.heap.size := hD.lt
  have hs : FeedRep (W1.setCell ⟨go', m * 3 + 2, none⟩ (S t.out)) b { f with now := .none, out := R6.setText f.out (f.out.length - 1) t.out } vo vs .nilIface [] ps := by
    have hD2 := hD
    rw [HF.out.2.1] at hD2 ⊢
    have e : R6.setText f.out (f.out.length - 1) t.out = f.out.set m { a with text := t.out } := by
      unfold R6.setText
      rw [HF.out.2.2.2.1, Nat.add_sub_cancel]
      exact modify_set f.out m a _ HF.out.2.2.1
    rw [e]
    exact hD2.setVal (j := m) (a := a) (a' := { a with text := t.out }) HF.out.2.2.1 2 (by decide) _ rfl
  have hbl : ∀ j, some j ∈ blocks vo vs [] ps → some j ∈ blocks vo vs tb ps := fun j e => by
    rcases mem_blocks.1 e with x | x | x | x
    · exact mem_blocks.2 (.inl x)
    · exact mem_blocks.2 (.inr (.inl x))
    · cases x
    · exact mem_blocks.2 (.inr (.inr (.inr x)))
  have hFr2 : Fr (foot b (blocks vo vs tb ps)) w (W1.setCell ⟨go', m * 3 + 2, none⟩ (S t.out)) := hFr.setCell (p := ⟨go', m * 3 + 2, none⟩) (.inl (.inr (mem_blocks.2 (.inl (by rw [HF.out.2.1]; rfl))))) _
  have hA0 : After w (W1.setCell ⟨go', m * 3 + 2, none⟩ (S t.out)) b { f with now := .none, out := R6.setText f.out (f.out.length - 1) t.out } F := by
    rw [HF.out.1]
    exact ⟨_, ⟨_, _, _, _, _, hs, rfl⟩, hFr2, Fresh.foot (fun j e => .inl (hbl j e))⟩
  have HS := Px.hid hs
  have HFR := Px.hid (And.intro hFr2 hbl)
  have HA0 := Px.hid hA0
  clear hW1 hN hT hFr hvo' qf hbl hFr2 hA0 hs hD c5 c8 f8
  obtain ⟨W2, hW2⟩ : ∃ W2, W2 = W1.setCell ⟨go', m * 3 + 2, none⟩ (S t.out) := ⟨_, rfl⟩
  have HS2 := Px.hid (show FeedRep W2 b { f with now := .none, out := R6.setText f.out (f.out.length - 1) t.out } vo vs .nilIface [] ps by rw [hW2]; exact HS.out)
  have HFR2 := Px.hid (show Fr (foot b (blocks vo vs tb ps)) w W2 by rw [hW2]; exact HFR.out.1)
  have k7 : W2.cell? ⟨b, 7, none⟩ = some (.int .i64 2) := by have := cellOf HS2.out.blk 7 (v := .int .i64 (f.next : Nat)) rfl; rw [HX.out.1] at this; exact this
  have hx2 : ((2 : Int) == 2) = true := rfl
  go_upto_region 10 with fail
  rw [← hW2] at HA0 ⊢
  clear hW2 n1 hcv qf2 q0 q1 q2 HS hb1
  have hbW : b < W2.heap.size := HS2.out.lt
  obtain ⟨vn, ps2, hps, hmm, g, cap', hsv, hc1, hc2, k0, k1, k2, kf⟩ := HS2.out.top (x := x) (rest := rest) HX.out.2.1
  have hlen : (R6.setText f.out (f.out.length - 1) t.out)[m]? = some { a with text := t.out } := by
    unfold R6.setText
    rw [HF.out.2.2.2.1, Nat.add_sub_cancel, modify_set f.out m a _ HF.out.2.2.1]
    simp [HF.out.2.2.2.1]
  obtain ⟨go2, co2, hvo2, _, _, _, _, u2, _⟩ := HS2.out.val (j := m) (a := { a with text := t.out }) hlen
  have hgo2 : go2 = go' := by have := HF.out.2.1.symm.trans hvo2; simp only [Value.slice.injEq, Option.some.injEq, Addr.mk.injEq] at this; exact this.1.1.symm
  subst hgo2
  have c6 : W2.cell? ⟨b, 6, none⟩ = some (.slice (some ⟨g, 0, none⟩) (ps2.length + 1) cap') := by rw [← hsv]; exact cellOf HS2.out.blk 6 rfl
  have hpl : ps2.length ≤ 32 := by have h2 := congrArg List.length hmm; rw [List.length_map] at h2; have h3 := hsl; rw [HX.out.2.1] at h3; simp at h3; omega
  have hon : Owns W2 9 1 cStr vn x.names := HS2.out.parts.names (x, vn) (by rw [hps]; exact List.mem_cons_self ..)
  have HP := Px.hid (And.intro hps (And.intro hmm (And.intro hsv (And.intro hon kf))))
  unfold maxLen at hc2
  clear hps hmm hsv hvo2 hlen hon kf k0
  go_wp2_with fail
  go_quiet (fail)
  go_upto_region 12 with fail
  have HS3 := Px.hid (HS2.out.drewN nq)
  have HA3 := Px.hid (show After w (W2.drewN nq) b { f with now := .none, out := R6.setText f.out (f.out.length - 1) t.out } F by
    obtain ⟨F1, a1, a2, a3⟩ := HA0.out
    refine ⟨F1, ?_, a2.drewN nq, a3⟩
    obtain ⟨v1, v2, v3, v4, v5, v6, v7⟩ := a1
    exact ⟨v1, v2, v3, v4, v5, v6.drewN nq, v7⟩)
  have hon3 : Owns (W2.drewN nq) 9 1 cStr vn x.names := HP.out.2.2.2.1.drewN nq
  obtain ⟨W3, hW3⟩ : ∃ W3, W3 = W2.drewN nq := ⟨_, rfl⟩
  have HFR3 := Px.hid (show Fr (foot b (blocks vo vs tb ps)) w W3 by rw [hW3]; exact HFR2.out.drewN nq)
  rw [← hW3] at HS3 HA3 hon3 ⊢
  have hbW3 : b < W3.heap.size := HS3.out.lt
  have k1 : W3.cell? ⟨g, ps2.length * 3 + 1, none⟩ = some (.int .i64 (x.at_ : Nat)) := by rw [hW3]; exact k1
  have k2 : W3.cell? ⟨g, ps2.length * 3 + 2, none⟩ = some vn := by rw [hW3]; exact k2
  have u2 : W3.cell? ⟨go2, m * 3 + 2, none⟩ = some (S t.out) := by rw [hW3]; exact u2
  have kf3 : W3.frozen? ⟨g, ps2.length * 3 + 2, none⟩ = false := by rw [hW3]; exact HP.out.2.2.2.2 _
  have HON := Px.hid (And.intro hon3 hnl)
  clear hW3 hon3 hbW c6 k7 HA0 HS2
  have HCT := Px.hid (fun n : Nat => (show Calls Try.prog 38 #[vn, S t.out] (W3.drewN n) fun e w' => e = .returned (.bool true) ∧ w' = W3.drewN n from
    (contains_any vn x.names t.out (by have := HON.out.2; omega) (W3.drewN n) (HON.out.1.drewN n)).mono (fun _ _ h => ⟨by rw [h.1, HX.out.2.2.1], h.2.symm⟩)))
  go_quiet ((go_at_call 38; exact Calls.quiet_of_same (HCT.out _)))
  have HA4 := Px.hid (show After w (W3.drewN nq) b { f with now := .none, out := R6.setText f.out (f.out.length - 1) t.out } F by
    obtain ⟨F1, a1, a2, a3⟩ := HA3.out
    refine ⟨F1, ?_, a2.drewN nq, a3⟩
    obtain ⟨v1, v2, v3, v4, v5, v6, v7⟩ := a1
    exact ⟨v1, v2, v3, v4, v5, v6.drewN nq, v7⟩)
  go_wp2_with fail
  refine (After.bind HA4.out (fun F1 h1 => (wrong_any b x.at_ 9 { f with now := .none, out := R6.setText f.out (f.out.length - 1) t.out } F1 _ h1).mono (fun r w' h => ⟨h.1, F1, h.2.1, h.2.2, Fresh.refl _ _⟩))).mono ?_
  rintro e w2 ⟨rfl, hA⟩
  have HA := Px.hid hA
  clear hA
  go_wp2
  refine bodyPost_ret (results_none rfl _ _ _) rfl ?_
  exact ⟨rfl, HA.out⟩
set_option maxRecDepth 100000 in
set_option maxHeartbeats 4000000 in
theorem finish_name (b : Nat) (f : J6.Feed) (t : J6.Txt) (x : J6.Fm) (rest : List J6.Fm) (F : Nat → Prop) (w : World) (h : FeedAt w b f F) (hol : f.out.length ≤ 4096) (hsl : f.stack.length ≤ 32) (hout : f.out ≠ []) (hnow : f.now = .str t) (hnx : f.next = 2) (hst : f.stack = x :: rest) (hnl : x.names.length ≤ 262144) (hct : x.names.contains t.out = false) :
    Calls Try.prog 27 #[.pointer (some ⟨b, 0, none⟩)] w fun r w' => r = .returned (.tuple #[]) ∧ After w w' b { f with now := .none, out := R6.setText f.out (f.out.length - 1) t.out, stack := { x with names := x.names ++ [t.out] } :: rest, next := 4 } F := by
  obtain ⟨m, a, hm, ha⟩ := last_of hout
  obtain ⟨vo, vs, tv, tb, ps, h, hF⟩ := h
  obtain ⟨go, co, hvo, o1, o2, q0, q1, q2, qf⟩ := h.val ha
  have hb : b < w.heap.size := h.lt
  have c5 : w.cell? ⟨b, 5, none⟩ = some vo := cellOf h.blk 5 rfl
  rw [hvo, hm] at c5
  rw [hm] at hol o1
  have c8 : w.cell? ⟨b, 8, none⟩ = some tv := cellOf h.blk 8 rfl
  have f8 := h.free 8
  have HX := Px.hid (And.intro hnx (And.intro hst (And.intro hct hnl)))
  clear hnx hst hct
  obtain ⟨k, vt, htv, htb, hna⟩ : TokIs w tv tb (.str t) := by rw [← hnow]; exact h.parts.tok
  rw [htv] at c8
  have hkb : k ≠ b := fun e => h.nb (mem_blocks.2 (.inr (.inr (.inl (by rw [htb, e]; simp)))))
  have hvb : vt.ownBlock ≠ some b := fun e => h.nb (mem_blocks.2 (.inr (.inr (.inl (by rw [htb, ← e]; simp)))))
  have HK := Px.hid (fun nq : Nat => (h.drewN nq).drop)
  have HN := Px.hid (fun nq : Nat => (show ((w.drewN nq).setCell ⟨b, 8, none⟩ .nilIface).heap[k]? = w.heap[k]? from heap_setCell_other (w.drewN nq) ⟨b, 8, none⟩ k _ (fun e => hkb e)).trans hna.blk)
  have HT := Px.hid (fun nq : Nat => (hna.text.drewN nq).setCell (p := ⟨b, 8, none⟩) hvb .nilIface)
  have HF := Px.hid (And.intro hF (And.intro hvo (And.intro ha (And.intro hm hnow))))
  unfold maxLen at o2
  clear h hF hvo ha hout hnow htv htb hna hkb hvb qf q0 q1 q2 hm
  go_enter Try.func27, Try.ntmps27
  go_wp2_with fail
  go_quiet (fail)
  go_upto_region 9 with fail
  have hD := HK.out nq
  have hN := HN.out nq
  have hT := HT.out nq
  have hFr : Fr (foot b (blocks vo vs tb ps)) w ((w.drewN nq).setCell ⟨b, 8, none⟩ .nilIface) := ((Fr.refl _ w).drewN nq).setCell (p := ⟨b, 8, none⟩) (.inl (.inl rfl)) _
  obtain ⟨W1, hW1⟩ : ∃ W1, W1 = (w.drewN nq).setCell ⟨b, 8, none⟩ .nilIface := ⟨_, rfl⟩
  rw [← hW1] at hD hN hT hFr ⊢
  obtain ⟨go', co', hvo', _, _, q0, q1, q2, qf⟩ := hD.val (j := m) (a := a) HF.out.2.2.1
  have hgo : go' = go := by have := HF.out.2.1.symm.trans hvo'; simp only [Value.slice.injEq, Option.some.injEq, Addr.mk.injEq] at this; exact this.1.1.symm
  subst hgo
  have n1 : W1.cell? ⟨k, 1, none⟩ = some vt := cellOf hN 1 rfl
  have hcv : (convert 60 9 vt).run Try.prog W1 = .ok (S t.out) W1 := Owns.str hT (by kernel_rfl) (by kernel_rfl) (by kernel_rfl)
  have qf2 := qf (m * 3 + 2)
  have hb1 : b < W1.heap.size := hD.lt
  have hs : FeedRep (W1.setCell ⟨go', m * 3 + 2, none⟩ (S t.out)) b { f with now := .none, out := R6.setText f.out (f.out.length - 1) t.out } vo vs .nilIface [] ps := by
    have hD2 := hD
    rw [HF.out.2.1] at hD2 ⊢
    have e : R6.setText f.out (f.out.length - 1) t.out = f.out.set m { a with text := t.out } := by
      unfold R6.setText
      rw [HF.out.2.2.2.1, Nat.add_sub_cancel]
      exact modify_set f.out m a _ HF.out.2.2.1
    rw [e]
    exact hD2.setVal (j := m) (a := a) (a' := { a with text := t.out }) HF.out.2.2.1 2 (by decide) _ rfl
  have hbl : ∀ j, some j ∈ blocks vo vs [] ps → some j ∈ blocks vo vs tb ps := fun j e => by
    rcases mem_blocks.1 e with x | x | x | x
    · exact mem_blocks.2 (.inl x)
    · exact mem_blocks.2 (.inr (.inl x))
    · cases x
    · exact mem_blocks.2 (.inr (.inr (.inr x)))
  have hFr2 : Fr (foot b (blocks vo vs tb ps)) w (W1.setCell ⟨go', m * 3 + 2, none⟩ (S t.out)) := hFr.setCell (p := ⟨go', m * 3 + 2, none⟩) (.inl (.inr (mem_blocks.2 (.inl (by rw [HF.out.2.1]; rfl))))) _
  have hA0 : After w (W1.setCell ⟨go', m * 3 + 2, none⟩ (S t.out)) b { f with now := .none, out := R6.setText f.out (f.out.length - 1) t.out } F := by
    rw [HF.out.1]
    exact ⟨_, ⟨_, _, _, _, _, hs, rfl⟩, hFr2, Fresh.foot (fun j e => .inl (hbl j e))⟩
  have HS := Px.hid hs
  have HFR := Px.hid (And.intro hFr2 hbl)
  have HA0 := Px.hid hA0
  clear hW1 hN hT hFr hvo' qf hbl hFr2 hA0 hs hD c5 c8 f8
  obtain ⟨W2, hW2⟩ : ∃ W2, W2 = W1.setCell ⟨go', m * 3 + 2, none⟩ (S t.out) := ⟨_, rfl⟩
  have HS2 := Px.hid (show FeedRep W2 b { f with now := .none, out := R6.setText f.out (f.out.length - 1) t.out } vo vs .nilIface [] ps by rw [hW2]; exact HS.out)
  have HFR2 := Px.hid (show Fr (foot b (blocks vo vs tb ps)) w W2 by rw [hW2]; exact HFR.out.1)
  have k7 : W2.cell? ⟨b, 7, none⟩ = some (.int .i64 2) := by have := cellOf HS2.out.blk 7 (v := .int .i64 (f.next : Nat)) rfl; rw [HX.out.1] at this; exact this
  have hx2 : ((2 : Int) == 2) = true := rfl
  go_upto_region 10 with fail
  rw [← hW2] at HA0 ⊢
  clear hW2 n1 hcv qf2 q0 q1 q2 HS hb1
  have hbW : b < W2.heap.size := HS2.out.lt
  obtain ⟨vn, ps2, hps, hmm, g, cap', hsv, hc1, hc2, k0, k1, k2, kf⟩ := HS2.out.top (x := x) (rest := rest) HX.out.2.1
  have hlen : (R6.setText f.out (f.out.length - 1) t.out)[m]? = some { a with text := t.out } := by
    unfold R6.setText
    rw [HF.out.2.2.2.1, Nat.add_sub_cancel, modify_set f.out m a _ HF.out.2.2.1]
    simp [HF.out.2.2.2.1]
  obtain ⟨go2, co2, hvo2, _, _, _, _, u2, _⟩ := HS2.out.val (j := m) (a := { a with text := t.out }) hlen
  have hgo2 : go2 = go' := by have := HF.out.2.1.symm.trans hvo2; simp only [Value.slice.injEq, Option.some.injEq, Addr.mk.injEq] at this; exact this.1.1.symm
  subst hgo2
  have c6 : W2.cell? ⟨b, 6, none⟩ = some (.slice (some ⟨g, 0, none⟩) (ps2.length + 1) cap') := by rw [← hsv]; exact cellOf HS2.out.blk 6 rfl
  have hpl : ps2.length ≤ 32 := by have h2 := congrArg List.length hmm; rw [List.length_map] at h2; have h3 := hsl; rw [HX.out.2.1] at h3; simp at h3; omega
  have hon : Owns W2 9 1 cStr vn x.names := HS2.out.parts.names (x, vn) (by rw [hps]; exact List.mem_cons_self ..)
  have HP := Px.hid (And.intro hps (And.intro hmm (And.intro hsv (And.intro hon kf))))
  unfold maxLen at hc2
  clear hps hmm hsv hvo2 hlen hon kf k0
  go_wp2_with fail
  go_quiet (fail)
  go_upto_region 12 with fail
  have HS3 := Px.hid (HS2.out.drewN nq)
  have HA3 := Px.hid (show After w (W2.drewN nq) b { f with now := .none, out := R6.setText f.out (f.out.length - 1) t.out } F by
    obtain ⟨F1, a1, a2, a3⟩ := HA0.out
    refine ⟨F1, ?_, a2.drewN nq, a3⟩
    obtain ⟨v1, v2, v3, v4, v5, v6, v7⟩ := a1
    exact ⟨v1, v2, v3, v4, v5, v6.drewN nq, v7⟩)
  have hon3 : Owns (W2.drewN nq) 9 1 cStr vn x.names := HP.out.2.2.2.1.drewN nq
  obtain ⟨W3, hW3⟩ : ∃ W3, W3 = W2.drewN nq := ⟨_, rfl⟩
  have HFR3 := Px.hid (show Fr (foot b (blocks vo vs tb ps)) w W3 by rw [hW3]; exact HFR2.out.drewN nq)
  rw [← hW3] at HS3 HA3 hon3 ⊢
  have hbW3 : b < W3.heap.size := HS3.out.lt
  have k1 : W3.cell? ⟨g, ps2.length * 3 + 1, none⟩ = some (.int .i64 (x.at_ : Nat)) := by rw [hW3]; exact k1
  have k2 : W3.cell? ⟨g, ps2.length * 3 + 2, none⟩ = some vn := by rw [hW3]; exact k2
  have u2 : W3.cell? ⟨go2, m * 3 + 2, none⟩ = some (S t.out) := by rw [hW3]; exact u2
  have kf3 : W3.frozen? ⟨g, ps2.length * 3 + 2, none⟩ = false := by rw [hW3]; exact HP.out.2.2.2.2 _
  have HON := Px.hid (And.intro hon3 hnl)
  clear hW3 hon3 hbW c6 k7 HA0 HS2
  have HCT := Px.hid (fun n : Nat => (show Calls Try.prog 38 #[vn, S t.out] (W3.drewN n) fun e w' => e = .returned (.bool false) ∧ w' = W3.drewN n from
    (contains_any vn x.names t.out (by have := HON.out.2; omega) (W3.drewN n) (HON.out.1.drewN n)).mono (fun _ _ h => ⟨by rw [h.1, HX.out.2.2.1], h.2.symm⟩)))
  go_quiet ((go_at_call 38; exact Calls.quiet_of_same (HCT.out _)))
  go_upto_region 14 with fail
  have hA4 : After w (W3.drewN nq) b { f with now := .none, out := R6.setText f.out (f.out.length - 1) t.out } (foot b (blocks vo vs tb ps)) := by
    rw [← HF.out.1]
    obtain ⟨F1, a1, a2, a3⟩ := HA3.out
    refine ⟨F1, ?_, a2.drewN nq, a3⟩
    obtain ⟨v1, v2, v3, v4, v5, v6, v7⟩ := a1
    exact ⟨v1, v2, v3, v4, v5, v6.drewN nq, v7⟩
  have HS4 := Px.hid (HS3.out.drewN nq)
  have hon4 : Owns (W3.drewN nq) 9 1 cStr vn x.names := HON.out.1.drewN nq
  obtain ⟨W4, hW4⟩ : ∃ W4, W4 = W3.drewN nq := ⟨_, rfl⟩
  have HFR4 := Px.hid (show Fr F w W4 by rw [hW4, HF.out.1]; exact HFR3.out.drewN nq)
  rw [← hW4] at hA4 HS4 hon4 ⊢
  have k2' : W4.cell? ⟨g, ps2.length * 3 + 2, none⟩ = some vn := by rw [hW4]; exact k2
  have u2' : W4.cell? ⟨go2, m * 3 + 2, none⟩ = some (S t.out) := by rw [hW4]; exact u2
  have kf4 : W4.frozen? ⟨g, ps2.length * 3 + 2, none⟩ = false := by rw [hW4]; exact kf3
  have HS5 := Px.hid (show FeedRep W4 b { f with now := .none, out := R6.setText f.out (f.out.length - 1) t.out } vo (.slice (some ⟨g, 0, none⟩) (ps2.length + 1) cap') .nilIface [] ((x, vn) :: ps2) by
    have := HS4.out
    rw [HP.out.2.2.1, HP.out.1] at this
    exact this)
  have hgv : vn.ownBlock ≠ some g := fun e => (HS5.out.parts.split.2.2.1 g rfl).2 (mem_nm.2 ⟨_, List.mem_cons_self .., e⟩)
  have hgl : g < W4.heap.size := HS5.out.parts.stack.lt rfl
  have hgo4 : go2 < W4.heap.size := HS5.out.parts.out.lt (by rw [HF.out.2.1]; rfl)
  have HGV := Px.hid (And.intro hgv hgl)
  have HOW := Px.hid (show W4.ownsRow 0 9 1 vn x.names.length (x.names.flatMap cStr) from hon4)
  have HA4 := Px.hid hA4
  obtain ⟨na, nc, hvn, _⟩ := hon4.len
  have HVN := Px.hid hvn
  obtain ⟨i0, hi0, hz0, hz1, hz2⟩ := info_parts Try.infoStr
  have hN := HX.out.2.2.2
  clear hW4 k1 k2 u2 kf3 hA4 HS4 hon4 HON HA3 HS3 hgv hbW3 HCT hvn
  go_cut [] (fun wx => After W4 wx b { f with now := .none, out := R6.setText f.out (f.out.length - 1) t.out, stack := { x with names := x.names ++ [t.out] } :: ps2.map Prod.fst } (foot b (blocks vo vs [] ps)))
  case first =>
    go_region_law
      ((refine step_append_lies _ (by rfl) _ _ _ (by rfl) 0 9 i0 _ 1 16 Try.underlying22 hi0 hz0 hz1 hz2 rfl (by omega) vn x.names.length (x.names.flatMap cStr) (by rfl) ((HOW.out.alloc _).drew)
            ⟨W4.heap.size, 0, none⟩ 1 1 (cStr t.out) (by rfl) (by rfl) (World.news_of_block (cs := #[S t.out]) (t := 9) (fr := (0, 0)) (heap_alloc_new W4 _)) (by simp [cStr, Value.oneCell'])
            (by omega) (by unfold maxLen; omega) (by omega) (by simp) (W4.heap.size + 1) (by simp) ?_; intro gg cap w1 hown1 hgrow hat hlt; have k5 := grown_cell hgrow k2' HGV.out.1; have e5 := grown_free hgrow k2' kf4 HGV.out.1))
    all_goals (go_wp2_with fail; go_meet; rw [HP.out.2.2.1, HP.out.1]; exact HS5.out.putName hown1 (grown_alloc hgrow) (hat.imp id (fun e => by omega)))
  case rest =>
    have hA5 : After w wc b { f with now := .none, out := R6.setText f.out (f.out.length - 1) t.out, stack := { x with names := x.names ++ [t.out] } :: rest } F := by
      rw [← HP.out.2.1]
      have hsub : ∀ j, foot b (blocks vo vs [] ps) j → F j := fun j hj => by
        rw [HF.out.1]
        exact hj.imp id (HFR.out.2 j)
      obtain ⟨F5, c1, c2, c3⟩ := hcut
      exact ⟨F5, c1, HFR4.out.trans c2 (fun j _ hj => hsub j hj), fun j hj => by
        rcases c3 j hj with y | y
        · exact .inl (hsub j y)
        · have := HFR4.out.size; exact .inr (by omega)⟩
    have c7 := hA5.c7.1
    have f7 := hA5.c7.2
    have HA5 := Px.hid hA5
    clear hA5 hcut k2' u2' kf4
    go_wp2
    refine bodyPost_ret (results_none rfl _ _ _) rfl ?_
    exact ⟨rfl, HA5.out.setNext 4⟩
/-- finish, whole. -/
theorem finish_any (b : Nat) (f : J6.Feed) (F : Nat → Prop) (w : World) (h : FeedAt w b f F) (hok : J6.OkK 1 { f with now := .none }) (hn : f.now ≠ .none) (hout : f.out ≠ []) :
    Calls Try.prog 27 #[.pointer (some ⟨b, 0, none⟩)] w fun r w' => r = .returned (.tuple #[]) ∧ After w w' b (J6.finish f) F := by
  have hm := J6.may_parts6 hok.may
  have hol : f.out.length ≤ 4096 := by have := hok.ol; have e : ({ f with now := .none } : J6.Feed).out.length = f.out.length := rfl; omega
  have hsl : f.stack.length ≤ 32 := by have := hok.sd; have e : ({ f with now := .none } : J6.Feed).stack.length = f.stack.length := rfl; omega
  have hfn : f.n ≤ 262144 := by have := hok.nb; have e : ({ f with now := .none } : J6.Feed).n = f.n := rfl; omega
  cases hnow : f.now with
  | none => exact absurd hnow hn
  | word r =>
    have e : J6.finish f = J6.over { f with now := .none } := by unfold J6.finish; rw [hnow]
    rw [e]
    exact finish_word b f r F w h hol hsl hout hnow
  | num q t =>
    have e : J6.finish f = J6.over { f with now := .none, out := R6.setText f.out (f.out.length - 1) t } := by unfold J6.finish; rw [hnow]
    rw [e]
    exact finish_num b f q t F w h hol hsl hout hnow
  | str t =>
    by_cases hnx : f.next = 2
    · have hne : f.stack ≠ [] := hok.st (by show 1 ≤ f.next; omega) (by show f.next ≤ 5; omega)
      obtain ⟨x, rest, hst⟩ : ∃ x rest, f.stack = x :: rest := by
        cases hs : f.stack with
        | nil => exact absurd hs hne
        | cons x r => exact ⟨x, r, rfl⟩
      have hxl : x.names.length ≤ 262144 := by
        have := (hok.each x (by show x ∈ f.stack; rw [hst]; exact List.mem_cons_self ..)).2
        have e : ({ f with now := .none } : J6.Feed).n = f.n := rfl
        omega
      cases hct : x.names.contains t.out with
      | true =>
        have e : J6.finish f = J6.wrong { f with now := .none, out := R6.setText f.out (f.out.length - 1) t.out } x.at_ 9 := by
          unfold J6.finish
          rw [hnow]
          simp only
          rw [if_pos (by simpa using hnx), hst]
          simp only
          rw [if_pos hct, ← hst]
        rw [e]
        exact finish_again b f t x rest F w h hol hsl hout hnow hnx hst hxl hct
      | false =>
        have e : J6.finish f = { f with now := .none, out := R6.setText f.out (f.out.length - 1) t.out, stack := { x with names := x.names ++ [t.out] } :: rest, next := 4 } := by
          unfold J6.finish
          rw [hnow]
          simp only
          rw [if_pos (by simpa using hnx), hst]
          simp only
          rw [if_neg (by rw [hct]; simp)]
        rw [e]
        exact finish_name b f t x rest F w h hol hsl hout hnow hnx hst hxl hct
    · have e : J6.finish f = J6.over { f with now := .none, out := R6.setText f.out (f.out.length - 1) t.out } := by
        unfold J6.finish
        rw [hnow]
        simp only
        rw [if_neg (by simpa using hnx)]
      rw [e]
      exact finish_plain b f t F w h hol hsl hout hnow hnx
end Go.Proofs.Ytahojodgmjmpnaa
