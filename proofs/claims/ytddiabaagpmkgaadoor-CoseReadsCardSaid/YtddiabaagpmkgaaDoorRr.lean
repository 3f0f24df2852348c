/-
  How the reference's reader of layer 17 lies in memory, and what becomes of it; what holds between two items.
-/
import Derived.Test.YtddiabaagpmkgaaDoorRh
import Derived.Test.YtddiabaagpmkgaaDoorR7F
namespace Go.Proofs.YtddiabaagpmkgaaDoor
open Go.RowKit Go.Px Go.Px.R7

structure RdRep (w : World) (b : Nat) (s : Bytes) (lim : Lim) (x : St) (vo : Value) : Prop where
  rd : Rd w b 123 s lim x (.slice none 0 0) [vo]
  out : Owns w 62 3 cAtom vo x.out
  ob : Apart vo.ownBlock (some b)
def rfoot (b : Nat) (vo : Value) (k : Nat) : Prop := k = b ∨ vo.ownBlock = some k
def RdAt (w : World) (b : Nat) (s : Bytes) (lim : Lim) (x : St) (F : Nat → Prop) : Prop := ∃ vo, RdRep w b s lim x vo ∧ F = rfoot b vo
section
variable {w w' : World} {b : Nat} {s : Bytes} {lim : Lim} {x y : St} {vo : Value}
theorem RdRep.keep (h : RdRep w b s lim x vo) (hk : ∀ k, rfoot b vo k → w'.heap[k]? = w.heap[k]?) : RdRep w' b s lim x vo :=
  ⟨h.rd.keep (hk b (.inl rfl)), h.out.keep (fun k e => hk k (.inr e)), h.ob⟩
theorem RdRep.footLt (h : RdRep w b s lim x vo) : ∀ k, rfoot b vo k → k < w.heap.size := by
  rintro k (rfl | hk)
  · exact h.rd.lt
  · exact h.out.lt hk
theorem RdRep.same (h : RdRep w b s lim x vo) (hs : Same w w') : RdRep w' b s lim x vo := h.keep fun k hk => hs.block k (h.footLt k hk) (fun x => x)
theorem RdRep.alloc (h : RdRep w b s lim x vo) (o : Obj) : RdRep (w.alloc o) b s lim x vo := h.keep fun k hk => Below.heap_alloc w o k (h.footLt k hk)
theorem RdRep.drewN (h : RdRep w b s lim x vo) (n : Nat) : RdRep (w.drewN n) b s lim x vo := h.keep fun _ _ => rfl
theorem RdRep.step (h : RdRep w b s lim x vo) (hr : Rd w' b 123 s lim y (.slice none 0 0) [vo]) (hf : Fr (It b) w w') (ho : y.out = x.out) : RdRep w' b s lim y vo :=
  ⟨hr, by rw [ho]; exact h.out.fr hf (fun k hk e => h.ob k hk (by rw [show k = b from e])), h.ob⟩
theorem It.foot (hf : Fr (It b) w w') : Fr (rfoot b vo) w w' := hf.mono fun _ e => .inl e
theorem RdRep.cell11 (h : RdRep w b s lim x vo) : w.cell? ⟨b, 11, none⟩ = some vo := cellOf h.rd.blk 11 (by simp [rdCells])
def RAfter (w w' : World) (b : Nat) (s : Bytes) (lim : Lim) (x : St) (a : Atom) (vo : Value) : Prop :=
  ∃ vo', RdRep w' b s lim { x with out := x.out ++ [a] } vo' ∧ Fr (rfoot b vo) w w' ∧ Fresh w (rfoot b vo) (rfoot b vo')
theorem RdRep.afterOut (h : RdRep w b s lim x vo) {g cap : Nat} {a : Atom}
    (hown : w'.ownsRow 0 62 3 (.slice (some ⟨g, 0, none⟩) (x.out.length + 1) cap) (x.out.length + 1) (x.out.flatMap cAtom ++ cAtom a))
    (hg : w.grownBy w' vo.ownBlock) (hat : vo.ownBlock = some g ∨ w.heap.size ≤ g) :
    RAfter w (w'.setCell ⟨b, 11, none⟩ (.slice (some ⟨g, 0, none⟩) (x.out.length + 1) cap)) b s lim x a vo := by
  have hgb : g ≠ b := by rcases hat with e | e; exact fun x => h.ob g e (by rw [x]); have := h.rd.lt; omega
  have hb' : Rd w' b 123 s lim x (.slice none 0 0) [vo] := h.rd.keep (hg.block b h.rd.lt (fun e => h.ob b e.symm rfl))
  refine ⟨.slice (some ⟨g, 0, none⟩) (x.out.length + 1) cap, ⟨hb'.set 11 _ { x with out := x.out ++ [a] } _ _ (by simp [rdCells]), ?_, ?_⟩, ((Fr.refl _ w).grown hg (fun k e => .inl (.inr e))).setCell (.inl (.inl rfl)) _, ?_⟩
  · exact (owns_append hown).setCell (p := ⟨b, 11, none⟩) (by simpa [Value.ownBlock] using hgb) _
  · intro k hk; simp [Value.ownBlock] at hk; subst hk; simpa using Ne.symm hgb
  · rintro k (rfl | hk)
    · exact .inl (.inl rfl)
    · simp only [Value.ownBlock, Option.some.injEq] at hk
      subst hk
      rcases hat with e | e
      · exact .inl (.inr e)
      · exact .inr e
end

theorem grown_cell1 {w w1 : World} {o : Obj} {row : Option Nat} (hg : (w.alloc o).grownBy w1 row) {a : Addr} {v : Value} (hc : w.cell? a = some v) (hne : row ≠ some a.block) : w1.cell? a = some v :=
  hg.cell (show (w.alloc o).cell? a = some v from cell_alloc hc) (Ne.symm hne)
theorem grown_free1 {w w1 : World} {o : Obj} {row : Option Nat} (hg : (w.alloc o).grownBy w1 row) {a : Addr} {v : Value} (hc : w.cell? a = some v) (hf : w.frozen? a = false) (hne : row ≠ some a.block) : w1.frozen? a = false :=
  (World.frozen?_of_block (hg.block a.block (by have := World.block_lt_of_cell? w a hc; simp; omega) (Ne.symm hne))).trans ((frozen_alloc_some (w := w) (o := o) (by simp [hc])).trans hf)
/-! Between two items -/
structure Good (s : Bytes) (lim : Lim) (x : St) (p k : Nat) : Prop where
  ps : p ≤ s.length
  pb : (p : Int) ≤ lim.b
  err : x.err = 0
  taken : x.taken = p
  ended : x.ended = false
  deep : ((x.frames + k : Nat) : Int) = lim.d
  out : (x.out.length : Int) ≤ lim.i
def dummy : Cf.Fm := ⟨0, 0, 0, 0, 0, 0, [], false⟩
theorem Good.sim {s : Bytes} {lim : Lim} {x : St} {p k : Nat} (h : Good s lim x p k) : Sim s lim x p { Cf.init lim with text := s.take p, out := x.out, stack := List.replicate x.frames dummy } k :=
  ⟨⟨rfl, rfl, h.ps, h.pb, rfl, h.err, h.taken, by simp, h.ended⟩, rfl, rfl, by simpa using h.deep⟩
theorem Good.item {s : Bytes} {lim : Lim} {x y : St} {p k q : Nat} (hm : lim.may = true) (h : Good s lim x p k) (e : item s lim k x p = (some q, y)) : Good s lim y q k := by
  have := item_sim (s := s) hm k x p _ h.sim h.out
  rw [e] at this
  obtain ⟨i1, i2, i3, i4, _⟩ := this
  exact ⟨i1.qs, i1.qb, i1.err, i1.taken, i1.ended, by rw [i1.frames]; exact h.deep, i3⟩
theorem Good.head {s : Bytes} {lim : Lim} {x y : St} {p k kk n q : Nat} (h : Good s lim x p k) (e : R7.head s lim x p = (some (kk, n, q), y)) :
    Moved s lim x p y q ∧ p < q ∧ y.out = x.out ∧ n < 18446744073709551616 ∧ kk < 8 ∧ (x.out.length : Int) < lim.i := by
  have := head_sim h.sim.toAt rfl rfl h.out
  rw [e] at this
  obtain ⟨a, b, c, d, e, f, _⟩ := this
  exact ⟨a, b, c, d, e, f⟩
/-- Bytes that are wanted one by one. -/
theorem wantN_keeps (s : Bytes) (lim : Lim) : ∀ (m : Nat) (x : St) (p : Nat), (wantN s lim m x p).2.out = x.out ∧ (wantN s lim m x p).2.frames = x.frames
  | 0, x, p => ⟨rfl, rfl⟩
  | m + 1, x, p => by
    unfold wantN
    have hw : (want s lim x p).2.out = x.out ∧ (want s lim x p).2.frames = x.frames := by
      unfold want; repeat' split
      all_goals exact ⟨rfl, rfl⟩
    cases h : want s lim x p with
    | mk b y =>
      rw [h] at hw
      cases b
      · exact hw
      · obtain ⟨a, c⟩ := wantN_keeps s lim m y (p + 1)
        exact ⟨a.trans hw.1, c.trans hw.2⟩
theorem want_true {s : Bytes} {lim : Lim} {x y : St} {p : Nat} (h : want s lim x p = (true, y)) : p < s.length ∧ (p : Int) < lim.b ∧ y = take x (p + 1) := by
  unfold want at h
  by_cases h1 : p < s.length ∧ (p : Int) < lim.b
  · rw [if_pos h1] at h
    simp only [Prod.mk.injEq, true_and] at h
    exact ⟨h1.1, h1.2, h.symm⟩
  · rw [if_neg h1] at h
    split at h <;> simp at h
theorem want_out (s : Bytes) (lim : Lim) (x : St) (p : Nat) : (want s lim x p).2.out = x.out := by
  unfold want; repeat' split
  all_goals rfl
theorem wantN_true {s : Bytes} {lim : Lim} : ∀ {m : Nat} {x y : St} {p : Nat}, wantN s lim m x p = (true, y) → p ≤ s.length → p + m ≤ s.length
  | 0, _, _, _, _, hp => hp
  | m + 1, x, y, p, h, hp => by
    unfold wantN at h
    cases hw : want s lim x p with
    | mk b z =>
      rw [hw] at h
      cases b
      · simp at h
      · have := want_true hw
        have := wantN_true (m := m) h (by omega)
        omega

/-! What the reader's functions hand back -/
def itemV : Option Nat → Value
  | none => .tuple #[.int .i64 0, .bool false]
  | some q => .tuple #[.int .i64 (q : Nat), .bool true]
def headV : Option (Nat × Nat × Nat) → Value
  | none => .tuple #[.int .i64 0, .int .u64 0, .int .i64 0, .bool false]
  | some (k, n, q) => .tuple #[.int .i64 (k : Nat), .int .u64 (n : Nat), .int .i64 (q : Nat), .bool true]
def Did (w : World) (b : Nat) (s : Bytes) (lim : Lim) (F : Nat → Prop) (y : St) (w' : World) : Prop := ∃ F', RdAt w' b s lim y F' ∧ Fr F w w' ∧ Fresh w F F'
theorem Did.trans {w w1 w2 : World} {b : Nat} {s : Bytes} {lim : Lim} {F F1 : Nat → Prop} {z : St} (h : Fr F w w1) (hn : Fresh w F F1) (k : Did w1 b s lim F1 z w2) : Did w b s lim F z w2 := by
  obtain ⟨F2, k1, k2, k3⟩ := k
  exact ⟨F2, k1, h.step hn k2, Fresh.trans hn h.size k3⟩
/-- What item does, at so many levels. -/
def ItemC (s : Bytes) (lim : Lim) (k : Nat) : Prop := ∀ (b p dp : Nat) (x : St) (F : Nat → Prop) (w : World), RdAt w b s lim x F → Good s lim x p k → ((dp + k : Nat) : Int) = lim.d →
  Calls Tryd.prog 60 #[.pointer (some ⟨b, 0, none⟩), .int .i64 (p : Nat), .int .i64 (dp : Nat)] w fun r w' => r = .returned (itemV (item s lim k x p).1) ∧ Did w b s lim F (item s lim k x p).2 w'

set_option maxRecDepth 100000 in
set_option maxHeartbeats 2000000 in
theorem items_any (s : Bytes) (lim : Lim) (k : Nat) (hm : lim.may = true) (hI : ItemC s lim k) (b p n dp : Nat) (x : St) (F : Nat → Prop) (w : World) (h : RdAt w b s lim x F) (hg : Good s lim x p k) (hd : ((dp + k : Nat) : Int) = lim.d) (hn : n < 18446744073709551616) :
    Calls Tryd.prog 79 #[.pointer (some ⟨b, 0, none⟩), .int .i64 (p : Nat), .int .u64 (n : Nat), .int .i64 (dp : Nat)] w fun r w' => r = .returned (itemV (itemsN (item s lim k) n x p).1) ∧ Did w b s lim F (itemsN (item s lim k) n x p).2 w' := by
  have H := Px.hid (And.intro h (And.intro hg hd))
  have HNB := Px.hid hn
  clear hn
  clear h hg hd
  go_enter Tryd.func79, Tryd.ntmps79
  go_wp2
  go_loopw [1, 10] (fun a i wr => ∃ j q y F1, j ≤ n ∧ i = .int .u64 (j : Nat) ∧ a = .int .i64 (q : Nat) ∧ Hid (RdAt wr b s lim y F1 ∧ Good s lim y q k ∧ Fr F w wr ∧ Fresh w F F1 ∧ itemsN (item s lim k) n x p = itemsN (item s lim k) (n - j) y q)) (fun _ i _ => n - (intOf i).toNat)
  case atStart => exact ⟨0, p, x, F, Nat.zero_le _, rfl, rfl, Px.hid ⟨H.out.1, H.out.2.1, Fr.refl _ _, Fresh.refl _ _, rfl⟩⟩
  case round =>
    obtain ⟨j, q, y, F1, hj, rfl, rfl, HR⟩ := hrel
    have HD := Px.hid H.out.2.2
    clear H
    by_cases hlt : j < n
    · have hltz : (j : Int) < (n : Int) := by omega
      have hwj : IntKind.u64.wrap ((j : Int) + 1) = (j : Int) + 1 := IntWalk.u64_in _ ⟨by omega, by have := HNB.out; omega⟩
      have e1 : n - j = (n - (j + 1)) + 1 := by omega
      have HE := Px.hid HR.out.2.2.2.2
      rw [e1] at HE
      clear e1
      go_wp2_with fail
      refine (hI b q dp y F1 _ HR.out.1 HR.out.2.1 HD.out).mono ?_
      rintro e w1 ⟨rfl, hd⟩
      cases hr : item s lim k y q with
      | mk o z =>
        rw [hr] at hd
        cases o with
        | none =>
          have HN := Px.hid (show itemsN (item s lim k) n x p = (none, z) by rw [HE.out]; unfold itemsN; rw [hr])
          have HDD := Px.hid (Did.trans HR.out.2.2.1 HR.out.2.2.2.1 hd)
          clear hr hd
          unfold itemV
          go_wp2
          go_ret2
          rw [HN.out]
          exact ⟨rfl, HDD.out⟩
        | some r =>
          have HN := Px.hid (show itemsN (item s lim k) n x p = itemsN (item s lim k) (n - (j + 1)) z r by rw [HE.out]; conv => lhs; unfold itemsN; rw [hr])
          have HG := Px.hid (HR.out.2.1.item hm hr)
          have HDD := Px.hid hd
          clear hr hd
          unfold itemV
          go_wp2
          go_roundw
          case rel =>
            obtain ⟨F2, k1, k2, k3⟩ := HDD.out
            exact ⟨j + 1, r, z, F2, by omega, by go_num, rfl, Px.hid ⟨k1, HG.out, HR.out.2.2.1.step HR.out.2.2.2.1 k2, Fresh.trans HR.out.2.2.2.1 HR.out.2.2.1.size k3, HN.out⟩⟩
          case measure => simp [intOf]; omega
    · have hltz : ¬ (j : Int) < (n : Int) := by omega
      have HE := Px.hid (show itemsN (item s lim k) n x p = (some q, y) by rw [HR.out.2.2.2.2, show n - j = 0 by omega]; rfl)
      go_wp2
      go_ret2
      rw [HE.out]
      exact ⟨rfl, F1, HR.out.1, HR.out.2.2.1, HR.out.2.2.2.1⟩
set_option maxRecDepth 100000 in
set_option maxHeartbeats 4000000 in
theorem pairs_any (s : Bytes) (lim : Lim) (k : Nat) (hm : lim.may = true) (hs : s.length ≤ maxLen) (hI : ItemC s lim k) (b p n dp : Nat) (x : St) (F : Nat → Prop) (w : World) (h : RdAt w b s lim x F) (hg : Good s lim x p k) (hd : ((dp + k : Nat) : Int) = lim.d) (hn : n < 18446744073709551616) :
    Calls Tryd.prog 80 #[.pointer (some ⟨b, 0, none⟩), .int .i64 (p : Nat), .int .u64 (n : Nat), .int .i64 (dp : Nat)] w fun r w' => r = .returned (itemV (pairsN s (item s lim k) n none x p).1) ∧ Did w b s lim F (pairsN s (item s lim k) n none x p).2 w' := by
  have H := Px.hid (And.intro h (And.intro hg hd))
  have HNB := Px.hid hn
  clear hn
  have hsz : (ByteArray.mk s.toArray).size = s.length := size_S s
  have HLEN := Px.hid hs
  clear h hg hd hs
  go_enter Tryd.func80, Tryd.ntmps80
  go_wp2
  go_loopw [1, 10, 11] (fun a la i wr => ∃ j q y F1 l, j ≤ n ∧ i = .int .u64 (j : Nat) ∧ a = .int .i64 (q : Nat) ∧ la = S l ∧ Hid (RdAt wr b s lim y F1 ∧ Good s lim y q k ∧ Fr F w wr ∧ Fresh w F F1 ∧ pairsN s (item s lim k) n none x p = pairsN s (item s lim k) (n - j) (if j = 0 then none else some l) y q)) (fun _ _ i _ => n - (intOf i).toNat)
  case atStart => exact ⟨0, p, x, F, [], Nat.zero_le _, rfl, rfl, rfl, Px.hid ⟨H.out.1, H.out.2.1, Fr.refl _ _, Fresh.refl _ _, rfl⟩⟩
  case round =>
    obtain ⟨j, q, y, F1, l, hj, rfl, rfl, rfl, HR⟩ := hrel
    have HD := Px.hid H.out.2.2
    clear H
    by_cases hlt : j < n
    · have hltz : (j : Int) < (n : Int) := by omega
      have hwj : IntKind.u64.wrap ((j : Int) + 1) = (j : Int) + 1 := IntWalk.u64_in _ ⟨by omega, by have := HNB.out; omega⟩
      have e1 : n - j = (n - (j + 1)) + 1 := by omega
      have HE := Px.hid HR.out.2.2.2.2
      rw [e1] at HE
      clear e1
      go_wp2_with fail
      refine (hI b q dp y F1 _ HR.out.1 HR.out.2.1 HD.out).mono ?_
      rintro e w1 ⟨rfl, hd⟩
      cases hr : item s lim k y q with
      | mk o z =>
        rw [hr] at hd
        cases o with
        | none =>
          have HN := Px.hid (show pairsN s (item s lim k) n none x p = (none, z) by rw [HE.out]; unfold pairsN; rw [hr])
          have HDD := Px.hid (Did.trans HR.out.2.2.1 HR.out.2.2.2.1 hd)
          clear hr hd
          unfold itemV
          go_wp2
          go_ret2
          rw [HN.out]
          exact ⟨rfl, HDD.out⟩
        | some r =>
          have hgood := HR.out.2.1.item hm hr
          have hqr : q ≤ r := by
            have := item_sim (s := s) hm k y q _ HR.out.2.1.sim HR.out.2.1.out
            rw [hr] at this
            exact this.1.le
          have hrs := hgood.ps
          have hsl : ∀ w, (Instr.slice 9 (S s) (some (.int .i64 (q : Int))) (some (.int .i64 (r : Int))) none).run Tryd.prog w = .ok (S ((s.take r).drop q)) w := fun w => slice_S s q r hqr hrs w
          have HE := Px.hid (show pairsN s (item s lim k) n none x p = (if (if j = 0 then none else some l).any (fun l => leB ((s.take r).drop q) l) then (none, fault z q 9) else match item s lim k z r with
            | (none, z) => (none, z)
            | (some t, z) => pairsN s (item s lim k) (n - (j + 1)) (some ((s.take r).drop q)) z t) by
              rw [HE.out]; conv => lhs; unfold pairsN; rw [hr]
              rfl)
          obtain ⟨F2, d1, d2, d3⟩ := hd
          obtain ⟨vo, rep, rfl⟩ := d1
          have HG := Px.hid hgood
          have HRP := Px.hid (And.intro rep (And.intro (HR.out.2.2.1.step HR.out.2.2.2.1 d2) (Fresh.trans HR.out.2.2.2.1 HR.out.2.2.1.size d3)))
          have c0 := rep.rd.cells.1
          clear hr rep d2 d3 hgood HR
          unfold itemV
          obtain ⟨key, hkey⟩ : ∃ key, key = (s.take r).drop q := ⟨_, rfl⟩
          rw [← hkey] at HE hsl
          clear hkey
          by_cases hj0 : j = 0
          · have hz : ¬ (0 : Int) < (j : Int) := by omega
            have HE := Px.hid (HE.out.trans (by rw [if_pos hj0]; rfl) : _ = (match item s lim k z r with
            | (none, z) => (none, z)
            | (some t, z) => pairsN s (item s lim k) (n - (j + 1)) (some key) z t))
            clear hj0
            go_wp2_with fail
            refine (hI b r dp z _ _ ⟨_, HRP.out.1, rfl⟩ HG.out HD.out).mono ?_
            rintro e w2 ⟨rfl, hd⟩
            cases hr2 : item s lim k z r with
            | mk o2 z2 =>
              rw [hr2] at hd
              rw [hr2] at HE
              cases o2 with
              | none =>
                have HN := Px.hid (HE.out)
                have HDD := Px.hid (Did.trans HRP.out.2.1 HRP.out.2.2 hd)
                clear hr2 hd
                unfold itemV
                go_wp2
                go_ret2
                rw [HN.out]
                exact ⟨rfl, HDD.out⟩
              | some t =>
                have HG2 := Px.hid (HG.out.item hm hr2)
                have HDD := Px.hid hd
                clear hr2 hd
                unfold itemV
                go_wp2
                go_roundw
                case rel =>
                  obtain ⟨F2, k1, k2, k3⟩ := HDD.out
                  exact ⟨j + 1, t, z2, F2, key, by omega, by go_num, rfl, rfl, Px.hid ⟨k1, HG2.out, HRP.out.2.1.step HRP.out.2.2 k2, Fresh.trans HRP.out.2.2 HRP.out.2.1.size k3, HE.out.trans (by rw [if_neg (Nat.succ_ne_zero j)])⟩⟩
                case measure => simp [intOf]; omega
          · have hz : (0 : Int) < (j : Int) := by omega
            have HE := Px.hid (HE.out.trans (by rw [if_neg hj0]; rfl) : _ = (if leB key l = true then (none, fault z q 9) else match item s lim k z r with
            | (none, z) => (none, z)
            | (some t, z) => pairsN s (item s lim k) (n - (j + 1)) (some key) z t))
            clear hj0
            by_cases hle : leB key l = true
            · have HN := Px.hid (HE.out.trans (if_pos hle))
              simp only [leB] at hle
              clear HE
              go_wp2_with fail
              refine (xfault_any b _ q 9 s lim z _ _ _ HRP.out.1.rd).mono ?_
              rintro e w2 ⟨rfl, hr, hf⟩
              have HX := Px.hid (And.intro (HRP.out.1.step hr hf rfl) (It.foot (vo := vo) hf))
              clear hr hf
              go_wp2
              go_ret2
              rw [HN.out]
              exact ⟨rfl, _, ⟨_, HX.out.1, rfl⟩, HRP.out.2.1.step HRP.out.2.2 HX.out.2, HRP.out.2.2⟩
            · have HE := Px.hid (HE.out.trans (if_neg hle))
              have hle' : (Op.bytesLess key l || key == l) = false := by
                simp only [leB] at hle
                exact Bool.eq_false_iff.2 hle
              clear hle
              go_wp2_with fail
              refine (hI b r dp z _ _ ⟨_, HRP.out.1, rfl⟩ HG.out HD.out).mono ?_
              rintro e w2 ⟨rfl, hd⟩
              cases hr2 : item s lim k z r with
              | mk o2 z2 =>
                rw [hr2] at hd
                rw [hr2] at HE
                cases o2 with
                | none =>
                  have HN := Px.hid (HE.out)
                  have HDD := Px.hid (Did.trans HRP.out.2.1 HRP.out.2.2 hd)
                  clear hr2 hd
                  unfold itemV
                  go_wp2
                  go_ret2
                  rw [HN.out]
                  exact ⟨rfl, HDD.out⟩
                | some t =>
                  have HG2 := Px.hid (HG.out.item hm hr2)
                  have HDD := Px.hid hd
                  clear hr2 hd
                  unfold itemV
                  go_wp2
                  go_roundw
                  case rel =>
                    obtain ⟨F2, k1, k2, k3⟩ := HDD.out
                    exact ⟨j + 1, t, z2, F2, key, by omega, by go_num, rfl, rfl, Px.hid ⟨k1, HG2.out, HRP.out.2.1.step HRP.out.2.2 k2, Fresh.trans HRP.out.2.2 HRP.out.2.1.size k3, HE.out.trans (by rw [if_neg (Nat.succ_ne_zero j)])⟩⟩
                  case measure => simp [intOf]; omega
    · have hltz : ¬ (j : Int) < (n : Int) := by omega
      have HE := Px.hid (show pairsN s (item s lim k) n none x p = (some q, y) by rw [HR.out.2.2.2.2, show n - j = 0 by omega]; rfl)
      go_wp2
      go_ret2
      rw [HE.out]
      exact ⟨rfl, F1, HR.out.1, HR.out.2.2.1, HR.out.2.2.2.1⟩
end Go.Proofs.YtddiabaagpmkgaaDoor
