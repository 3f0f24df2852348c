/-
  Several texts in one: The walk over the program's der.sizes.
-/
import Derived.Test.YtpfhollohodcjaaGreatDoorXR
import Derived.Laws.OwnMore
/-! The walk over the program's der.sizes. -/
namespace Go.Proofs.YtpfhollohodcjaaGreatDoor
open Go.RowKit Go.Px Go.Px.R5

theorem zeros_flat : ∀ n : Nat, (List.replicate n 0).flatMap cNum = List.replicate n (Value.int .i64 0)
  | 0 => rfl
  | n + 1 => by rw [List.replicate_succ, List.flatMap_cons, zeros_flat n, List.replicate_succ]; rfl
theorem made_zeros (n : Nat) : (madeCells #[Value.int .i64 0] n).toList = (List.replicate n 0).flatMap cNum := by
  rw [zeros_flat]
  apply List.ext_getElem
  · simp [madeCells]
  · intro i h1 h2
    simp [madeCells, Nat.mod_one]
/-- What sizes hands back. -/
def SizeP (w : World) (l : List Px.Node) (b : Bytes) (e : Ending) (w' : World) : Prop :=
  ∃ sv, Same w w' ∧ ((262144 < b.length ∧ e = .returned (.tuple #[sv, .bool false])) ∨
    (b.length ≤ 262144 ∧ e = .returned (.tuple #[sv, .bool true]) ∧ Owns w' 3 1 cNum sv (E5.szR l).1))
theorem SizeP.long {w w' : World} {l : List Px.Node} {b : Bytes} {e : Ending} (sv : Value) (hs : Same w w') (hb : 262144 < b.length) (he : e = .returned (.tuple #[sv, .bool false])) : SizeP w l b e w' := ⟨sv, hs, .inl ⟨hb, he⟩⟩
theorem SizeP.ok {w w' : World} {l : List Px.Node} {b : Bytes} {e : Ending} (sv : Value) (hs : Same w w') (hb : b.length ≤ 262144) (he : e = .returned (.tuple #[sv, .bool true])) (ho : Owns w' 3 1 cNum sv (E5.szR l).1) : SizeP w l b e w' := ⟨sv, hs, .inr ⟨hb, he, ho⟩⟩
/-- What holds at the head of sizes' loop: so many stand ahead of it. -/
structure Siz (w wr : World) (ov v5 : Value) (l : List Px.Node) (k : Nat) : Prop where
  out : Owns wr 3 1 cNum ov (List.replicate k 0 ++ (E5.szR (l.drop k)).1)
  done : Nums w wr v5 (E5.szR (l.drop k)).2
  small : ∀ n ∈ (E5.szR (l.drop k)).2, n ≤ 262154
  len : (E5.szR (l.drop k)).2.length ≤ l.length - k
  ap : Apart ov.ownBlock v5.ownBlock
  outNew : ∀ g, ov.ownBlock = some g → w.heap.size ≤ g
theorem szR_drop : ∀ (l : List Px.Node) (j : Nat), (E5.szR l).1.drop j = (E5.szR (l.drop j)).1
  | [], j => by simp [E5.szR]
  | a :: r, 0 => rfl
  | a :: r, j + 1 => by
    rw [E5.szR_cons, List.drop_succ_cons, List.drop_succ_cons]
    exact szR_drop r j
theorem take_snoc_sum (D : List Nat) (c d : Nat) (rest : List Nat) (h : D.drop c = d :: rest) : (D.take (c + 1)).sum = (D.take c).sum + d ∧ D.drop (c + 1) = rest := by
  have hc : c < D.length := by
    rcases Nat.lt_or_ge c D.length with h1 | h1
    · exact h1
    · rw [List.drop_eq_nil_of_le h1] at h; cases h
  have h2 := List.drop_eq_getElem_cons hc
  rw [h2] at h
  simp only [List.cons.injEq] at h
  refine ⟨?_, h.2⟩
  rw [List.take_succ_eq_append_getElem hc, List.sum_append, h.1]
  simp
theorem sum_le (D : List Nat) (m : Nat) (h : ∀ n ∈ D, n ≤ m) : D.sum ≤ D.length * m := by
  induction D with
  | nil => simp
  | cons a D ih =>
    have h1 := h a (by simp)
    have h2 := ih (fun n hn => h n (by simp [hn]))
    rw [List.sum_cons, List.length_cons, Nat.add_mul]
    omega
set_option maxRecDepth 100000 in
set_option maxHeartbeats 8000000 in
theorem dsizes_any (v : Value) (l : List Px.Node) (w : World) (h : Lies w 3 cNode v l) (hn : l ≠ []) (hl : l.length ≤ 4096) (hw : ∀ a ∈ l, a.body.length ≤ 140737488355327) (b : Bytes) (o : Bool) (hel : E5.El 32 l b o) :
    Calls Tryz.prog 88 #[v] w (SizeP w l b) := by
  obtain ⟨va, vc, hv, hv1, hv2⟩ := h.slice
  subst hv
  have hll : 0 < l.length := List.length_pos_iff.2 hn
  obtain ⟨i0, hi0, hz0, hz1, hz2⟩ := info_parts Tryz.infoI64
  have hmk : ∀ W : World, (Instr.makeSlice 51 (.int .i64 (l.length : Nat)) (.int .i64 (l.length : Nat))).run Tryz.prog W = .ok (.slice (some ⟨W.heap.size, 0, none⟩) l.length l.length) (W.alloc (.cells (madeCells #[.int .i64 0] l.length) 3 (0, 0))) := fun W => by
    have := run_make (P := Tryz.prog) W 51 3 i0 (.int .i64 0) Tryz.underlying51 hi0 hz0 .i64 .i64 (l.length : Nat) (l.length : Nat) (by omega) (Int.le_refl _) (by rw [hz2]; omega) (by omega)
    rw [hz1, Int.toNat_natCast, Nat.mul_one] at this
    exact this
  have H := Px.hid (And.intro h (And.intro hw hel.whole))
  clear h hw hn hel
  go_enter Tryz.func88, Tryz.ntmps88
  go_wp2
  have HO := Px.hid (show Siz w (w.alloc (.cells (madeCells #[.int .i64 0] l.length) 3 (0, 0))) (.slice (some ⟨w.heap.size, 0, none⟩) l.length l.length) (.slice none 0 0) l l.length from by
    have hdr : l.drop l.length = [] := List.drop_length
    refine ⟨?_, ?_, ?_, ?_, nofun, ?_⟩
    · rw [hdr]
      have h1 := World.ownsRow_lit (base := 0) (e := 3) (size := 1) w (madeCells #[.int .i64 0] l.length) l.length (Nat.zero_le _) (by unfold maxLen; omega) (by rw [size_madeCells, Nat.mul_one])
      show Owns _ _ _ _ _ (List.replicate l.length 0 ++ [])
      rw [List.append_nil]
      unfold Owns
      rw [List.length_replicate, ← made_zeros]
      exact h1
    · rw [hdr]; exact ⟨owns_nil _ _ _ _, (Same.refl w).alloc _, nofun⟩
    · rw [hdr]; exact nofun
    · rw [hdr]; exact Nat.zero_le _
    · intro g hg
      simp only [Value.ownBlock, Option.some.injEq] at hg
      omega)
  clear hmk
  go_loopw [5, 6] (fun v5 ii wr => ∃ k : Nat, k ≤ l.length ∧ ii = .int .i64 ((k : Int) - 1) ∧ Hid (Siz w wr (.slice (some ⟨w.heap.size, 0, none⟩) l.length l.length) v5 l k)) (fun _ ii _ => (intOf ii + 1).toNat)
  case atStart => exact ⟨l.length, Nat.le_refl _, rfl, HO⟩
  case round =>
    clear HO
    obtain ⟨k, hk, rfl, HS⟩ := hrel
    cases k with
    | zero =>
      have hz : ¬ (0 : Int) ≤ ((0 : Nat) : Int) - 1 := by omega
      have hD : (E5.szR (l.drop 0)).2 = [b.length] := by rw [List.drop_zero]; exact H.out.2.2.1
      have hdn := HS.out.done
      rw [hD] at hdn
      obtain ⟨g, cap, hve, hc1, hc2, hcell, hfz, hgl⟩ := hdn.top
      simp only [List.length_nil, Nat.zero_add] at hve hc1 hcell
      rw [hve]
      unfold maxLen at hc2
      have hout := HS.out.out
      rw [List.replicate_zero, List.nil_append, List.drop_zero] at hout
      have HX := Px.hid (And.intro hdn.same hout)
      clear hdn hout hD hve hfz HS
      go_wp2_with fail
      go_region
      go_wp2
      go_ret2
      by_cases hb : b.length ≤ 262144
      · rw [decide_eq_true (show (b.length : Int) ≤ 262144 by omega)]
        exact SizeP.ok _ HX.out.1.drew hb rfl HX.out.2.drew
      · rw [decide_eq_false (show ¬ (b.length : Int) ≤ 262144 by omega)]
        exact SizeP.long _ HX.out.1.drew (by omega) rfl
    | succ j =>
      have ej : ((j + 1 : Nat) : Int) - 1 = (j : Int) := by omega
      have hjl : j < l.length := by omega
      obtain ⟨xb, xo, xc, hve, hxb, hcx⟩ := (Lies.same H.out.1 HS.out.done.same).cell j l[j] (by simp [hjl])
      simp only [Value.slice.injEq, true_and] at hve
      obtain ⟨rfl, rfl⟩ := hve
      have x1 := hcx 1 _ rfl
      have x2 := hcx 2 _ rfl
      rw [← Nat.add_assoc] at x1 x2
      obtain ⟨x, hx⟩ : ∃ x, x = l[j] := ⟨_, rfl⟩
      have hdj : l.drop j = x :: l.drop (j + 1) := by rw [hx]; exact List.drop_eq_getElem_cons hjl
      have hcnt := H.out.2.2.2.2.2.1 (l.take j) x (l.drop (j + 1)) (by rw [← hdj, List.take_append_drop])
      have hbl := H.out.2.1 x (by rw [hx]; exact List.getElem_mem _)
      have hszx : (ByteArray.mk x.body.toArray).size = x.body.length := size_S x.body
      rw [← hx] at x1 x2
      clear hcx hx
      obtain ⟨D, hD⟩ : ∃ D, D = (E5.szR (l.drop (j + 1))).2 := ⟨_, rfl⟩
      obtain ⟨LN, hLN⟩ : ∃ LN, LN = (E5.szR (l.drop (j + 1))).1 := ⟨_, rfl⟩
      obtain ⟨cn, hcn⟩ : ∃ cn, cn = E5.count x := ⟨_, rfl⟩
      have hmx : max x.kids 0 = (cn : Int) := by rw [hcn]; unfold E5.count; omega
      obtain ⟨hS1, hS2, hS3, hS4, hS5, hS6⟩ := HS.out
      rw [← hD] at hS2 hS3 hS4 hcnt
      rw [← hLN] at hS1
      rw [← hcn] at hcnt
      have hszj : (E5.szR (l.drop j)).1 = (x.body.length + (D.take cn).sum) :: LN ∧ (E5.szR (l.drop j)).2 = (x.body.length + (D.take cn).sum + E5.headN (x.body.length + (D.take cn).sum)) :: D.drop cn := by
        rw [hdj, E5.szR_cons, hD, hLN, hcn]
        exact ⟨rfl, rfl⟩
      have hDs : ∀ c, c ≤ cn → (D.take c).sum ≤ 1100000000 := fun c hc => by
        have h1 := sum_le (D.take c) 262154 (fun n hn => hS3 n (List.mem_of_mem_take hn))
        rw [List.length_take] at h1
        have h2 : min c D.length * 262154 ≤ 4096 * 262154 := Nat.mul_le_mul_right _ (by omega)
        omega
      have hcn4 : cn ≤ 4096 := by omega
      have HX := Px.hid (And.intro hS1 (And.intro hS2 (And.intro hS3 (And.intro hS4 (And.intro hS5 (And.intro hS6 (And.intro hszj (And.intro hcnt (And.intro hDs hbl)))))))))
      obtain ⟨bl, hblx⟩ : ∃ bl, bl = x.body.length := ⟨_, rfl⟩
      rw [← hblx] at hszx hbl
      have HBL := Px.hid hblx
      obtain ⟨va5, vc5, hve5⟩ := hS2.len
      subst hve5
      clear hS1 hS2 hS3 hS4 hS5 hS6 hszj hcnt hDs hD hLN hcn hdj HS hblx
      rw [ej]
      clear ej
      go_wp2
      go_loop [5, 7, 30] (fun v5 n c => ∃ (c' : Nat), c' ≤ cn ∧ c = .int .i64 (c' : Nat) ∧ n = .int .i64 ((bl + (D.take c').sum : Nat) : Int) ∧ Hid (Nums w wr v5 (D.drop c') ∧ Apart (some w.heap.size) v5.ownBlock)) (fun _ _ c => cn - (intOf c).toNat)
      case atStart => exact ⟨0, Nat.zero_le _, rfl, by simp, Px.hid ⟨HX.out.2.1, HX.out.2.2.2.2.1⟩⟩
      case round =>
        obtain ⟨c', hc', rfl, rfl, HN⟩ := hrel
        have hsum := HX.out.2.2.2.2.2.2.2.2.1 c' hc'
        obtain ⟨sm, hsm⟩ : ∃ sm, sm = bl + (D.take c').sum := ⟨_, rfl⟩
        rw [← hsm]
        have hsmb : sm ≤ 140740000000000 := by omega
        by_cases hlt : c' < cn
        · have hltz : (c' : Int) < (cn : Int) := by omega
          have hdd := List.drop_eq_getElem_cons (l := D) (i := c') (by have := HX.out.2.2.2.2.2.2.2.1; omega)
          obtain ⟨d, hd⟩ : ∃ d, d = D[c']'(by have := HX.out.2.2.2.2.2.2.2.1; omega) := ⟨_, rfl⟩
          have hdb : d ≤ 262154 := by rw [hd]; exact HX.out.2.2.1 _ (List.getElem_mem _)
          rw [← hd] at hdd
          have hts := take_snoc_sum D c' d _ hdd
          have hnu := HN.out.1
          rw [hdd] at hnu
          obtain ⟨g, cap, hve, hc1, hc2, hcell, hfz, hgl⟩ := hnu.top
          subst hve
          unfold maxLen at hc2
          obtain ⟨rs, hrs⟩ : ∃ rs, rs = D.drop (c' + 1) := ⟨_, rfl⟩
          rw [← hrs] at hnu hcell hfz hc1 ⊢
          have HE := Px.hid (And.intro hnu.pop (And.intro HN.out.2 (And.intro hrs (show sm + d = bl + (D.take (c' + 1)).sum by rw [hts.1, hsm]; omega))))
          clear hd hdd hts hnu hrs hsm hsum HN
          go_wp2
          go_round
          case rel => exact ⟨c' + 1, by omega, by go_num, by rw [← HE.out.2.2.2]; go_num, Px.hid ⟨by rw [← HE.out.2.2.1]; exact HE.out.1, HE.out.2.1⟩⟩
          case measure => simp [intOf]; omega
        · have hltz : ¬ (c' : Int) < (cn : Int) := by omega
          obtain rfl : c' = cn := by omega
          obtain ⟨va6, vc6, hve6⟩ := HN.out.1.len
          subst hve6
          have hszj : (E5.szR (l.drop j)).1 = sm :: LN ∧ (E5.szR (l.drop j)).2 = (sm + E5.headN sm) :: D.drop c' := by rw [hsm, HBL.out]; exact HX.out.2.2.2.2.2.2.1
          have HJ := Px.hid hszj
          clear hsm hlt hszj
          by_cases hbig : 262144 < sm
          · have hbz : (262144 : Int) < (sm : Int) := by omega
            have hbb : 262144 < b.length := by
              have h1 := H.out.2.2.2.2.1 sm (List.mem_of_mem_drop (i := j) (by rw [szR_drop, HJ.out.1]; simp))
              omega
            clear hbig
            go_wp2
            go_ret2
            exact SizeP.long _ HN.out.1.same hbb rfl
          · have hbz : ¬ (262144 : Int) < (sm : Int) := by omega
            have hget : (List.replicate (j + 1) 0 ++ LN)[j]? = some 0 := by
              rw [List.getElem?_append_left (by simp), List.getElem?_replicate, if_pos (by omega)]
            obtain ⟨g0, cap0, hve0, _, _, hcell0, hfz0⟩ := HX.out.1.at cNum_len hget
            simp only [Value.slice.injEq, Option.some.injEq, Addr.mk.injEq, and_true] at hve0
            have hg0 := hve0.1
            subst hg0
            clear hve0
            have k0 := hcell0 0 _ rfl
            have f0 := hfz0 j
            rw [Nat.mul_one, Nat.add_zero] at k0
            have hset := owns_setAt cNum_len HX.out.1 hget 0 (by decide) (.int .i64 (sm : Nat)) (show cNum sm = _ from rfl)
            rw [Nat.mul_one, Nat.add_zero] at hset
            have hl3 : (List.replicate (j + 1) 0 ++ LN).set j sm = List.replicate j 0 ++ (sm :: LN) := by
              rw [List.replicate_succ', List.append_assoc, List.set_append_right _ _ (by simp)]
              simp
            rw [hl3] at hset
            have hnb : (Value.slice va6 (D.drop c').length vc6).ownBlock ≠ some w.heap.size := fun e => HN.out.2 _ rfl e
            have HW := Px.hid (show Owns (wr.setCell ⟨w.heap.size, j, none⟩ (.int .i64 (sm : Nat))) 3 1 cNum (.slice (some ⟨w.heap.size, 0, none⟩) l.length l.length) (List.replicate j 0 ++ (sm :: LN)) ∧ Nums w (wr.setCell ⟨w.heap.size, j, none⟩ (.int .i64 (sm : Nat))) (.slice va6 (D.drop c').length vc6) (D.drop c') from
              ⟨hset, HN.out.1.own.setCell (p := ⟨w.heap.size, j, none⟩) hnb _, HN.out.1.same.setCell (p := ⟨w.heap.size, j, none⟩) (.inr (Nat.le_refl _)) _, HN.out.1.new⟩)
            have hhl := headN_le sm
            obtain ⟨hd, hhd⟩ : ∃ hd, hd = E5.headN sm := ⟨_, rfl⟩
            rw [← hhd] at hhl
            have HHD := Px.hid hhd
            have hwl : w.heap.size < wr.heap.size := (HX.out.1.lt rfl)
            clear hset hget hcell0 hfz0 hl3 hnb hbig hhd
            go_upto_region 15 with fail
            obtain ⟨W1, hW1⟩ : ∃ W1, W1 = wr.setCell ⟨w.heap.size, j, none⟩ (.int .i64 (sm : Nat)) := ⟨_, rfl⟩
            rw [← hW1] at HW ⊢
            clear hW1 k0 f0
            have hrow := HW.out.2.row
            obtain ⟨RL, hRL⟩ : ∃ RL, RL = (D.drop c').reverse.flatMap cNum := ⟨_, rfl⟩
            rw [← hRL] at hrow
            have HRO := Px.hid hrow
            have HRL := Px.hid hRL
            have hdl : (D.drop c').length ≤ 4096 := by rw [List.length_drop]; have := HX.out.2.2.2.1; omega
            obtain ⟨DL, hDL⟩ : ∃ DL, DL = (D.drop c').length := ⟨_, rfl⟩
            rw [← hDL] at hdl HRO ⊢
            have HDL := Px.hid hDL
            clear hrow hRL hDL
            go_wp2_with fail
            refine (dhead_any sm (by omega) _).mono ?_
            rintro r w2x ⟨rfl, hw2x⟩
            subst hw2x
            rw [← HHD.out]
            go_wp2_with (at_builtin; go_must (refine wpList_append_lies _ rfl _ _ _ rfl 0 3 i0 _ 1 8 Tryz.underlying51 hi0 hz0 hz1 hz2 rfl (by omega) (.slice va6 DL vc6) DL RL rfl (HRO.out.alloc _) ⟨W1.heap.size, 0, none⟩ 1 1 [.int .i64 ((sm : Int) + hd)] rfl rfl (World.news_of_block (cs := #[.int .i64 ((sm : Int) + hd)]) (t := 3) (fr := (0, 0)) (heap_alloc_new W1 _)) (by simp [Value.oneCell']) (by omega) (by unfold maxLen; omega) (by omega) (by omega) (W1.heap.size + 1) (by simp) ?_))
            intro gg cap WY hown1 hgrow hat hlt1
            rw [HRL.out, show (sm : Int) + hd = ((sm + hd : Nat) : Int) by omega] at hown1
            have HP := Px.hid (show Siz w WY (.slice (some ⟨w.heap.size, 0, none⟩) l.length l.length) (.slice (some ⟨gg, 0, none⟩) (DL + 1) cap) l j from by
              have h1 := HW.out.2
              have h2 := hown1
              have h3 := grown_alloc1 (w := W1) hgrow
              rw [HDL.out] at h2 h3 hat ⊢
              have hnums := Nums.push (n := sm + hd) h1 h2 h3 (hat.imp id (fun e => by omega))
              refine ⟨?_, ?_, ?_, ?_, ?_, HX.out.2.2.2.2.2.1⟩
              · rw [HJ.out.1]
                exact HW.out.1.grown h3 (fun g hg => by
                  simp only [Value.ownBlock, Option.some.injEq] at hg
                  subst hg
                  exact HN.out.2 _ rfl)
              · rw [HJ.out.2, ← HHD.out]; exact hnums
              · rw [HJ.out.2, ← HHD.out]
                intro m hm
                rcases List.mem_cons.1 hm with rfl | hm
                · omega
                · exact HX.out.2.2.1 m (List.mem_of_mem_drop hm)
              · rw [HJ.out.2, List.length_cons, List.length_drop]
                have := HX.out.2.2.2.1
                omega
              · intro g hg e
                simp only [Value.ownBlock, Option.some.injEq] at hg e
                subst hg
                rcases hat with q | q
                · exact HN.out.2 _ rfl (by rw [q, e])
                · have := HW.out.1.lt (k := w.heap.size) rfl
                  omega)
            clear hown1 hgrow hat
            go_wp2
            go_roundw
            case rel =>
              exact ⟨j, by omega, rfl, HP⟩
            case measure => simp [intOf]
end Go.Proofs.YtpfhollohodcjaaGreatDoor
