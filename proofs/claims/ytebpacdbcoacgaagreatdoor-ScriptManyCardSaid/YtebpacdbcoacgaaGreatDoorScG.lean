/-
  The walks over ring.New and script.New.
-/
import Derived.Test.YtebpacdbcoacgaaGreatDoorScF
import Derived.WideMake
namespace Go.Proofs.YtebpacdbcoacgaaGreatDoor
open Go.RowKit Go.Px
set_option maxRecDepth 100000 in
set_option maxHeartbeats 4000000 in
theorem ring_nil (w : World) : Calls Tryz.prog 29 #[.slice none 0 0] w fun e w' => e = .returned (.tuple #[.pointer (some ⟨w.heap.size + 1, 0, none⟩), .int .i64 0]) ∧ Same w w' ∧ w'.heap.size = w.heap.size + 2 := by
  have hmm := @run_makeMap Tryz.prog
  go_enter Tryz.func29, Tryz.ntmps29
  go_wp2
  refine wp_loop_rounds 1 ?_
  rw [rounds_succ]
  go_wp2
  go_ret2
  exact ⟨rfl, Fr.alloc (Fr.alloc (Fr.refl _ w) _) _, by simp⟩
theorem look_empty (W : World) (m c : Nat) (s : ByteArray) (hb : W.heap[m]? = some (.map #[] c)) :
    (Instr.lookup 93 (.map (some m)) (.string s) false).run Tryz.prog W = .ok (.pointer none) W := by
  have hm : Tryz.prog.underlying 93 = some (.map 9 109) := Tryz.underlying93
  have hk : Tryz.prog.underlying 9 = some .string := Tryz.underlying9
  have hf : Instr.findNow .string (.string s) ([] : List MapEntry) 0 = some none := rfl
  have hc : (Instr.checkKey true 10000 9 (.string s)).run Tryz.prog W = .ok () W := MapKept.run_checkKey (k := .string s) hk (by simp [MapKept.IsKey]) true 9999
  have hz : ∀ w, (zeroValue 109).run Tryz.prog w = .ok (.pointer none) w := fun _ => by kernel_rfl
  simp [Instr.lookup, run_underlying hm, MapKept.run_getObj_map hb, hc, MapKept.run_findKey hk hf, hz, Result.andThen]
/-- A ring of one key, a: its block, its list's block, its place's. -/
structure RingA (w : World) (B r : Nat) : Prop where
  at_ : ∃ (m g cap p : Nat), B ≤ g ∧ B ≤ p ∧ Blk w r #[.map (some m), .slice (some ⟨g, 0, none⟩) 1 cap, .int .u32 0, .int .i32 0, .int .u32 0, .slice none 0 0] 108 ∧ (∃ cur, Blk w g cur 109 ∧ cur[0]? = some (.pointer (some ⟨p, 0, none⟩))) ∧ Blk w p #[.string ⟨#[97]⟩, .string ⟨#[97]⟩, .int .i64 0] 114
set_option maxRecDepth 100000 in
set_option maxHeartbeats 4000000 in
theorem ring_one (kb c : Nat) (w : World) (c0 : w.cell? ⟨kb, 0, none⟩ = some (.string ⟨#[97]⟩)) (c1 : w.cell? ⟨kb, 1, none⟩ = some (.string ⟨#[97]⟩)) : Calls Tryz.prog 29 #[.slice (some ⟨kb, 0, none⟩) 1 c] w fun e w' => e = .returned (.tuple #[.pointer (some ⟨w.heap.size + 1, 0, none⟩), .int .i64 0]) ∧ Same w w' ∧ RingA w' w.heap.size (w.heap.size + 1) := by
  have hkl : kb < w.heap.size := World.block_lt_of_cell? _ _ c0
  have hmm := @run_makeMap Tryz.prog
  go_enter Tryz.func29, Tryz.ntmps29
  go_wp2
  refine wp_loop_rounds 2 ?_
  rw [rounds_succ]
  go_wp2
  obtain ⟨w3, hw3⟩ : ∃ w3, w3 = ((w.alloc (.map #[] 0)).alloc (.cells #[.map (some w.heap.size), .slice none 0 0, .int .u32 0, .int .i32 0, .int .u32 0, .slice none 0 0] 108 (0, 0))).alloc (.cells #[.string ⟨#[97]⟩, .string ⟨#[97]⟩] 68 (0, 0)) := ⟨_, rfl⟩
  rw [← hw3]
  have hs3 : Same w w3 := by rw [hw3]; exact Fr.alloc (Fr.alloc (Fr.alloc (Fr.refl _ w) _) _) _
  have hz3 : w3.heap.size = w.heap.size + 3 := by rw [hw3]; simp
  have hm3 : w3.heap[w.heap.size]? = some (.map #[] 0) := by
    rw [hw3]
    exact (heap_alloc_old _ _ (by simp; omega)).trans ((heap_alloc_old _ _ (by simp)).trans (heap_alloc_new w _))
  have hr3 : Blk w3 (w.heap.size + 1) #[.map (some w.heap.size), .slice none 0 0, .int .u32 0, .int .i32 0, .int .u32 0, .slice none 0 0] 108 := by
    rw [hw3]
    have h1 := blk_new (w.alloc (.map #[] 0)) #[.map (some w.heap.size), .slice none 0 0, .int .u32 0, .int .i32 0, .int .u32 0, .slice none 0 0] 108
    have e : (w.alloc (.map #[] 0)).heap.size = w.heap.size + 1 := by simp
    rw [e] at h1
    exact h1.alloc _
  have hp3 : Blk w3 (w.heap.size + 1 + 1) #[.string ⟨#[97]⟩, .string ⟨#[97]⟩] 68 := by
    rw [hw3]
    have h1 := blk_new ((w.alloc (.map #[] 0)).alloc (.cells #[.map (some w.heap.size), .slice none 0 0, .int .u32 0, .int .i32 0, .int .u32 0, .slice none 0 0] 108 (0, 0))) #[.string ⟨#[97]⟩, .string ⟨#[97]⟩] 68
    have e : ((w.alloc (.map #[] 0)).alloc (.cells #[.map (some w.heap.size), .slice none 0 0, .int .u32 0, .int .i32 0, .int .u32 0, .slice none 0 0] 108 (0, 0))).heap.size = w.heap.size + 1 + 1 := by simp
    rw [e] at h1
    exact h1
  have HS := Px.hid hs3
  have HM := Px.hid hm3
  have HR := Px.hid hr3
  have HP := Px.hid hp3
  have HZ := Px.hid hz3
  obtain ⟨m, hm⟩ : ∃ m, m = w.heap.size := ⟨_, rfl⟩
  have hwm : w.heap.size ≤ m := Nat.le_of_eq hm.symm
  have HMW := Px.hid hm
  rw [← hm] at HM HR HP HZ ⊢
  clear hw3 hs3 hm3 hr3 hp3 hz3 hmm hkl c0 c1 hm
  have r0 : w3.cell? ⟨m + 1, 0, none⟩ = some (.map (some m)) := HR.out.cell 0 rfl
  have r1 : w3.cell? ⟨m + 1, 1, none⟩ = some (.slice none 0 0) := HR.out.cell 1 rfl
  have p0 : w3.cell? ⟨m + 1 + 1, 0, none⟩ = some (.string ⟨#[97]⟩) := HP.out.cell 0 rfl
  have p1 : w3.cell? ⟨m + 1 + 1, 1, none⟩ = some (.string ⟨#[97]⟩) := HP.out.cell 1 rfl
  have hlk : ∀ n, (Instr.lookup 93 (.map (some m)) (.string ⟨#[97]⟩) false).run Tryz.prog (w3.drewN n) = .ok (.pointer none) (w3.drewN n) := fun n => look_empty (w3.drewN n) m 0 _ HM.out
  go_quiet (fail)
  go_wp2
  obtain ⟨w4, hw4⟩ : ∃ w4, w4 = (w3.drewN nq).alloc (.cells #[.string ⟨#[97]⟩, .string ⟨#[97]⟩, .int .i64 0] 114 (0, 0)) := ⟨_, rfl⟩
  rw [← hw4]
  obtain ⟨p, hp⟩ : ∃ p, p = w3.heap.size := ⟨_, rfl⟩
  rw [← hp]
  have hs4 : Same w3 w4 := by rw [hw4]; exact Fr.alloc (Fr.drewN (Fr.refl _ w3) nq) _
  have hq4 : Blk w4 p #[.string ⟨#[97]⟩, .string ⟨#[97]⟩, .int .i64 0] 114 := by rw [hw4, hp]; exact blk_new (w3.drewN nq) _ _
  have hm4 : w4.heap[m]? = some (.map #[] 0) := (hs4.block m (ltOf HM.out) (fun x => x)).trans HM.out
  have hz4 : w4.heap.size = p + 1 := by rw [hw4, hp]; simp
  have HP4 := Px.hid (Blk.sm HP.out hs4)
  have HR4 := Px.hid (Blk.sm HR.out hs4)
  have HQ4 := Px.hid hq4
  have HM4 := Px.hid hm4
  have HS4 := Px.hid (Same.trans HS.out hs4)
  have HZ4 := Px.hid (And.intro hz4 (show p = m + 3 by rw [hp]; exact HZ.out))
  clear hw4 hp hs4 hq4 hm4 hz4 r0 r1 p0 p1 hlk HM HR HP HS HZ
  have r0 : w4.cell? ⟨m + 1, 0, none⟩ = some (.map (some m)) := HR4.out.cell 0 rfl
  have p0 : w4.cell? ⟨m + 1 + 1, 0, none⟩ = some (.string ⟨#[97]⟩) := HP4.out.cell 0 rfl
  obtain ⟨w5, hw5⟩ : ∃ w5 : World, w5 = { w4.drew with heap := w4.drew.heap.setIfInBounds m (.map #[{ key := .string ⟨#[97]⟩, val := .pointer (some ⟨p, 0, none⟩), born := 0 }] (0 + 1)) } := ⟨_, rfl⟩
  have hmu : (Instr.mapUpdate 93 (.map (some m)) (.string ⟨#[97]⟩) (.pointer (some ⟨p, 0, none⟩))).run Tryz.prog w4.drew = .ok () w5 := by
    rw [hw5]
    exact run_mapUpdate_first w4.drew _ _ _ m 0 ⟨#[97]⟩ _ Tryz.underlying93 Tryz.underlying9 HM4.out
  have HW5 := Px.hid hw5
  clear hw5
  go_region
  have hsz5 : w5.heap.size = w4.heap.size := by rw [HW5.out]; simp
  have hb5 : ∀ k, k ≠ m → w5.heap[k]? = w4.heap[k]? := fun k hk => by
    rw [HW5.out]
    exact Array.getElem?_setIfInBounds_ne (Ne.symm hk)
  have hf5 : Fr (fun k => k = m) w4 w5 := ⟨by rw [HW5.out]; rfl, by rw [HW5.out]; rfl, by rw [HW5.out]; rfl, Nat.le_of_eq hsz5.symm, fun k _ hn => hb5 k hn⟩
  have hpm : p = m + 3 := HZ4.out.2
  have HR5 := Px.hid (HR4.out.fr hf5 (by omega))
  have HQ5 := Px.hid (HQ4.out.fr hf5 (by omega))
  have HF5 := Px.hid hf5
  have HZ5 := Px.hid (hsz5.trans HZ4.out.1)
  clear hsz5 hb5 hf5 hpm hmu HP4 HR4 HQ4 HM4 HW5 r0 p0
  have r1 : w5.cell? ⟨m + 1, 1, none⟩ = some (.slice none 0 0) := HR5.out.cell 1 rfl
  have q0 := HR5.out.lt
  obtain ⟨i0, hi, hz0, hz1, hz2⟩ := info_parts (show (Tryz.prog.info? 109).map (fun i => (i.zero, i.size, i.bytes)) = some (some (.pointer none), 1, 8) by kernel_rfl)
  go_wp2_with (at_builtin; refine wpList_append_own _ rfl _ _ 94 rfl w5.heap.size 109 i0 (.pointer none) 1 8 Tryz.underlying94 hi hz0 hz1 hz2 rfl (by decide) _ _ _ rfl ((World.ownsRow_nil w5 w5.heap.size 109 1).alloc _) ⟨w5.heap.size, 0, none⟩ 1 1 [.pointer (some ⟨p, 0, none⟩)] rfl rfl ?c1 ?c2 ?c3 ?c4 ?c5 ?_)
  case c1 =>
    intro j u hj
    match j, hj with
    | 0, hj => simp at hj; subst hj; simp [Addr.add]
  case c2 => intro u hu; simp at hu; subst hu; rfl
  case c3 => unfold maxLen; omega
  case c4 => omega
  case c5 => simp
  intro v' w6 hown' hgrow _
  have hs6 : Same w5 w6 := Fr.grown (Fr.alloc (Fr.refl _ w5) _) hgrow (fun k hk => by cases hk)
  obtain ⟨g, cap, rfl, hg5, hg0⟩ : ∃ g cap, v' = .slice (some ⟨g, 0, none⟩) 1 cap ∧ w5.heap.size ≤ g ∧ ∃ cur, Blk w6 g cur 109 ∧ cur[0]? = some (.pointer (some ⟨p, 0, none⟩)) := by
    have hcell := fun g cap (e : v' = .slice (some ⟨g, 0, none⟩) 1 cap) => (World.ownsRow.cellAt (g := g) (cap := cap) (e ▸ hown') 0 (by decide) : w6.cell? ⟨g, 0, none⟩ = some (.pointer (some ⟨p, 0, none⟩)))
    rcases hown'.2 with ⟨_, h0⟩ | ⟨g, cap, cur, hv, hg, hgc, _⟩
    · cases h0
    · have h1 := hcell g cap hv
      simp only [World.cell?, hgc] at h1
      exact ⟨g, cap, hv, hg, cur, hgc, by simpa using h1⟩
  have HR6 := Px.hid (HR5.out.sm hs6)
  have HQ6 := Px.hid (HQ5.out.sm hs6)
  have HS6 := Px.hid (show Same w w6 from Fr.trans HS4.out (Fr.trans HF5.out hs6 (fun _ _ x => x.elim)) (fun b hb e => by have e' : b = m := e; omega))
  have HG6 := Px.hid (And.intro hg5 hg0)
  clear hs6 hown' hgrow hg5 hg0 HR5 HQ5 HF5 HS4 r1 q0 hi hz0 hz1 hz2
  have r1 : w6.cell? ⟨m + 1, 1, none⟩ = some (.slice none 0 0) := HR6.out.cell 1 rfl
  have f1 : w6.frozen? ⟨m + 1, 1, none⟩ = false := HR6.out.free 1
  go_wp2
  rw [rounds_succ]
  go_wp2
  go_ret2
  rw [← HMW.out]
  have hgz := HG6.out.1
  rw [HZ5.out, HZ4.out.2] at hgz
  refine ⟨rfl, Fr.setCell HS6.out (.inr (by show w.heap.size ≤ m + 1; omega)) _, ⟨m, g, cap, p, by omega, by rw [HZ4.out.2]; omega, HR6.out.set 1 _, ?_, HQ6.out.other _ (by show ¬ p = m + 1; rw [HZ4.out.2]; omega)⟩⟩
  obtain ⟨cur, k1, k2⟩ := HG6.out.2
  exact ⟨cur, k1.other _ (by show ¬ g = m + 1; omega), k2⟩
set_option maxRecDepth 100000 in
theorem cloneE_nil (w : World) : Calls Tryz.prog 35 #[.slice none 0 0] w fun e w' => e = .returned (.slice none 0 0) ∧ w = w' := by
  have hn := fun w : World => Lib.run_eql_slice_nil (P := Tryz.prog) w 59 68 none 0 0 0 0 Tryz.underlying59
  go_enter Tryz.func35, Tryz.ntmps35
  go_wp2
  go_ret
  exact ⟨rfl, rfl⟩
end Go.Proofs.YtebpacdbcoacgaaGreatDoor
