/-
  The walks over sync.Once's Do at a ring's sort, the ring's names and script's names, at a ring of one key.
-/
import Derived.Test.YtebpacdbcoacgaaGreatDoorScI
namespace Go.Proofs.YtebpacdbcoacgaaGreatDoor
open Go.RowKit Go.Px
set_option maxRecDepth 100000 in
set_option maxHeartbeats 4000000 in
theorem slow_sort (m g cap p r : Nat) (w : World) (hr : Blk w r (rA m g cap 0 0 (.slice none 0 0)) 108) (hg : w.cell? ⟨g, 0, none⟩ = some (.pointer (some ⟨p, 0, none⟩))) (hp : Blk w p #[.string ⟨#[97]⟩, .string ⟨#[97]⟩, .int .i64 0] 114) :
    Calls Tryz.prog 117 #[.pointer (some ⟨r, 2, none⟩), .func (.func 74) #[.pointer (some ⟨r, 0, none⟩)] #[]] w fun e w' => e = .returned (.tuple #[]) ∧ Fr (fun k => k = r) w w' ∧ ∃ h hc, Blk w' r (rA m g cap 1 0 (.slice (some ⟨h, 0, none⟩) 1 hc)) 108 ∧ w'.cell? ⟨h, 0, none⟩ = some (.string ⟨#[97]⟩) := by
  have r0 : w.cell? ⟨r, 0, none⟩ = some (.map (some m)) := hr.cell 0 rfl
  have hgr : ¬ g = r := fun e => by subst e; rw [hg] at r0; cases r0
  have hpr : ¬ p = r := fun e => by
    subst e
    have p0 : w.cell? ⟨p, 0, none⟩ = some (.string ⟨#[97]⟩) := hp.cell 0 rfl
    rw [p0] at r0; cases r0
  obtain ⟨w1, hw1⟩ : ∃ w1, w1 = w.setCell ⟨r, 3, none⟩ (.int .i32 1) := ⟨_, rfl⟩
  have hr1 : Blk w1 r (rA m g cap 0 1 (.slice none 0 0)) 108 := by rw [hw1]; exact hr.set 3 _
  have hg1 : w1.cell? ⟨g, 0, none⟩ = some (.pointer (some ⟨p, 0, none⟩)) := by
    rw [hw1]
    exact (World.cell?_setCell_other _ _ _ _ (by intro e; injection e with e1; exact hgr e1.symm)).trans hg
  have hp1 : Blk w1 p #[.string ⟨#[97]⟩, .string ⟨#[97]⟩, .int .i64 0] 114 := by rw [hw1]; exact hp.other _ hpr
  have HF1 := Px.hid (show Fr (fun k => k = r) w w1 by rw [hw1]; exact Fr.setCell (F := fun k => k = r) (Fr.refl _ w) (.inl rfl) _)
  have HLK := Px.hid (show Calls Tryz.prog 179 #[.pointer (some ⟨r, 3, none⟩)] w fun e w' => e = .returned (.tuple #[]) ∧ w1 = w' from (lock_free ⟨r, 3, none⟩ w (hr.cell 3 rfl) (hr.free 3)).mono fun _ _ ⟨h1, h2⟩ => ⟨h1, hw1.trans h2.symm⟩)
  have HSO := Px.hid (rsort_any m g cap p r 0 1 w1 hr1 hg1 hp1)
  have hl := run_call_load (P := Tryz.prog) Tryz.func178 (by kernel_rfl) (by kernel_rfl) (by kernel_rfl) .u32 (by kernel_rfl) (w := w1) (a := ⟨r, 2, none⟩) (x := 0) (hr1.cell 2 rfl)
  have hnot : ∀ (x : Bool) (w : World), (Op.unary .not (.bool x)).run Tryz.prog w = .ok (.bool (!x)) w := fun _ _ => rfl
  clear hw1 hr hg hp hr1 hg1 hp1 r0 hgr hpr
  go_enter_defers Tryz.func117, Tryz.ntmps117
  go_wp2_with (go_at_call 179; refine HLK.out.mono ?_; rintro e w' ⟨rfl, rfl⟩)
  go_wp2_with (first | (go_at_call 116; go_in) | (go_at_call 74; refine HSO.out.mono ?_; rintro e w2 ⟨rfl, hf2, h, hc, hb2, hh2⟩))
  have c2 : w2.cell? ⟨r, 2, none⟩ = some (.int .u32 0) := hb2.cell 2 rfl
  have f2 : w2.frozen? ⟨r, 2, none⟩ = false := hb2.free 2
  have HB2 := Px.hid hb2
  have HH2 := Px.hid hh2
  have HF2 := Px.hid (HF1.out.trans hf2 (fun _ _ x => x))
  clear hb2 hh2 hf2 hl HLK HSO HF1
  go_wp2
  refine leaves_cons (f := 181) (args := #[.pointer (some ⟨r, 2, none⟩), .bool true]) (by simp) (by simp [go_sem]) ?_
  refine (done_deferred ⟨r, 2, none⟩ (.int .u32 0) .returning _ c2 f2).mono ?_
  rintro e u' w3 ⟨rfl, rfl, hw3⟩
  have hb3 : Blk w3 r (rA m g cap 1 1 (.slice (some ⟨h, 0, none⟩) 1 hc)) 108 := by rw [hw3]; exact (HB2.out.drew).set 2 _
  refine leaves_cons (f := 180) (args := #[.pointer (some ⟨r, 3, none⟩)]) (by simp [settle]) (by simp [go_sem]) ?_
  refine (unlock_deferred ⟨r, 3, none⟩ _ _ (hb3.cell 3 rfl) (hb3.free 3)).mono ?_
  rintro e u' w4 ⟨rfl, rfl, hw4⟩
  have hhr : ¬ h = r := fun e => by
    subst e
    have x0 : w2.cell? ⟨h, 0, none⟩ = some (.map (some m)) := HB2.out.cell 0 rfl
    rw [HH2.out] at x0; cases x0
  have HP := Px.hid (show Fr (fun k => k = r) w w4 ∧ ∃ h hc, Blk w4 r (rA m g cap 1 0 (.slice (some ⟨h, 0, none⟩) 1 hc)) 108 ∧ w4.cell? ⟨h, 0, none⟩ = some (.string ⟨#[97]⟩) by
    rw [hw4]
    refine ⟨?_, h, hc, hb3.set 3 _, ?_⟩
    · rw [hw3]
      exact Fr.setCell (F := fun k => k = r) (Fr.setCell (F := fun k => k = r) (Fr.drew HF2.out) (.inl rfl) _) (.inl rfl) _
    · rw [hw3]
      exact (World.cell?_setCell_other _ _ _ _ (by intro e; injection e with e1; exact hhr e1.symm)).trans ((World.cell?_setCell_other _ _ _ _ (by intro e; injection e with e1; exact hhr e1.symm)).trans HH2.out))
  clear hw3 hw4 hb3 hhr HB2 HH2 HF2 c2 f2
  simp [Leaves, settle, results, Tryz.results117]
  obtain ⟨q1, h', hc', q2, q3⟩ := HP.out
  exact ⟨q1, h', ⟨hc', q2⟩, q3⟩
set_option maxRecDepth 100000 in
set_option maxHeartbeats 4000000 in
theorem do_sort (m g cap p r : Nat) (w : World) (hr : Blk w r (rA m g cap 0 0 (.slice none 0 0)) 108) (hg : w.cell? ⟨g, 0, none⟩ = some (.pointer (some ⟨p, 0, none⟩))) (hp : Blk w p #[.string ⟨#[97]⟩, .string ⟨#[97]⟩, .int .i64 0] 114) :
    Calls Tryz.prog 73 #[.pointer (some ⟨r, 2, none⟩), .func (.func 74) #[.pointer (some ⟨r, 0, none⟩)] #[]] w fun e w' => e = .returned (.tuple #[]) ∧ Fr (fun k => k = r) w w' ∧ ∃ h hc, Blk w' r (rA m g cap 1 0 (.slice (some ⟨h, 0, none⟩) 1 hc)) 108 ∧ w'.cell? ⟨h, 0, none⟩ = some (.string ⟨#[97]⟩) := by
  have HSL := Px.hid (slow_sort m g cap p r w hr hg hp)
  have hl := run_call_load (P := Tryz.prog) Tryz.func178 (by kernel_rfl) (by kernel_rfl) (by kernel_rfl) .u32 (by kernel_rfl) (w := w) (a := ⟨r, 2, none⟩) (x := 0) (hr.cell 2 rfl)
  have hnot : ∀ (x : Bool) (w : World), (Op.unary .not (.bool x)).run Tryz.prog w = .ok (.bool (!x)) w := fun _ _ => rfl
  clear hr hg hp
  go_enter Tryz.func73, Tryz.ntmps73
  go_wp2_with (first | (go_at_call 117; refine HSL.out.mono ?_; rintro e w' ⟨rfl, hq⟩; have HQ := Px.hid hq; clear hq) | (go_at_call 116; go_in))
  go_end0
  exact ⟨rfl, HQ.out⟩
set_option maxRecDepth 100000 in
set_option maxHeartbeats 4000000 in
theorem rnames_a (B r : Nat) (w : World) (h : RingA w B r) :
    Calls Tryz.prog 50 #[.pointer (some ⟨r, 0, none⟩)] w fun e w' => ∃ a c, e = .returned (.slice (some ⟨a, 0, none⟩) 1 c) ∧ Fr (fun k => k = r) w w' ∧ w'.cell? ⟨a, 0, none⟩ = some (.string ⟨#[97]⟩) := by
  obtain ⟨m, g, cap, p, _, _, h1, ⟨cur, q1, q2⟩, h3⟩ := h.at_
  have h2 := q1.cell 0 q2
  have r0 : w.cell? ⟨r, 0, none⟩ = some (.map (some m)) := h1.cell 0 rfl
  have hmn := fun W : World => run_eql_map_nil (P := Tryz.prog) W 93 9 109 (some m) Tryz.underlying93
  have hmf : ∀ (fn : Fn) (first cap : Array Value) (w : World), (Instr.makeFunc fn first cap).run Tryz.prog w = .ok (.func fn first cap) w := fun _ _ _ _ => rfl
  have HD := Px.hid (do_sort m g cap p r w h1 h2 h3)
  clear h h1 h2 h3 q1 q2
  go_enter Tryz.func50, Tryz.ntmps50
  go_wp2_with fail
  refine HD.out.mono ?_
  rintro e w1 ⟨rfl, hf, h, hc, hb, hh⟩
  have r5 : w1.cell? ⟨r, 5, none⟩ = some (.slice (some ⟨h, 0, none⟩) 1 hc) := hb.cell 5 rfl
  have HF := Px.hid hf
  have HC := Px.hid (Tryz.slices_Clone_string h 0 1 hc [⟨#[97]⟩] w1 (by simp) (by decide) (fun j hj => by
    have : j = 0 := by simpa using hj
    subst this
    exact hh))
  clear hf hb hh HD r0
  go_wp2_with fail
  refine HC.out.mono ?_
  rintro e w2 ⟨v', rfl, hown, _, hbel⟩
  obtain ⟨a, c, rfl⟩ : ∃ a c, v' = .slice (some ⟨a, 0, none⟩) 1 c := by
    rcases hown.2 with ⟨_, h0⟩ | ⟨a, c, cur, hv, _⟩
    · cases h0
    · exact ⟨a, c, hv⟩
  have HO := Px.hid hown
  have HB := Px.hid hbel
  clear hown hbel
  go_wp2_with fail
  go_ret
  exact ⟨a, c, rfl, HF.out.trans (Same.of HB.out) (fun _ _ x => x.elim), World.ownsRow.cellAt HO.out 0 (by decide)⟩
end Go.Proofs.YtebpacdbcoacgaaGreatDoor
