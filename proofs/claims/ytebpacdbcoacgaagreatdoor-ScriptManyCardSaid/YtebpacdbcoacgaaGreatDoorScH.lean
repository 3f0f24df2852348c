/-
  The walks over slices.Sort of one string and (*ring.Ring).sort of a ring of one key.
-/
import Derived.Test.YtebpacdbcoacgaaGreatDoorScG
namespace Go.Proofs.YtebpacdbcoacgaaGreatDoor
open Go.RowKit Go.Px
theorem insort_1 (a : Option Addr) (c : Nat) (w : World) : Calls Tryz.prog 248 #[.slice a 1 c, .int .i64 0, .int .i64 1] w fun e w' => e = .returned (.tuple #[]) ∧ w = w' := by
  go_enter Tryz.func248, Tryz.ntmps248
  go_wp2
  refine wp_loop_rounds 1 ?_
  rw [rounds_succ]
  go_wp2
  go_end0
  exact ⟨rfl, rfl⟩
set_option maxRecDepth 100000 in
theorem pdq_1 (a : Option Addr) (c : Nat) (k : Int) (w : World) : Calls Tryz.prog 182 #[.slice a 1 c, .int .i64 0, .int .i64 1, .int .i64 k] w fun e w' => e = .returned (.tuple #[]) ∧ w = w' := by
  go_enter Tryz.func182, Tryz.ntmps182
  go_wp2
  refine wp_loop_rounds 1 ?_
  rw [rounds_succ]
  go_wp2_with (go_at_call 248; refine (insort_1 a c _).mono ?_; rintro e w' ⟨rfl, rfl⟩)
  first | go_end0 | refine bodyPost_ret (v := .tuple #[]) (results_none rfl _ _ _) rfl ?_
  exact ⟨rfl, rfl⟩
theorem sort_1 (a : Option Addr) (c : Nat) (w : World) : Calls Tryz.prog 118 #[.slice a 1 c] w fun e w' => e = .returned (.tuple #[]) ∧ w = w' := by
  go_enter Tryz.func118, Tryz.ntmps118
  go_wp2_with (first | (go_at_call 183; refine (Tryz.bits_Len 1 _ (by decide) (by decide)).mono ?_; rintro e w' ⟨rfl, rfl⟩) | (go_at_call 182; refine (pdq_1 a c _ _).mono ?_; rintro e w' ⟨rfl, rfl⟩))
  go_end0
  exact ⟨rfl, rfl⟩
/-- What a ring of one key holds, with its Once's two words and its names. -/
def rA (m g cap : Nat) (d st : Int) (nm : Value) : Array Value := #[.map (some m), .slice (some ⟨g, 0, none⟩) 1 cap, .int .u32 d, .int .i32 st, .int .u32 0, nm]
set_option maxRecDepth 100000 in
set_option maxHeartbeats 4000000 in
theorem rsort_any (m g cap p r : Nat) (d st : Int) (w : World) (hr : Blk w r (rA m g cap d st (.slice none 0 0)) 108) (hg : w.cell? ⟨g, 0, none⟩ = some (.pointer (some ⟨p, 0, none⟩))) (hp : Blk w p #[.string ⟨#[97]⟩, .string ⟨#[97]⟩, .int .i64 0] 114) :
    Calls Tryz.prog 74 #[.pointer (some ⟨r, 0, none⟩)] w fun e w' => e = .returned (.tuple #[]) ∧ Fr (fun k => k = r) w w' ∧ ∃ h hc, Blk w' r (rA m g cap d st (.slice (some ⟨h, 0, none⟩) 1 hc)) 108 ∧ w'.cell? ⟨h, 0, none⟩ = some (.string ⟨#[97]⟩) := by
  have r0 : w.cell? ⟨r, 0, none⟩ = some (.map (some m)) := hr.cell 0 rfl
  have r1 : w.cell? ⟨r, 1, none⟩ = some (.slice (some ⟨g, 0, none⟩) 1 cap) := hr.cell 1 rfl
  have r5 : w.cell? ⟨r, 5, none⟩ = some (.slice none 0 0) := hr.cell 5 rfl
  have f5 : w.frozen? ⟨r, 5, none⟩ = false := hr.free 5
  have p0 : w.cell? ⟨p, 0, none⟩ = some (.string ⟨#[97]⟩) := hp.cell 0 rfl
  have hrl := hr.lt
  have hpl := hp.lt
  have hgr : ¬ g = r := fun e => by subst e; rw [hg] at r0; cases r0
  have hpr : ¬ p = r := fun e => by subst e; rw [p0] at r0; cases r0
  have HR := Px.hid hr
  clear hr hp r0
  obtain ⟨i0, hi0, hz0, hz1, hz2⟩ := info_parts (show (Tryz.prog.info? 9).map (fun i => (i.zero, i.size, i.bytes)) = some (some (.string ⟨#[]⟩), 1, 16) by kernel_rfl)
  have HO := Px.hid (World.ownsRow_nil w w.heap.size 9 1)
  go_enter Tryz.func74, Tryz.ntmps74
  go_wp2
  refine wp_loop_rounds 2 ?_
  rw [rounds_succ]
  go_wp2
  go_region_law
    ((refine step_append_lies _ (by rfl) _ _ _ (by rfl) w.heap.size 9 i0 _ 1 16 Tryz.underlying31 hi0 hz0 hz1 hz2 rfl (by omega) (.slice none 0 0) 0 [] (by rfl) (World.ownsRow.alloc HO.out _)
          ⟨w.heap.size, 0, none⟩ 1 1 [.string ⟨#[97]⟩] (by rfl) (by rfl) (World.news_of_block (cs := #[.string ⟨#[97]⟩]) (t := 9) (fr := (0, 0)) (heap_alloc_new w _)) (by simp [Value.oneCell'])
          (by omega) (by unfold maxLen; omega) (by omega) (by simp) (w.heap.size + 1) (by simp) ?_; intro gg hc w2 hown1 hgrow hat hlt; have k5 := grown_cell hgrow r5 (by simp [Value.ownBlock]); have e5 := grown_free hgrow r5 f5 (by simp [Value.ownBlock])))
  all_goals
    have hs2 : Same w w2 := Fr.grown (Fr.alloc (Fr.drew (Fr.refl _ w)) _) hgrow (fun k hk => by cases hk)
    have hgz : w.heap.size ≤ gg := by
      rcases hown1.2 with ⟨e, _⟩ | ⟨g', cap', cur, e, hg', _⟩
      · cases e
      · injection e with e1
        injection e1 with e2
        injection e2 with e3
        omega
    have hg0 : w2.cell? ⟨gg, 0, none⟩ = some (.string ⟨#[97]⟩) := World.ownsRow.cellAt hown1 0 (by decide)
    have HR2 := Px.hid (HR.out.sm hs2)
    have HS2 := Px.hid hs2
    have HG := Px.hid (And.intro hgz hg0)
    clear hs2 hown1 hgrow hat hlt hg0 hgz HR HO k5 e5
    obtain ⟨w3, hw3⟩ : ∃ w3, w3 = w2.setCell ⟨r, 5, none⟩ (.slice (some ⟨gg, 0, none⟩) 1 hc) := ⟨_, rfl⟩
    rw [← hw3]
    have hr3 : Blk w3 r (rA m g cap d st (.slice (some ⟨gg, 0, none⟩) 1 hc)) 108 := by rw [hw3]; exact HR2.out.set 5 _
    have hg3 : w3.cell? ⟨gg, 0, none⟩ = some (.string ⟨#[97]⟩) := by
      rw [hw3]
      exact (World.cell?_setCell_other _ _ _ _ (by intro e; injection e with e1; have := HG.out.1; omega)).trans HG.out.2
    have hf3 : Fr (fun k => k = r) w w3 := by rw [hw3]; exact Fr.setCell (F := fun k => k = r) (HS2.out.fr _) (.inl rfl) _
    have HR3 := Px.hid hr3
    have HG3 := Px.hid hg3
    have HF3 := Px.hid hf3
    clear hw3 hr3 hg3 hf3 HR2 HS2 HG r1 r5 f5 p0
    have r5 : w3.cell? ⟨r, 5, none⟩ = some (.slice (some ⟨gg, 0, none⟩) 1 hc) := HR3.out.cell 5 rfl
    go_wp2
    rw [rounds_succ]
    go_wp2_with (go_at_call 118; refine (sort_1 _ _ _).mono ?_; rintro e w' ⟨rfl, rfl⟩)
    go_end0
    exact ⟨rfl, HF3.out, _, _, HR3.out, HG3.out⟩
end Go.Proofs.YtebpacdbcoacgaaGreatDoor
