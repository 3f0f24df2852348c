/-
  The walk over script.Run at a text of many remarks .
-/
import Derived.Test.YtebpacdbcoacgaaGreatDoorScQ
namespace Go.Proofs.YtebpacdbcoacgaaGreatDoor
open Go.RowKit Go.Px
def linesOf (l : List UInt8) (k : Nat) : List ByteArray := List.replicate k ⟨(35 :: l).toArray⟩ ++ [⟨#[]⟩]
theorem linesOf_at (l : List UInt8) (k j : Nat) (h : j < k) : ((linesOf l k).map Value.string).toArray[j]? = some (.string ⟨(35 :: l).toArray⟩) := by
  simp [linesOf, List.getElem?_append, h]
theorem linesOf_last (l : List UInt8) (k : Nat) : ((linesOf l k).map Value.string).toArray[k]? = some (.string ⟨#[]⟩) := by
  simp [linesOf]
set_option maxRecDepth 100000 in
set_option maxHeartbeats 16000000 in
theorem run_lines (u l : List UInt8) (k : Nat) (hk0 : 505 ≤ k) (hk1 : k ≤ 519) (mx : Int) (w : World) (hm : MaxW w mx) (hu : u.length ≤ 52938)
    (hsp : ∀ W : World, MaxW W mx → Calls Tryz.prog 8 #[.string ⟨u.toArray⟩, .string ⟨#[10]⟩] W fun e w' => ∃ lb, e = .returned (.slice (some ⟨lb, 0, none⟩) ((k : Int) + 1).toNat (k + 1)) ∧ Same W w' ∧ W.heap.size ≤ lb ∧ Blk w' lb ((linesOf l k).map Value.string).toArray 9) :
    Calls Tryz.prog 6 #[.string ⟨u.toArray⟩] w fun e w' => e = .returned (.tuple #[.string ⟨#[]⟩, .int .i64 (if 512 < k then 10 else 0)]) ∧ Same w w' := by
  have HM := Px.hid hm
  have HSP := Px.hid hsp
  have HZ := Px.hid (World.block_lt_of_cell? _ _ hm)
  clear hm hsp
  have e1 : ((k : Int) + 1).toNat = k + 1 := by omega
  go_enter Tryz.func6, Tryz.ntmps6
  go_wp2_with fail
  refine (HSP.out _ HM.out).mono ?_
  rintro e w1 ⟨lb, rfl, hs1, hlb, hbl⟩
  have l1 : w1.cell? ⟨lb, k, none⟩ = some (.string ⟨#[]⟩) := hbl.cell k (linesOf_last l k)
  have hll := hbl.lt
  have HL := Px.hid hbl
  have HS1 := Px.hid hs1
  rw [e1]
  clear hs1 hlb hbl HSP
  go_wp2_with fail
  · go_ret2
    exact ⟨rfl, HS1.out⟩
  have hle : k ≤ 512 := by omega
  refine (sc_new _).mono ?_
  rintro e w2 ⟨sb, rb0, rfl, hs2, hsb, hses⟩
  obtain ⟨b, hb⟩ : ∃ b, b = w2.heap.size := ⟨_, rfl⟩
  obtain ⟨w3, hw3⟩ : ∃ w3, w3 = w2.alloc (.cells #[.pointer none, .slice none 0 0] 37 (0, 0)) := ⟨_, rfl⟩
  have hr3 : RunW w w3 lb sb b (linesOf l k) (.slice none 0 0) (.pointer (some ⟨rb0, 0, none⟩)) 32 4096 262144 4096 mx [] := by
    have hz := HZ.out
    have h1 := HS1.out.size
    have h2 := HL.out.lt
    have h3 := Blk.lt hses
    rw [hw3, hb]
    exact ⟨(Same.trans (Same.trans HS1.out hs2) (Fr.alloc (Fr.refl _ w2) _)).below, (Blk.sm HL.out hs2).alloc _, Blk.alloc hses _, bd_new w2, (HM.out.fr (Same.trans (Same.trans HS1.out hs2) (Fr.alloc (Fr.refl _ w2) _)) (fun x => x)), by omega, Nat.lt_of_lt_of_le h2 hs2.size, h3, by omega, by omega, by simp⟩
  have HR := Px.hid hr3
  have HW3 := Px.hid (And.intro hw3 hb)
  clear hs2 hsb hses l1 hll HL hr3 HZ HM HS1 hw3 hb
  go_wp2
  rw [← HW3.out.1, ← HW3.out.2]
  go_loopw [32] (fun i wr => ∃ j : Nat, j ≤ k ∧ i = .int .i64 (j : Nat) ∧ Hid (RunW w wr lb sb b (linesOf l k) (.slice none 0 0) (.pointer (some ⟨rb0, 0, none⟩)) 32 4096 262144 4096 mx [])) (fun i _ => k - (intOf i).toNat)
  case atStart => exact ⟨0, Nat.zero_le _, rfl, HR⟩
  case round =>
    obtain ⟨j, hj, rfl, HRj⟩ := hrel
    by_cases hlt : j < k
    · have cj : wr.cell? ⟨lb, j, none⟩ = some (.string ⟨(35 :: l).toArray⟩) := HRj.out.lines.cell j (linesOf_at l k j hlt)
      have lj := HRj.out.lines.lt
      go_wp2
      exact ⟨⟨j + 1, by omega, by simp, HRj⟩, by first | omega | (simp only [intOf]; omega) | go_num⟩
    · go_wp2_with fail
      refine (bstr_any b b _ _ HRj.out.bd HRj.out.hb).mono ?_
      rintro e w9 ⟨rfl, hbl9⟩
      have HE := Px.hid (HRj.out.bel.trans (hbl9.mono (by have := HRj.out.lo; have := HRj.out.sob; omega)))
      clear hbl9
      go_wp2
      go_ret2
      exact ⟨rfl, Same.of HE.out⟩
end Go.Proofs.YtebpacdbcoacgaaGreatDoor
