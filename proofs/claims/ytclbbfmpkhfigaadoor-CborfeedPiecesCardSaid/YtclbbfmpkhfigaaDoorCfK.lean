/-
  The walks over the statements CborfeedPieces and CborfeedStates.
-/
import Derived.Test.YtclbbfmpkhfigaaDoorSm
import Derived.Test.YtclbbfmpkhfigaaDoorCfM
namespace Go.Proofs.YtclbbfmpkhfigaaDoor
open Go.RowKit Go.Px Go.Px.Cf

/-- A slice that reads as these strings. -/
structure StrsAt (w : World) (v : Value) (ss : List Bytes) : Prop where
  slice : ∃ a cap, v = .slice a ss.length cap
  len : ss.length ≤ maxLen
  each : ∀ i (h : i < ss.length), ss[i].length ≤ maxLen
  cell : ∀ i (h : i < ss.length), ∃ b off cap, v = .slice (some ⟨b, off, none⟩) ss.length cap ∧ b < w.heap.size ∧ w.cell? ⟨b, off + i, none⟩ = some (S ss[i])
theorem StrsAt.same {w w' : World} {v : Value} {ss : List Bytes} (h : StrsAt w v ss) (hs : Same w w') : StrsAt w' v ss :=
  ⟨h.slice, h.len, h.each, fun i hi => by
    obtain ⟨b, off, cap, h1, h2, h3⟩ := h.cell i hi
    exact ⟨b, off, cap, h1, Nat.lt_of_lt_of_le h2 hs.size, (hs.cell (p := ⟨b, off + i, none⟩) h2 (fun x => x)).trans h3⟩⟩
theorem app_S (a b : List UInt8) : (ByteArray.mk a.toArray) ++ (ByteArray.mk b.toArray) = ⟨(a ++ b).toArray⟩ := by
  apply ByteArray.ext
  simp
/-- The pieces so far. -/
def upto (ss : List Bytes) (k : Nat) : Bytes := (ss.take k).flatten
theorem Own.sm {w w' : World} {b : Nat} {f : Feed} (h : Own w w' b f) : Same w w' := by
  obtain ⟨_, _, _, h, _⟩ := h
  exact h
theorem upto_succ (ss : List Bytes) (k : Nat) (h : k < ss.length) : upto ss (k + 1) = upto ss k ++ ss[k] := by
  unfold upto
  rw [List.take_succ_eq_append_getElem h, List.flatten_append]
  simp

/-- What the feed tells, by the reference. -/
theorem feed_now (s : Bytes) (lim : Lim) (hm : lim.may = true) : (if (R7.read s lim).ended then 0 else (R7.read s lim).err) = (Cf.write (Cf.init lim) s).err := (R7.feed_ref s lim hm).1.symm

set_option maxRecDepth 100000 in
set_option maxHeartbeats 4000000 in
theorem law_CborfeedPieces {v : Value} (ss : List Bytes) (l : Lim) (w : World) (hv : StrsAt w v ss) (hT : Tabs w) :
    Calls Tryd.prog 3 #[v, limV l] w fun e w' => e = .returned (.bool true) ∧ Below w.heap.size w w' := by
  have HT := Px.hid hT
  have HV := Px.hid hv
  obtain ⟨va, vc, hvs⟩ := hv.slice
  have hlm := hv.len
  unfold maxLen at hlm
  subst hvs
  clear hT hv
  unfold limV
  go_enter Tryd.func3, Tryd.ntmps3
  go_wp2_with fail
  have HL := Px.hid (LimIn.boxed w l)
  refine (wakes_any _ (HT.out.lim HL.out) (HT.out.lim HL.out).two).mono ?_
  rintro e w1 ⟨rfl, hs⟩
  have HL := Px.hid (HL.out.same hs)
  have HL1 := HL
  have HT := Px.hid (HT.out.lim HL.out)
  have HV := Px.hid (HV.out.same HL.out.1)
  clear hs
  obtain ⟨c0, c1, c2, c3⟩ := HL.out.cells
  cases hm : l.may
  · have HM := Px.hid hm
    clear hm
    go_wp2_with fail
    refine (new_no l _ HM.out).mono ?_
    rintro e w2 ⟨rfl, hs⟩
    have HL := Px.hid (HL.out.same hs)
    clear hs c0 c1 c2 c3
    obtain ⟨c0, c1, c2, c3⟩ := HL.out.cells
    go_wp2_with fail
    refine (refMay_any l _).mono ?_
    rintro e w3 ⟨rfl, hs⟩
    have HL := Px.hid (HL.out.same hs)
    clear hs
    rw [HM.out]
    go_wp2
    go_ret
    exact ⟨rfl, HL.out.1.below⟩
  · have HM := Px.hid hm
    clear hm
    go_wp2_with fail
    refine (Own.new (Same.refl w1) HM.out).mono ?_
    rintro e w2 ⟨b, rfl, ho, hs, hb⟩
    have HO := Px.hid ho
    have HL := Px.hid (HL.out.same hs)
    clear ho hs hb c0 c1 c2 c3
    obtain ⟨c0, c1, c2, c3⟩ := HL.out.cells
    go_wp2_with fail
    refine (refMay_any l _).mono ?_
    rintro e w3 ⟨rfl, hs⟩
    have HO := Px.hid (HO.out.same hs)
    have HL := Px.hid (HL.out.same hs)
    clear hs c0 c1 c2 c3
    rw [HM.out]
    by_cases h100 : 100 < ss.length
    · have hz : (100 : Int) < (ss.length : Int) := by omega
      clear h100
      go_wp2
      go_ret
      exact ⟨rfl, HL.out.1.below⟩
    · have hz : ¬ (100 : Int) < (ss.length : Int) := by omega
      go_wp2
      go_loopw [7, 60] (fun al i wr => ∃ k : Nat, k ≤ ss.length ∧ i = .int .i64 (k : Nat) ∧ al = S (upto ss k) ∧ Hid ((upto ss k).length ≤ 4000 ∧ Own w1 wr b (Cf.write (Cf.init l) (upto ss k)))) (fun _ i _ => ss.length - (intOf i).toNat)
      case atStart => exact ⟨0, Nat.zero_le _, rfl, rfl, Px.hid ⟨by simp [upto], HO.out⟩⟩
      case round =>
        clear HO HL
        obtain ⟨k, hk, rfl, rfl, HR⟩ := hrel
        obtain ⟨hl4, ho⟩ := HR.out
        obtain ⟨c0, c1, c2, c3⟩ := (HL1.out.same ho.sm).cells
        have hsz : (ByteArray.mk (upto ss k).toArray).size = (upto ss k).length := size_S _
        by_cases hlt : k < ss.length
        · have hltz : (k : Int) < (ss.length : Int) := by omega
          obtain ⟨vb, voff, vc2, hve, hvb, hcell⟩ := HV.out.cell k hlt
          simp only [Value.slice.injEq, true_and] at hve
          obtain ⟨rfl, rfl⟩ := hve
          have hcell := (ho.sm.cell (p := ⟨vb, voff + k, none⟩) hvb (fun x => x)).trans hcell
          have HUP := Px.hid (upto_succ ss k hlt)
          have hpl := HV.out.each k hlt
          unfold maxLen at hpl
          obtain ⟨pc, hpc⟩ : ∃ pc, pc = ss[k] := ⟨_, rfl⟩
          rw [← hpc] at hcell HUP hpl
          have hpsz : (ByteArray.mk pc.toArray).size = pc.length := size_S _
          clear hpc ho
          by_cases h2000 : 2000 < (upto ss k).length
          · have z1 : (2000 : Int) < ((upto ss k).length : Int) := by omega
            clear h2000
            go_wp2
            go_ret
            exact ⟨rfl, (HL1.out.1.trans HR.out.2.sm).below⟩
          · have z1 : ¬ (2000 : Int) < ((upto ss k).length : Int) := by omega
            by_cases hp2000 : 2000 < pc.length
            · have z2 : (2000 : Int) < (pc.length : Int) := by omega
              clear h2000 hp2000
              go_wp2
              go_ret
              exact ⟨rfl, (HL1.out.1.trans HR.out.2.sm).below⟩
            · have z2 : ¬ (2000 : Int) < (pc.length : Int) := by omega
              have happ := app_S (upto ss k) pc
              have HLL := Px.hid (show (upto ss k ++ pc).length ≤ 4000 by rw [List.length_append]; omega)
              have HPL := Px.hid (show pc.length ≤ maxLen by unfold maxLen; omega)
              clear h2000 hp2000
              go_wp2_with fail
              refine (HR.out.2.write HT.out.two HT.out pc HPL.out).mono ?_
              rintro e w4 ⟨rfl, ho⟩
              rw [← Cf.write_append, ← HUP.out] at ho ⊢
              have hnow := feed_now (upto ss (k + 1)) l HM.out
              rw [← HUP.out] at HLL
              have HO := Px.hid ho
              clear c0 c1 c2 c3 hcell happ hpsz hsz
              obtain ⟨c0, c1, c2, c3⟩ := (HL1.out.same ho.sm).cells
              have HN := Px.hid hnow
              clear ho hnow
              go_wp2_with fail
              refine (lawread_any (upto ss (k + 1)) l _ HM.out (by have := HLL.out; omega)).mono ?_
              rintro e w5 ⟨vr, rfl, hvr, hs⟩
              unfold readV
              rw [HN.out]
              have HO := Px.hid (HO.out.same hs)
              clear hvr hs c0 c1 c2 c3
              go_wp2
              go_roundw
              case rel => exact ⟨k + 1, by omega, by go_num, rfl, Px.hid ⟨HLL.out, HO.out⟩⟩
              case measure => simp [intOf]; omega
        · have hltz : ¬ (k : Int) < (ss.length : Int) := by omega
          have hke : k = ss.length := by omega
          have hfr := R7.feed_ref (upto ss k) l HM.out
          have HF := Px.hid (show Cf.End (Cf.write (Cf.init l) (upto ss k)) = (R7.list (R7.read (upto ss k) l), (R7.read (upto ss k) l).place, (R7.read (upto ss k) l).err) from hfr.2.1)
          have HK := Px.hid hke
          clear hfr ho c0 c1 c2 c3 hke hk
          go_wp2_with fail
          refine HR.out.2.ends.mono ?_
          rintro e w4 ⟨ve, rfl, hve, hs, hvf⟩
          rw [HF.out] at hve ⊢
          have HO := Px.hid (HR.out.2.same hs)
          have HE := Px.hid hve
          clear hve hs hvf
          obtain ⟨c0, c1, c2, c3⟩ := (HL1.out.same HO.out.sm).cells
          go_wp2_with fail
          refine (lawread_any (upto ss k) l _ HM.out (by have := HR.out.1; omega)).mono ?_
          rintro e w5 ⟨vr, rfl, hvr, hs⟩
          unfold readV
          obtain ⟨nw, hnw⟩ : ∃ nw, nw = (if (R7.read (upto ss k) l).ended then 0 else (R7.read (upto ss k) l).err) := ⟨_, rfl⟩
          rw [← hnw]
          clear hnw
          have HO := Px.hid (HO.out.same hs)
          have HE := Px.hid (And.intro (Owns.same HE.out hs) hvr)
          clear hvr hs c0 c1 c2 c3
          go_wp2_with fail
          refine (same_any _ ve vr _ HE.out.1 HE.out.2).mono ?_
          rintro e w6 ⟨rfl, hs⟩
          have HO := Px.hid (HO.out.same hs)
          clear hs
          go_wp2
          go_ret
          exact ⟨rfl, (HL1.out.1.trans HO.out.sm).below⟩
set_option maxRecDepth 100000 in
set_option maxHeartbeats 4000000 in
theorem law_CborfeedStates {v : Value} (ss : List Bytes) (l : Lim) (w : World) (hv : StrsAt w v ss) (hT : Tabs w) :
    Calls Tryd.prog 4 #[v, limV l] w fun e w' => e = .returned (.bool true) ∧ Below w.heap.size w w' := by
  have HT := Px.hid hT
  have HV := Px.hid hv
  obtain ⟨va, vc, hvs⟩ := hv.slice
  have hlm := hv.len
  unfold maxLen at hlm
  subst hvs
  clear hT hv
  unfold limV
  go_enter Tryd.func4, Tryd.ntmps4
  go_wp2_with fail
  have HL := Px.hid (LimIn.boxed w l)
  refine (wakes_any _ (HT.out.lim HL.out) (HT.out.lim HL.out).two).mono ?_
  rintro e w1 ⟨rfl, hs⟩
  have HL := Px.hid (HL.out.same hs)
  have HL1 := HL
  have HT := Px.hid (HT.out.lim HL.out)
  have HV := Px.hid (HV.out.same HL.out.1)
  clear hs
  obtain ⟨c0, c1, c2, c3⟩ := HL.out.cells
  cases hm : l.may
  · have HM := Px.hid hm
    clear hm
    go_wp2_with fail
    refine (new_no l _ HM.out).mono ?_
    rintro e w2 ⟨rfl, hs⟩
    have HL := Px.hid (HL.out.same hs)
    clear hs c0 c1 c2 c3
    obtain ⟨c0, c1, c2, c3⟩ := HL.out.cells
    go_wp2_with fail
    refine (refMay_any l _).mono ?_
    rintro e w3 ⟨rfl, hs⟩
    have HL := Px.hid (HL.out.same hs)
    clear hs
    rw [HM.out]
    go_wp2
    go_ret
    exact ⟨rfl, HL.out.1.below⟩
  · have HM := Px.hid hm
    clear hm
    go_wp2_with fail
    refine (Own.new (Same.refl w1) HM.out).mono ?_
    rintro e w2 ⟨b, rfl, ho, hs, hb⟩
    have HO := Px.hid ho
    have HL := Px.hid (HL.out.same hs)
    clear ho hs hb c0 c1 c2 c3
    by_cases h100 : 100 < ss.length
    · have hz : (100 : Int) < (ss.length : Int) := by omega
      clear h100
      go_wp2
      go_ret
      exact ⟨rfl, HL.out.1.below⟩
    · have hz : ¬ (100 : Int) < (ss.length : Int) := by omega
      go_wp2
      go_loopw [7, 40] (fun al i wr => ∃ k : Nat, k ≤ ss.length ∧ i = .int .i64 (k : Nat) ∧ al = S (upto ss k) ∧ Hid ((upto ss k).length ≤ 4000 ∧ Own w1 wr b (Cf.write (Cf.init l) (upto ss k)))) (fun _ i _ => ss.length - (intOf i).toNat)
      case atStart => exact ⟨0, Nat.zero_le _, rfl, rfl, Px.hid ⟨by simp [upto], HO.out⟩⟩
      case round =>
        clear HO HL
        obtain ⟨k, hk, rfl, rfl, HR⟩ := hrel
        obtain ⟨hl4, ho⟩ := HR.out
        obtain ⟨c0, c1, c2, c3⟩ := (HL1.out.same ho.sm).cells
        have hsz : (ByteArray.mk (upto ss k).toArray).size = (upto ss k).length := size_S _
        by_cases hlt : k < ss.length
        · have hltz : (k : Int) < (ss.length : Int) := by omega
          obtain ⟨vb, voff, vc2, hve, hvb, hcell⟩ := HV.out.cell k hlt
          simp only [Value.slice.injEq, true_and] at hve
          obtain ⟨rfl, rfl⟩ := hve
          have hcell := (ho.sm.cell (p := ⟨vb, voff + k, none⟩) hvb (fun x => x)).trans hcell
          have HUP := Px.hid (upto_succ ss k hlt)
          have hpl := HV.out.each k hlt
          unfold maxLen at hpl
          obtain ⟨pc, hpc⟩ : ∃ pc, pc = ss[k] := ⟨_, rfl⟩
          rw [← hpc] at hcell HUP hpl
          have hpsz : (ByteArray.mk pc.toArray).size = pc.length := size_S _
          clear hpc ho
          by_cases h2000 : 2000 < (upto ss k).length
          · have z1 : (2000 : Int) < ((upto ss k).length : Int) := by omega
            clear h2000
            go_wp2
            go_ret
            exact ⟨rfl, (HL1.out.1.trans HR.out.2.sm).below⟩
          · have z1 : ¬ (2000 : Int) < ((upto ss k).length : Int) := by omega
            by_cases hp2000 : 2000 < pc.length
            · have z2 : (2000 : Int) < (pc.length : Int) := by omega
              clear h2000 hp2000
              go_wp2
              go_ret
              exact ⟨rfl, (HL1.out.1.trans HR.out.2.sm).below⟩
            · have z2 : ¬ (2000 : Int) < (pc.length : Int) := by omega
              have happ := app_S (upto ss k) pc
              have HLL := Px.hid (show (upto ss k ++ pc).length ≤ 4000 by rw [List.length_append]; omega)
              have HPL := Px.hid (show pc.length ≤ maxLen by unfold maxLen; omega)
              clear h2000 hp2000
              go_wp2_with fail
              refine (HR.out.2.write HT.out.two HT.out pc HPL.out).mono ?_
              rintro e w4 ⟨rfl, ho⟩
              rw [← Cf.write_append, ← HUP.out] at ho ⊢
              have hfr := R7.feed_ref (upto ss (k + 1)) l HM.out
              have hwi := write_within (upto ss (k + 1)) l HM.out
              rw [← HUP.out] at HLL
              have HO := Px.hid ho
              clear c0 c1 c2 c3 hcell happ hpsz hsz
              have HFR := Px.hid (And.intro hfr.2.2.1 (And.intro hfr.2.2.2 hwi))
              clear ho hfr hwi
              go_wp2_with fail
              refine HO.out.ends.mono ?_
              rintro e w5 ⟨ve, rfl, hve, hs, hvf⟩
              have HO := Px.hid (HO.out.same hs)
              clear hve hs hvf
              go_wp2_with fail
              refine HO.out.state.mono ?_
              rintro e w6 ⟨rfl, hs⟩
              have HO := Px.hid (HO.out.same hs)
              clear hs
              rw [HFR.out.1, HFR.out.2.1]
              have hw1 := HFR.out.2.2.1
              have hw2 := HFR.out.2.2.2
              rw [HFR.out.1] at hw1
              rw [HFR.out.2.1] at hw2
              obtain ⟨c0, c1, c2, c3⟩ := (HL1.out.same HO.out.sm).cells
              go_wp2_with fail
              refine (lawread_any (upto ss (k + 1)) l _ HM.out (by have := HLL.out; omega)).mono ?_
              rintro e w7 ⟨vr, rfl, hvr, hs⟩
              unfold readV
              obtain ⟨nw, hnw⟩ : ∃ nw, nw = (if (R7.read (upto ss (k + 1)) l).ended then 0 else (R7.read (upto ss (k + 1)) l).err) := ⟨_, rfl⟩
              rw [← hnw]
              have HO := Px.hid (HO.out.same hs)
              clear hnw hvr hs c0 c1 c2 c3
              obtain ⟨c0, c1, c2, c3⟩ := (HL1.out.same HO.out.sm).cells
              go_wp2
              go_roundw
              case rel => exact ⟨k + 1, by omega, by go_num, rfl, Px.hid ⟨HLL.out, HO.out⟩⟩
              case measure => simp [intOf]; omega
        · have hltz : ¬ (k : Int) < (ss.length : Int) := by omega
          clear ho c0 c1 c2 c3 hk
          go_wp2
          go_ret
          exact ⟨rfl, (HL1.out.1.trans HR.out.2.sm).below⟩
end Go.Proofs.YtclbbfmpkhfigaaDoor
