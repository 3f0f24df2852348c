/-
  The statement ScriptMany, walked.
-/
import Derived.Test.YtebpacdbcoacgaaGreatDoorScR
namespace Go.Proofs.YtebpacdbcoacgaaGreatDoor
open Go.RowKit Go.Px
theorem appS27 (a b : List UInt8) : (ByteArray.mk a.toArray) ++ (ByteArray.mk b.toArray) = ByteArray.mk (a ++ b).toArray := by
  apply ByteArray.ext
  simp [ByteArray.data_append]
theorem run_many (l : List UInt8) (hnl : (10 : UInt8) ∉ l) (hl : l.length ≤ 100) (k : Nat) (hk0 : 505 ≤ k) (hk1 : k ≤ 519) (mx : Int) (w : World) (hm : MaxW w mx) :
    Calls Tryz.prog 6 #[.string ⟨(Sc.rows l k).toArray⟩] w fun e w' => e = .returned (.tuple #[.string ⟨#[]⟩, .int .i64 (if 512 < k then 10 else 0)]) ∧ Same w w' := by
  have hlen : (Sc.rows l k).length = k * (l.length + 2) := Sc.rows_len l k
  have hle : k * (l.length + 2) ≤ 519 * 102 := Nat.mul_le_mul hk1 (by omega)
  have hsz : (ByteArray.mk (Sc.rows l k).toArray).size ≤ 52938 := by
    show (Sc.rows l k).toArray.size ≤ 52938
    simp only [List.size_toArray]
    omega
  have HK := Sc.rows_splitB l hnl k
  have e1 : ((k : Int) + 1).toNat = k + 1 := by omega
  refine run_lines _ l k hk0 hk1 mx w hm (by omega) (fun W hW => ?_)
  rw [e1]
  exact split_at ⟨(Sc.rows l k).toArray⟩ ⟨#[10]⟩ (k + 1) (linesOf l k) (by decide) (by rw [HK.1]) (by rw [HK.1]; exact HK.2) (by omega) mx W hW
set_option maxRecDepth 100000 in
set_option maxHeartbeats 4000000 in
theorem law_ScriptMany (l : List UInt8) (n : Int) (mx : Int) (w : World) (hn : IntKind.u16.min ≤ n ∧ n ≤ IntKind.u16.max) (hm : MaxW w mx) : Calls Tryz.prog 3 #[S l, .int .u16 n] w fun e w' => e = .returned (.bool true) ∧ Below w.heap.size w w' := by
  have hn0 : 0 ≤ n := hn.1
  have hn1 : n ≤ 65535 := hn.2
  have HW := Px.hid (wakes27 mx w hm)
  have HM := Px.hid hm
  clear hm hn
  go_enter Tryz.func3, Tryz.ntmps3
  go_wp2_with fail
  refine HW.out.mono ?_
  rintro e w1 ⟨rfl, hs1⟩
  have HS1 := Px.hid hs1
  have HM1 := Px.hid (HM.out.fr hs1 (fun x => x))
  clear hs1 HW HM
  go_wp2_with fail
  · go_ret
    exact ⟨rfl, HS1.out.below⟩
  go_loopw [17] (fun i wr => ∃ j : Nat, j ≤ l.length ∧ i = .int .i64 (j : Nat) ∧ Hid (wr = w1 ∧ (10 : UInt8) ∉ l.take j)) (fun i _ => l.length - (intOf i).toNat)
  case atStart => exact ⟨0, Nat.zero_le _, rfl, Px.hid ⟨rfl, by simp⟩⟩
  case round =>
    obtain ⟨j, hj, rfl, HR⟩ := hrel
    obtain ⟨rfl, hno⟩ := HR.out
    by_cases hlt : j < l.length
    · go_wp2_with fail
      · go_ret
        exact ⟨rfl, HS1.out.below⟩
      · rename_i hc
        refine ⟨⟨j + 1, by omega, by simp, Px.hid ⟨trivial, ?_⟩⟩, by first | omega | (simp only [intOf]; omega) | go_num⟩
        have hne : ¬ (10 : UInt8) = l[j] := fun e => by
          have e2 : (ByteArray.mk l.toArray)[j]'(by show j < l.toArray.size; simpa using hlt) = l[j] := by show l.toArray[j]'(by simpa using hlt) = l[j]; simp
          rw [e2, ← e] at hc
          exact absurd hc (by decide)
        rw [List.take_succ_eq_append_getElem hlt, List.mem_append, List.mem_singleton, not_or]
        exact ⟨hno, hne⟩
    · have hnl : (10 : UInt8) ∉ l := by rw [List.take_of_length_le (by omega)] at hno; exact hno
      clear hno HR hj
      go_wp2_with fail
      obtain ⟨k, hk⟩ : ∃ k : Nat, 505 + n % 15 = (k : Int) := ⟨(505 + n % 15).toNat, by omega⟩
      have hk0 : 505 ≤ k := by omega
      have hk1 : k ≤ 519 := by omega
      have hl1 : l.length ≤ 100 := by omega
      rw [hk]
      clear hlt
      go_loopw [6, 30] (fun t i wr' => ∃ j : Nat, j ≤ k ∧ t = S (Sc.rows l j) ∧ i = .int .i64 (j : Nat) ∧ Hid (wr' = wr)) (fun _ i _ => k - (intOf i).toNat)
      case atStart => exact ⟨0, Nat.zero_le _, rfl, rfl, Px.hid rfl⟩
      case round =>
        obtain ⟨i, hi, rfl, rfl, HQ⟩ := hrel
        have hq := HQ.out
        subst hq
        by_cases hlt : i < k
        · have hlen : (Sc.rows l i).length = i * (l.length + 2) := Sc.rows_len l i
          have hle : i * (l.length + 2) ≤ 519 * 102 := Nat.mul_le_mul (by omega) (by omega)
          have hle2 : (Sc.rows l i).length ≤ 52938 := by omega
          clear hlen hle
          go_wp2_with fail
          refine ⟨⟨i + 1, by omega, ?_, by simp, Px.hid trivial⟩, by first | omega | (simp only [intOf]; omega) | go_num⟩
          show Value.string (ByteArray.mk (Sc.rows l i).toArray ++ (ByteArray.mk [35].toArray ++ ByteArray.mk l.toArray ++ ByteArray.mk [10].toArray)) = Value.string (ByteArray.mk (Sc.rows l i ++ Sc.row l).toArray)
          rw [appS27, appS27, appS27]
          rfl
        · have hik : i = k := by omega
          subst hik
          go_wp2_with fail
          refine (run_many l hnl hl1 i hk0 hk1 mx _ HM1.out).mono ?_
          rintro e w5 ⟨rfl, hs5⟩
          have HS5 := Px.hid (HS1.out.trans hs5)
          clear hs5
          by_cases hgt : 512 < i
          · rw [if_pos hgt]
            go_wp2
            go_ret
            refine ⟨?_, HS5.out.below⟩
            have hz : (512 : Int) < (i : Int) := by omega
            have hz2 : ¬ (i : Int) ≤ 512 := by omega
            show Ending.returned (Value.bool (!decide ((i : Int) ≤ 512))) = _
            rw [decide_eq_false hz2]
            rfl
          · rw [if_neg hgt]
            go_wp2
            go_ret
            refine ⟨?_, HS5.out.below⟩
            have hz : ¬ (512 : Int) < (i : Int) := by omega
            show Ending.returned (Value.bool (!decide ((512 : Int) < (i : Int)))) = _
            rw [decide_eq_false hz]
            rfl
end Go.Proofs.YtebpacdbcoacgaaGreatDoor
