/-
  The walks over the reference's all and length (layer 15).
-/
import Derived.Test.YtceffhkgnifmeaaDoorRbV
namespace Go.Proofs.YtceffhkgnifmeaaDoor
open Go.RowKit Go.Px

theorem rwant_true {s : Bytes} {lim : Lim} {x y : R5.St} {p : Nat} (h : R5.want s lim x p = (true, y)) : p < s.length ∧ (p : Int) < lim.b := by
  unfold R5.want at h
  by_cases h1 : p < s.length ∧ (p : Int) < lim.b
  · exact h1
  · rw [if_neg h1] at h
    split at h <;> simp at h
theorem all_any (b T q n : Nat) (s : Bytes) (lim : Lim) (x : R5.St) (vn : Value) (tl : List Value) (w : World) (h : Rd w b T s lim x vn tl) (hs : s.length ≤ maxLen) (hb : 1 ≤ lim.b) (hb2 : lim.b ≤ 262144) (hq : q ≤ 1000000) (hn : n < 4294967296) :
    Calls Tryd.prog 55 #[.pointer (some ⟨b, 0, none⟩), .int .i64 (q : Nat), .int .i64 (n : Nat)] w fun r w' => r = .returned (.bool (if n = 0 then (true, x) else R5.want s lim x (q + n - 1)).1) ∧ Rd w' b T s lim (if n = 0 then (true, x) else R5.want s lim x (q + n - 1)).2 vn tl ∧ Fr (It b) w w' := by
  by_cases h0 : n = 0
  · rw [if_pos h0]
    have H := Px.hid h
    have n0 : ((n : Int) == 0) = true := beq_iff_eq.2 (by omega)
    clear h h0
    go_enter Tryd.func55, Tryd.ntmps55
    go_wp2
    go_ret
    exact ⟨rfl, H.out, Fr.refl _ _⟩
  · rw [if_neg h0]
    have hw := want_any b T (q + n - 1) s lim x vn tl w h hs hb hb2 (by unfold maxLen; omega)
    rw [show ((q + n - 1 : Nat) : Int) = (q : Int) + n - 1 by omega] at hw
    have HW := Px.hid hw
    have n0 : ((n : Int) == 0) = false := beq_eq_false_iff_ne.2 (by omega)
    clear h h0 hw
    go_enter Tryd.func55, Tryd.ntmps55
    go_wp2_with fail
    refine HW.out.mono ?_
    rintro r w1 ⟨rfl, hr, hf⟩
    have HR := Px.hid (And.intro hr hf)
    clear hr hf
    go_wp2
    go_ret
    exact ⟨rfl, HR.out.1, HR.out.2⟩
def lenV : Option (Nat × Nat) → Value
  | none => .tuple #[.int .i64 0, .int .i64 0, .bool false]
  | some v => .tuple #[.int .i64 (v.1 : Nat), .int .i64 (v.2 : Nat), .bool true]
/-- How a length ends behind its digits. -/
def rlenFin (p m : Nat) (r : Option Nat × R5.St) : Option (Nat × Nat) × R5.St :=
  match r with
  | (none, z) => (none, z)
  | (some n, z) => if n < 128 then (none, R5.fault z (p + m : Nat) 9) else (some (n, p + 1 + m), z)
theorem rlenFin_few {p m n : Nat} {z : R5.St} (h : n < 128) : rlenFin p m (some n, z) = (none, R5.fault z (p + m : Nat) 9) := if_pos h
theorem rlenFin_ok {p m n : Nat} {z : R5.St} (h : ¬ n < 128) : rlenFin p m (some n, z) = (some (n, p + 1 + m), z) := if_neg h
def RLen (w : World) (b T : Nat) (s : Bytes) (lim : Lim) (vn : Value) (tl : List Value) (res : Option (Nat × Nat) × R5.St) (r : Ending) (w' : World) : Prop :=
  r = .returned (lenV res.1) ∧ Rd w' b T s lim res.2 vn tl ∧ Fr (It b) w w'
theorem rlen_step (s : Bytes) (lim : Lim) (m i n p : Nat) (y : R5.St) (hi : i ≤ m) : R5.lenN s lim (m + 1 - i) y (p + i) (i == 1) n = match R5.want s lim y (p + i) with
    | (false, z) => (none, z)
    | (true, z) => if (i == 1) && (s.getD (p + i) 0).toNat == 0 then (none, R5.fault z (p + i : Nat) 9) else R5.lenN s lim (m + 1 - (i + 1)) z (p + (i + 1)) false (256 * n + (s.getD (p + i) 0).toNat) := by
  rw [show m + 1 - i = (m + 1 - (i + 1)) + 1 by omega]
  rfl
set_option maxRecDepth 100000 in
set_option maxHeartbeats 4000000 in
theorem rlength_any (b T p : Nat) (s : Bytes) (lim : Lim) (x : R5.St) (vn : Value) (tl : List Value) (w : World) (h : Rd w b T s lim x vn tl) (hs : s.length ≤ 140737488355327) (hb1 : 1 ≤ lim.b) (hb2 : lim.b ≤ 262144) (hp : p ≤ 1000000) :
    Calls Tryd.prog 54 #[.pointer (some ⟨b, 0, none⟩), .int .i64 (p : Nat)] w fun r w' => RLen w b T s lim vn tl (R5.length s lim x p) r w' := by
  have hsm : s.length ≤ maxLen := by unfold maxLen; omega
  have hw := want_any b T p s lim x vn tl w h hsm hb1 hb2 (by unfold maxLen; omega)
  have hsz : (ByteArray.mk s.toArray).size = s.length := size_S s
  unfold R5.length
  cases hv : R5.want s lim x p with
  | mk bv y =>
    rw [hv] at hw
    have HW := Px.hid hw
    cases bv with
    | false =>
      clear hv hw h
      simp only
      go_enter Tryd.func54, Tryd.ntmps54
      go_wp2_with fail
      refine HW.out.mono ?_
      rintro r w1 ⟨rfl, hr, hf⟩
      have HR := Px.hid (And.intro hr hf)
      clear hr hf
      go_wp2
      go_ret3
      exact ⟨rfl, HR.out.1, HR.out.2⟩
    | true =>
      obtain ⟨hpl, hpb⟩ := rwant_true hv
      have ip := idx_S s p hpl
      obtain ⟨c, hc⟩ : ∃ c, c = (s.getD p 0).toNat := ⟨_, rfl⟩
      have hcb : c < 256 := by rw [hc]; exact UInt8.toNat_lt _
      rw [← hc] at ip
      simp only
      rw [← hc]
      clear hv hw h hc
      by_cases h1 : c < 128
      · rw [if_pos h1]
        have h1z : (c : Int) < 128 := by omega
        clear h1
        go_enter Tryd.func54, Tryd.ntmps54
        go_wp2_with fail
        refine HW.out.mono ?_
        rintro r w1 ⟨rfl, hr, hf⟩
        have HR := Px.hid (And.intro hr hf)
        have c0 := hr.cells.1
        clear hr hf
        go_wp2
        go_ret3
        exact ⟨rfl, HR.out.1, HR.out.2⟩
      · rw [if_neg h1]
        have h1z : ¬ (c : Int) < 128 := by omega
        by_cases h2 : c = 128 ∨ 132 < c
        · rw [if_pos h2]
          have h2z : ((c : Int) == 128) = true ∨ (((c : Int) == 128) = false ∧ (132 : Int) < c) := by
            by_cases e : c = 128
            · exact .inl (by rw [e]; rfl)
            · exact .inr ⟨by simp; omega, by omega⟩
          clear h1 h2
          rcases h2z with h2z | ⟨h2z, h3z⟩
          all_goals
            go_enter Tryd.func54, Tryd.ntmps54
            go_wp2_with fail
            refine HW.out.mono ?_
            rintro r w1 ⟨rfl, hr, hf⟩
            have HR := Px.hid (And.intro hr hf)
            have c0 := hr.cells.1
            clear hr hf
            go_wp2_with fail
            refine (rfault_any b T p 9 s lim _ vn tl _ HR.out.1).mono ?_
            rintro r w2 ⟨rfl, hr, hf⟩
            have HR2 := Px.hid (And.intro hr (Fr.trans HR.out.2 hf (fun _ _ e => e)))
            clear hr hf
            go_wp2
            go_ret3
            exact ⟨rfl, HR2.out.1, HR2.out.2⟩
        · rw [if_neg h2]
          obtain ⟨m, hm⟩ : ∃ m, m = c % 128 := ⟨_, rfl⟩
          rw [← hm]
          change Calls _ _ _ _ fun r w' => RLen w b T s lim vn tl (rlenFin p m (R5.lenN s lim m y (p + 1) true 0)) r w'
          have hm1 : 1 ≤ m := by omega
          have hm4 : m ≤ 4 := by omega
          have HC := Px.hid (show (c : Int) - 128 = (m : Int) by omega)
          have h2z : ((c : Int) == 128) = false := by simp; omega
          have h3z : ¬ (132 : Int) < c := by omega
          clear h1 h2 hm
          go_enter Tryd.func54, Tryd.ntmps54
          go_wp2_with fail
          refine HW.out.mono ?_
          rintro r w1 ⟨rfl, hr, hf⟩
          have HR := Px.hid (And.intro hr hf)
          have c0 := hr.cells.1
          clear hr hf
          go_wp2
          clear c0
          go_loopw [8, 9] (fun nn ii wr => ∃ (i n : Nat) (z : R5.St), 1 ≤ i ∧ i ≤ m + 1 ∧ ii = .int .i64 (i : Nat) ∧ nn = .int .i64 (n : Nat) ∧ Hid (n < 256 ^ (i - 1) ∧ Rd wr b T s lim z vn tl ∧ Fr (It b) w wr ∧ R5.lenN s lim m y (p + 1) true 0 = R5.lenN s lim (m + 1 - i) z (p + i) (i == 1) n)) (fun _ ii _ => m + 1 - (intOf ii).toNat)
          case atStart => exact ⟨1, 0, y, Nat.le_refl _, by omega, rfl, rfl, Px.hid ⟨by simp, HR.out.1, HR.out.2, rfl⟩⟩
          case round =>
            clear HR
            obtain ⟨i, n, z, hi1, him, rfl, rfl, HR⟩ := hrel
            obtain ⟨hn, hrd, hfr, hln⟩ := HR.out
            by_cases hlt : i ≤ m
            · have hltz : (i : Int) ≤ (c : Int) - 128 := by have := HC.out; omega
              have hn3 : n ≤ 16777215 := by
                have h1 : 256 ^ (i - 1) ≤ 256 ^ 3 := Nat.pow_le_pow_right (by omega) (by omega)
                have h2 : (256 : Nat) ^ 3 = 16777216 := rfl
                omega
              have hst := rlen_step s lim m i n p z hlt
              have hw := want_any b T (p + i) s lim z vn tl wr hrd hsm hb1 hb2 (by unfold maxLen; omega)
              have hpi : ((p + i : Nat) : Int) = (p : Int) + i := by omega
              rw [hpi] at hw
              cases hv : R5.want s lim z (p + i) with
              | mk bv z2 =>
                rw [hv] at hst hw
                have HW2 := Px.hid hw
                cases bv with
                | false =>
                  have HE := Px.hid (hln.trans hst)
                  clear hst hln hw hv hpi hn hrd hfr
                  go_wp2_with fail
                  refine HW2.out.mono ?_
                  rintro r w2 ⟨rfl, hr, hf⟩
                  have HR2 := Px.hid (And.intro hr (Fr.trans HR.out.2.2.1 hf (fun _ _ e => e)))
                  clear hr hf
                  go_wp2
                  go_ret3
                  rw [HE.out]
                  exact ⟨rfl, HR2.out.1, HR2.out.2⟩
                | true =>
                  obtain ⟨hpl2, _⟩ := rwant_true hv
                  have ip2 := idx_S s (p + i) hpl2
                  obtain ⟨c2, hc2⟩ : ∃ c2, c2 = (s.getD (p + i) 0).toNat := ⟨_, rfl⟩
                  have hcb2 : c2 < 256 := by rw [hc2]; exact UInt8.toNat_lt _
                  rw [← hc2, hpi] at ip2
                  simp only at hst
                  rw [← hc2] at hst
                  have hpow : 256 * n + c2 < 256 ^ (i + 1 - 1) := by
                    rw [show i + 1 - 1 = (i - 1) + 1 by omega, Nat.pow_succ]; omega
                  have hwn : IntKind.i64.wrap (256 * (n : Int)) = 256 * (n : Int) := IntWalk.i64_in _ ⟨by omega, by omega⟩
                  have hq : (((i : Int) == 1) = true ∧ ((c2 : Int) == 0) = true ∧ ((i == 1) && c2 == 0) = true) ∨ (((((i : Int) == 1) = true ∧ ((c2 : Int) == 0) = false) ∨ ((i : Int) == 1) = false) ∧ ¬ ((i == 1) && c2 == 0) = true) := by
                    by_cases e1 : i = 1
                    · by_cases e2 : c2 = 0
                      · exact .inl ⟨by simp; omega, by simp; omega, by simp [e1, e2]⟩
                      · exact .inr ⟨.inl ⟨by simp; omega, by simp; omega⟩, by simp [e2]⟩
                    · exact .inr ⟨.inr (by simp; omega), by simp [e1]⟩
                  rcases hq with ⟨q1, q2, q3⟩ | ⟨q1, q3⟩
                  · rw [if_pos q3] at hst
                    have HE := Px.hid (hln.trans hst)
                    have HPI := Px.hid hpi
                    clear hst hln hw hv hpi hn hrd hfr q3 hc2 hpow hwn
                    go_wp2_with fail
                    refine HW2.out.mono ?_
                    rintro r w2 ⟨rfl, hr, hf⟩
                    have HR2 := Px.hid (And.intro hr (Fr.trans HR.out.2.2.1 hf (fun _ _ e => e)))
                    have c0 := hr.cells.1
                    clear hr hf
                    go_wp2_with fail
                    refine (rfault_any b T _ 9 s lim _ vn tl _ HR2.out.1).mono ?_
                    rintro r w3 ⟨rfl, hr, hf⟩
                    rw [← HPI.out] at hr
                    have HR3 := Px.hid (And.intro hr (Fr.trans HR2.out.2 hf (fun _ _ e => e)))
                    clear hr hf
                    go_wp2
                    go_ret3
                    rw [HE.out]
                    exact ⟨rfl, HR3.out.1, HR3.out.2⟩
                  · rw [if_neg q3] at hst
                    have HE := Px.hid (And.intro (hln.trans hst) hpow)
                    clear hst hln hw hv hpi hn hrd hfr q3 hc2 hpow
                    rcases q1 with ⟨q1, q2⟩ | q1
                    all_goals
                      go_wp2_with fail
                      refine HW2.out.mono ?_
                      rintro r w2 ⟨rfl, hr, hf⟩
                      have HR2 := Px.hid (And.intro hr (Fr.trans HR.out.2.2.1 hf (fun _ _ e => e)))
                      have c0 := hr.cells.1
                      clear hr hf
                      go_wp2
                      go_roundw
                      case rel => exact ⟨i + 1, 256 * n + c2, z2, by omega, by omega, by go_num, by go_num, Px.hid ⟨HE.out.2, HR2.out.1, HR2.out.2, by rw [HE.out.1, show (i + 1 == 1) = false from beq_eq_false_iff_ne.2 (by omega)]⟩⟩
                      case measure => simp [intOf]; omega
            · have hltz : ¬ (i : Int) ≤ (c : Int) - 128 := by have := HC.out; omega
              have hie : i = m + 1 := by omega
              have hok : R5.lenN s lim m y (p + 1) true 0 = (some n, z) := by rw [hln, hie, Nat.sub_self]; rfl
              have hcz : (c : Int) = (m : Int) + 128 := by have := HC.out; omega
              have HK := Px.hid (And.intro hrd (And.intro hfr (And.intro hok hcz)))
              have hn4 : n ≤ 4294967295 := by
                have h1 : 256 ^ (i - 1) ≤ 256 ^ 4 := Nat.pow_le_pow_right (by omega) (by omega)
                have h2 : (256 : Nat) ^ 4 = 4294967296 := rfl
                omega
              clear hln hok hn hlt hie hfr hrd hcz
              by_cases hl : n < 128
              · have HE := Px.hid hl
                have z1 : (n : Int) < 128 := by omega
                clear hl
                go_wp2_with fail
                refine (rfault_any b T _ 9 s lim _ vn tl _ HK.out.1).mono ?_
                rintro r w3 ⟨rfl, hr, hf⟩
                have HR3 := Px.hid (And.intro hr (Fr.trans HK.out.2.1 hf (fun _ _ e => e)))
                clear hr hf
                go_wp2
                go_ret3
                rw [HK.out.2.2.1, rlenFin_few HE.out]
                refine ⟨rfl, ?_, HR3.out.2⟩
                have := HR3.out.1
                rw [show (p : Int) + c - 128 = ((p + m : Nat) : Int) by have := HK.out.2.2.2; omega] at this
                exact this
              · have HE := Px.hid hl
                have z1 : ¬ (n : Int) < 128 := by omega
                clear hl
                go_wp2
                go_ret3
                rw [HK.out.2.2.1, rlenFin_ok HE.out]
                refine ⟨?_, HK.out.1, HK.out.2.1⟩
                unfold lenV
                simp only
                rw [show ((p + 1 + m : Nat) : Int) = (p : Int) + c - 127 by have := HK.out.2.2.2; omega]
                rfl
end Go.Proofs.YtceffhkgnifmeaaDoor
