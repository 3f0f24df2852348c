/-
  The walk over der's length.
-/
import Derived.Test.YtceffhkgnifmeaaDoorDwV
import Derived.Laws.BitsAllLaws
namespace Go.Proofs.YtceffhkgnifmeaaDoor
open Go.RowKit Go.Px

/-- Only this block changes. -/
def It (b : Nat) (k : Nat) : Prop := k = b
theorem It.set {b i : Nat} {w : World} (v : Value) : Fr (It b) w (w.setCell ⟨b, i, none⟩ v) := (Fr.refl (It b) w).setCell (p := ⟨b, i, none⟩) (.inl rfl) v
theorem It.dfoot {b : Nat} {w w' : World} {vs vo : Value} (hf : Fr (It b) w w') : Fr (dfoot b vs vo) w w' := hf.mono fun _ e => .inl e
theorem or_byte_i (n c : Nat) (hc : c < 256) (hn : n ≤ 16777215) : bits .or .i64 ((n : Int) * 256) (c : Int) = ((256 * n + c : Nat) : Int) := by
  have h1 : n * 256 < 18446744073709551616 := Nat.lt_of_le_of_lt (show n * 256 ≤ 4294967040 by omega) (by decide)
  have h2 : c < 18446744073709551616 := Nat.lt_of_lt_of_le hc (by decide)
  have h3 : ((256 * n + c : Nat) : Int) ≤ 4294967295 := by omega
  have h4 : 0 ≤ ((256 * n + c : Nat) : Int) := by omega
  have e : ((n : Int) * 256) = ((n * 256 : Nat) : Int) := by omega
  have hx := Nat.shiftLeft_add_eq_or_of_lt (show c < 2 ^ 8 by simpa using hc) n
  rw [Nat.shiftLeft_eq, show n * 2 ^ 8 = n * 256 from rfl] at hx
  rw [e]
  show IntKind.i64.wrap ((BitVec.ofInt 64 ((n * 256 : Nat) : Int) ||| BitVec.ofInt 64 (c : Int)).toNat : Int) = _
  rw [BitVec.toNat_or, ofInt_u64 _ h1, ofInt_u64 c h2, ← hx, Nat.mul_comm n 256]
  clear hx
  exact IntWalk.i64_in _ ⟨by omega, by omega⟩
theorem want_place {s : Bytes} {lim : Lim} {p c : Nat} (h : D5.want s lim p = .ok c) : p < s.length ∧ (p : Int) < lim.b ∧ c < 256 ∧ c = (s.getD p 0).toNat := by
  unfold D5.want at h
  by_cases h1 : (p : Int) < s.length ∧ (p : Int) < lim.b
  · rw [if_pos h1] at h
    simp only [Except.ok.injEq] at h
    exact ⟨by omega, h1.2, by rw [← h]; exact UInt8.toNat_lt _, h.symm⟩
  · rw [if_neg h1] at h
    split at h <;> cases h
def LenPost (w : World) (b : Nat) (s : Bytes) (lim : Lim) (x : D5.Dx) (vs vo : Value) (res : Except D5.Flt (Nat × Nat)) (r : Ending) (w' : World) : Prop :=
  match res with
  | .error e => r = panics e ∧ Fr (It b) w w'
  | .ok v => r = .returned (.int .i64 (v.1 : Nat)) ∧ DrRep w' b s lim { x with at_ := v.2 } vs vo ∧ Fr (It b) w w'

/-- How a length ends behind its digits. -/
def lenFin (p m : Nat) (r : Except D5.Flt Nat) : Except D5.Flt (Nat × Nat) :=
  match r with
  | .error e => .error e
  | .ok n => if n < 128 then .error ((p + m : Nat), 9) else .ok (n, p + 1 + m)
theorem lenFin_few {p m n : Nat} (h : n < 128) : lenFin p m (.ok n) = .error ((p + m : Nat), 9) := if_pos h
theorem lenFin_ok {p m n : Nat} (h : ¬ n < 128) : lenFin p m (.ok n) = .ok (n, p + 1 + m) := if_neg h

set_option maxRecDepth 100000 in
set_option maxHeartbeats 2000000 in
theorem length_any (b : Nat) (s : Bytes) (lim : Lim) (x : D5.Dx) (vs vo : Value) (w : World) (h : DrRep w b s lim x vs vo) (hx : x.at_ ≤ 1000000) :
    Calls Tryd.prog 53 #[.pointer (some ⟨b, 0, none⟩)] w fun r w' => LenPost w b s lim x vs vo (D5.length s lim x.at_) r w' := by
  obtain ⟨_, _, _, _, c5, _, _⟩ := h.cells
  unfold D5.length
  cases hw : D5.want s lim x.at_ with
  | error e =>
    have HW := Px.hid (dwant_no b x.at_ s lim x vs vo w h e hw)
    clear hw h
    go_enter Tryd.func53, Tryd.ntmps53
    go_wp2_with fail
    refine HW.out.mono ?_
    rintro r w1 ⟨rfl, hs⟩
    have HS := Px.hid hs
    clear hs
    unfold panics
    go_wp2
    exact ⟨rfl, rfl, HS.out.fr _⟩
  | ok c =>
    have hcb := (want_place hw).2.2.1
    have HW := Px.hid (And.intro (dwant_yes b x.at_ s lim x vs vo w h c hw) h)
    clear hw h
    simp only
    by_cases h1 : c < 128
    · rw [if_pos h1]
      have h1z : (c : Int) < 128 := by omega
      clear h1
      go_enter Tryd.func53, Tryd.ntmps53
      go_wp2_with fail
      refine HW.out.1.mono ?_
      rintro r w1 ⟨rfl, hs⟩
      have HR := Px.hid (And.intro (HW.out.2.same hs) (hs.fr (It b)))
      clear hs c5
      have c5 := HR.out.1.cells.2.2.2.2.1
      have f5 := HR.out.1.free 5
      go_wp2
      go_ret
      exact ⟨rfl, HR.out.1.move (x.at_ + 1), HR.out.2.setCell (p := ⟨b, 5, none⟩) (.inl rfl) _⟩
    · rw [if_neg h1]
      have h1z : ¬ (c : Int) < 128 := by omega
      by_cases h2 : c = 128 ∨ 132 < c
      · rw [if_pos h2]
        have h2z : ((c : Int) == 128) = true ∨ (((c : Int) == 128) = false ∧ (132 : Int) < c) := by
          by_cases e : c = 128
          · exact .inl (by rw [e]; rfl)
          · exact .inr ⟨by simp; omega, by omega⟩
        clear h1 h2
        rcases h2z with h2z | ⟨h2z, h3z⟩
        all_goals
          go_enter Tryd.func53, Tryd.ntmps53
          go_wp2_with fail
          refine HW.out.1.mono ?_
          rintro r w1 ⟨rfl, hs⟩
          have HR := Px.hid (And.intro (HW.out.2.same hs) (hs.fr (It b)))
          clear hs c5
          have c5 := HR.out.1.cells.2.2.2.2.1
          have f5 := HR.out.1.free 5
          go_wp2
          exact ⟨rfl, rfl, HR.out.2.setCell (p := ⟨b, 5, none⟩) (.inl rfl) _⟩
      · rw [if_neg h2]
        obtain ⟨m, hm⟩ : ∃ m, m = c % 128 := ⟨_, rfl⟩
        rw [← hm]
        change Calls _ _ _ _ fun r w' => LenPost w b s lim x vs vo (lenFin x.at_ m (D5.lenN s lim m (x.at_ + 1) true 0)) r w'
        have hm1 : 1 ≤ m := by omega
        have hm4 : m ≤ 4 := by omega
        have hcm : (c : Int) - 128 = (m : Int) := by omega
        have h2z : ((c : Int) == 128) = false := by simp; omega
        have h3z : ¬ (132 : Int) < c := by omega
        have HC := Px.hid hcm
        clear h1 h2 hm hcm
        go_enter Tryd.func53, Tryd.ntmps53
        go_wp2_with fail
        refine HW.out.1.mono ?_
        rintro r w1 ⟨rfl, hs⟩
        have HR := Px.hid (And.intro (HW.out.2.same hs) (hs.fr (It b)))
        clear hs c5
        have c5 := HR.out.1.cells.2.2.2.2.1
        have f5 := HR.out.1.free 5
        go_wp2
        have HM := Px.hid (And.intro (HR.out.1.move (x.at_ + 1)) (HR.out.2.setCell (p := ⟨b, 5, none⟩) (.inl rfl) (.int .i64 ((x.at_ + 1 : Nat) : Int))))
        clear c5 f5
        go_loopw [4, 39] (fun nn i wr => ∃ j n : Nat, j ≤ m ∧ i = .int .i64 (j : Nat) ∧ nn = .int .i64 (n : Nat) ∧ Hid (n < 256 ^ j ∧ DrRep wr b s lim { x with at_ := x.at_ + 1 + j } vs vo ∧ Fr (It b) w wr ∧ D5.lenN s lim m (x.at_ + 1) true 0 = D5.lenN s lim (m - j) (x.at_ + 1 + j) (j == 0) n)) (fun _ i _ => m - (intOf i).toNat)
        case atStart => exact ⟨0, 0, Nat.zero_le _, rfl, rfl, Px.hid ⟨by simp, HM.out.1, HM.out.2, rfl⟩⟩
        case round =>
          clear HM HR
          obtain ⟨j, n, hj, rfl, rfl, HR⟩ := hrel
          obtain ⟨hn, hrep, hfr, harg⟩ := HR.out
          by_cases hlt : j < m
          · have hltz : (j : Int) < (c : Int) - 128 := by have := HC.out; omega
            have hn3 : n ≤ 16777215 := by
              have h1 : 256 ^ j ≤ 256 ^ 3 := Nat.pow_le_pow_right (by omega) (by omega)
              have h2 : (256 : Nat) ^ 3 = 16777216 := rfl
              omega
            have c5 := hrep.cells.2.2.2.2.1
            have hpj : ((x.at_ + 1 + j : Nat) : Int) = (x.at_ : Int) + 1 + j := by omega
            simp only at c5
            rw [hpj] at c5
            have hs1 : D5.lenN s lim (m - j) (x.at_ + 1 + j) (j == 0) n = match D5.want s lim (x.at_ + 1 + j) with | .error e => .error e | .ok c => if (j == 0) && c == 0 then .error ((x.at_ + 1 + j : Nat), 9) else D5.lenN s lim (m - (j + 1)) (x.at_ + 1 + j + 1) false (256 * n + c) := by
              rw [show m - j = (m - (j + 1)) + 1 by omega]
              rfl
            cases hw : D5.want s lim (x.at_ + 1 + j) with
            | error e =>
              rw [hw] at hs1
              have HE := Px.hid (harg.trans hs1)
              have hc := dwant_no b (x.at_ + 1 + j) s lim _ vs vo wr hrep e hw
              rw [hpj] at hc
              have HCC := Px.hid hc
              clear hc hw hs1 harg hrep hn hn3 hpj hfr
              go_wp2_with fail
              refine HCC.out.mono ?_
              rintro r w2 ⟨rfl, hs2⟩
              have HS := Px.hid (Fr.trans HR.out.2.2.1 (hs2.fr (It b)) (fun _ _ e => e))
              clear hs2
              unfold panics
              go_wp2
              rw [HE.out]
              exact ⟨rfl, rfl, HS.out⟩
            | ok c2 =>
              rw [hw] at hs1
              simp only at hs1
              have hcb2 := (want_place hw).2.2.1
              have hc := dwant_yes b (x.at_ + 1 + j) s lim _ vs vo wr hrep c2 hw
              rw [hpj] at hc
              have HCC := Px.hid (And.intro hc hrep)
              clear hc hrep
              have hor := or_byte_i n c2 hcb2 hn3
              have hwn : IntKind.i64.wrap ((n : Int) * 256) = (n : Int) * 256 := IntWalk.i64_in _ ⟨by omega, by omega⟩
              have hpow : 256 * n + c2 < 256 ^ (j + 1) := by rw [Nat.pow_succ]; omega
              have hq : (((j : Int) == 0) = true ∧ ((c2 : Int) == 0) = true ∧ ((j == 0) && c2 == 0) = true) ∨ (((((j : Int) == 0) = true ∧ ((c2 : Int) == 0) = false) ∨ ((j : Int) == 0) = false) ∧ ¬ ((j == 0) && c2 == 0) = true) := by
                by_cases e1 : j = 0
                · by_cases e2 : c2 = 0
                  · exact .inl ⟨by simp; omega, by simp; omega, by simp [e1, e2]⟩
                  · exact .inr ⟨.inl ⟨by simp; omega, by simp; omega⟩, by simp [e2]⟩
                · exact .inr ⟨.inr (by simp; omega), by simp [e1]⟩
              rcases hq with ⟨q1, q2, q3⟩ | ⟨q1, q3⟩
              · rw [if_pos q3] at hs1
                have HE := Px.hid (harg.trans hs1)
                clear hw hs1 harg hn hn3 hpj hfr q3 hpow hor hwn
                go_wp2_with fail
                refine HCC.out.1.mono ?_
                rintro r w2 ⟨rfl, hs2⟩
                have HS := Px.hid (And.intro (HCC.out.2.same hs2) (Fr.trans HR.out.2.2.1 (hs2.fr (It b)) (fun _ _ e => e)))
                clear hs2 c5
                have c5 := HS.out.1.cells.2.2.2.2.1
                go_wp2
                rw [HE.out]
                exact ⟨rfl, rfl, HS.out.2⟩
              · rw [if_neg q3] at hs1
                have HE := Px.hid (And.intro (harg.trans hs1) hpow)
                clear hw hs1 harg hn hn3 hpj hfr q3 hpow
                rcases q1 with ⟨q1, q2⟩ | q1
                all_goals
                  go_wp2_with fail
                  refine HCC.out.1.mono ?_
                  rintro r w2 ⟨rfl, hs2⟩
                  have HS := Px.hid (And.intro (HCC.out.2.same hs2) (Fr.trans HR.out.2.2.1 (hs2.fr (It b)) (fun _ _ e => e)))
                  clear hs2 c5
                  have c5 := HS.out.1.cells.2.2.2.2.1
                  have f5 := HS.out.1.free 5
                  have HMV := Px.hid (HS.out.1.move (x.at_ + 1 + (j + 1)))
                  go_wp2
                  go_roundw
                  case rel => exact ⟨j + 1, 256 * n + c2, by omega, by go_num, by go_num, Px.hid ⟨HE.out.2, HMV.out, HS.out.2.setCell (p := ⟨b, 5, none⟩) (.inl rfl) _, HE.out.1⟩⟩
                  case measure => simp [intOf]; omega
          · have hltz : ¬ (j : Int) < (c : Int) - 128 := by have := HC.out; omega
            have hje : j = m := by omega
            subst hje
            have hok : D5.lenN s lim j (x.at_ + 1) true 0 = .ok n := by rw [harg, Nat.sub_self]; rfl
            have HK := Px.hid (And.intro hrep hfr)
            clear harg hn hlt hj hfr
            by_cases hl : n < 128
            · have HE := Px.hid (And.intro hok hl)
              have z1 : (n : Int) < 128 := by omega
              have c5 := HK.out.1.cells.2.2.2.2.1
              clear hl hok hrep
              go_wp2
              rw [HE.out.1, lenFin_few HE.out.2]
              exact ⟨rfl, by unfold panics fltV; rw [show ((x.at_ + j : Nat) : Int) = (x.at_ : Int) + 1 + j - 1 by omega], HK.out.2⟩
            · have HE := Px.hid (And.intro hok hl)
              have z1 : ¬ (n : Int) < 128 := by omega
              clear hl hok hrep
              go_wp2
              go_ret
              rw [HE.out.1, lenFin_ok HE.out.2]
              exact ⟨rfl, HK.out.1, HK.out.2⟩
end Go.Proofs.YtceffhkgnifmeaaDoor
