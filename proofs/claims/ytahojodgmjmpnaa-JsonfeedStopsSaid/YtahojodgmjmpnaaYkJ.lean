/-
  The walk over jsonfeed's structure: blanks; structure, whole.
-/
import Derived.Test.YtahojodgmjmpnaaYjJ
namespace Go.Proofs.Ytahojodgmjmpnaa
open Go.RowKit Go.Px

theorem st_blank (b z : Nat) (hz : z = 32 ∨ z = 9 ∨ z = 10 ∨ z = 13) (f : J6.Feed) (F : Nat → Prop) (w : World) (h : FeedAt w b f F) :
    Calls Try.prog 28 #[.pointer (some ⟨b, 0, none⟩), .int .u8 (z : Nat)] w fun r w' => r = .returned (.tuple #[]) ∧ After w w' b f F := by
  have HFA := Px.hid h
  clear h
  rcases hz with rfl | rfl | rfl | rfl <;>
    (go_enter Try.func28, Try.ntmps28
     go_wp2
     refine bodyPost_ret (results_none rfl _ _ _) rfl ?_
     exact ⟨rfl, After.refl HFA.out⟩)
theorem st_unfold (f : J6.Feed) (c : UInt8) (hb : R6.blank c.toNat = false) : J6.structure_ f c =
    if c == (if J6.object f then 125 else 93) && (f.next == 1 || f.next == 3 || f.next == 5) then J6.over { f with stack := f.stack.tail }
    else if f.next == 0 || f.next == 1 then J6.value f c
    else if (f.next == 2 || f.next == 3) && c == 34 then nameOn f (J6.one f ⟨4, 0, []⟩)
    else if f.next == 4 && c == 58 then { f with next := 0 }
    else if f.next == 5 && c == 44 then { f with next := if J6.object f then 2 else 0 }
    else J6.wrong f (f.n - 1 : Nat) 9 := by
  unfold J6.structure_
  rw [if_neg (by simp [hb])]
  simp only
  generalize J6.one f ⟨4, 0, []⟩ = r
  obtain ⟨r1, r2⟩ := r
  cases r1 <;> rfl
theorem st_no_blank (c : UInt8) (hb : R6.blank c.toNat = false) : c.toNat ≠ 32 ∧ c.toNat ≠ 9 ∧ c.toNat ≠ 10 ∧ c.toNat ≠ 13 := by
  unfold R6.blank at hb
  simpa [and_assoc] using hb
section
variable (b : Nat) (c : UInt8) (f : J6.Feed) (F : Nat → Prop) (w : World) (h : FeedAt w b f F) (hok : J6.OkK 0 f) (hn1 : 1 ≤ f.n) (hnow : f.now = .none) (hb : R6.blank c.toNat = false)
include h hok hn1 hnow hb
-- JOIN (printed by gen_yk.py)
theorem structure_t (ho : J6.object f = true) : Calls Try.prog 28 #[.pointer (some ⟨b, 0, none⟩), .int .u8 c.toNat] w fun r w' => r = .returned (.tuple #[]) ∧ After w w' b (J6.structure_ f c) F := by
  rw [st_unfold f c hb, ho]
  obtain ⟨b1, b2, b3, b4⟩ := st_no_blank c hb
  have ne : ∀ k : UInt8, c ≠ k → c.toNat ≠ k.toNat := fun k hk e => hk (UInt8.toNat_inj.1 e)
  have hnx := hok.nx
  rcases (show f.next = 0 ∨ f.next = 1 ∨ f.next = 2 ∨ f.next = 3 ∨ f.next = 4 ∨ f.next = 5 ∨ f.next = 6 by omega) with hx | hx | hx | hx | hx | hx | hx
  · by_cases hE : c = 125
    · subst hE
      rw [if_neg (by first | (simp [hx]; done) | (rw [hx]; decide))]
      rw [if_pos (by first | (simp [hx]; done) | (rw [hx]; decide))]
      exact st_t0_end b f F w h hok hn1 hnow ho hx
    · rw [if_neg (by simp [hE])]
      rw [if_pos (by first | (simp [hx]; done) | (rw [hx]; decide))]
      exact st_t0_on b c c.toNat rfl b1 b2 b3 b4 (ne 125 hE) f F w h hok hn1 hnow ho hx
  · by_cases hE : c = 125
    · subst hE
      rw [if_pos (by first | (simp [hx]; done) | (rw [hx]; decide))]
      exact st_t1_end b f F w h hok hn1 ho hx
    · rw [if_neg (by simp [hE])]
      rw [if_pos (by first | (simp [hx]; done) | (rw [hx]; decide))]
      exact st_t1_on b c c.toNat rfl b1 b2 b3 b4 (ne 125 hE) f F w h hok hn1 hnow ho hx
  · by_cases hE : c = 125
    · subst hE
      rw [if_neg (by first | (simp [hx]; done) | (rw [hx]; decide))]
      rw [if_neg (by first | (simp [hx]; done) | (rw [hx]; decide))]
      rw [if_neg (by first | (simp [hx]; done) | (rw [hx]; decide))]
      rw [if_neg (by first | (simp [hx]; done) | (rw [hx]; decide))]
      rw [if_neg (by first | (simp [hx]; done) | (rw [hx]; decide))]
      exact st_t2_end b f F w h hok hn1 ho hx
    · by_cases hF : c = 34
      · subst hF
        rw [if_neg (by first | (simp [hx]; done) | (rw [hx]; decide))]
        rw [if_neg (by first | (simp [hx]; done) | (rw [hx]; decide))]
        rw [if_pos (by first | (simp [hx]; done) | (rw [hx]; decide))]
        exact st_t2_name b f F w h hok hn1 hnow ho hx
      · rw [if_neg (by simp [hE])]
        rw [if_neg (by first | (simp [hx]; done) | (rw [hx]; decide))]
        rw [if_neg (by simp [hF])]
        rw [if_neg (by first | (simp [hx]; done) | (rw [hx]; decide))]
        rw [if_neg (by first | (simp [hx]; done) | (rw [hx]; decide))]
        exact st_t2_no b c c.toNat rfl b1 b2 b3 b4 (ne 125 hE) (ne 34 hF) f F w h hok hn1 ho hx
  · by_cases hE : c = 125
    · subst hE
      rw [if_pos (by first | (simp [hx]; done) | (rw [hx]; decide))]
      exact st_t3_end b f F w h hok hn1 ho hx
    · by_cases hF : c = 34
      · subst hF
        rw [if_neg (by first | (simp [hx]; done) | (rw [hx]; decide))]
        rw [if_neg (by first | (simp [hx]; done) | (rw [hx]; decide))]
        rw [if_pos (by first | (simp [hx]; done) | (rw [hx]; decide))]
        exact st_t3_name b f F w h hok hn1 hnow ho hx
      · rw [if_neg (by simp [hE])]
        rw [if_neg (by first | (simp [hx]; done) | (rw [hx]; decide))]
        rw [if_neg (by simp [hF])]
        rw [if_neg (by first | (simp [hx]; done) | (rw [hx]; decide))]
        rw [if_neg (by first | (simp [hx]; done) | (rw [hx]; decide))]
        exact st_t3_no b c c.toNat rfl b1 b2 b3 b4 (ne 125 hE) (ne 34 hF) f F w h hok hn1 ho hx
  · by_cases hE : c = 125
    · subst hE
      rw [if_neg (by first | (simp [hx]; done) | (rw [hx]; decide))]
      rw [if_neg (by first | (simp [hx]; done) | (rw [hx]; decide))]
      rw [if_neg (by first | (simp [hx]; done) | (rw [hx]; decide))]
      rw [if_neg (by first | (simp [hx]; done) | (rw [hx]; decide))]
      rw [if_neg (by first | (simp [hx]; done) | (rw [hx]; decide))]
      exact st_t4_end b f F w h hok hn1 ho hx
    · by_cases hF : c = 58
      · subst hF
        rw [if_neg (by first | (simp [hx]; done) | (rw [hx]; decide))]
        rw [if_neg (by first | (simp [hx]; done) | (rw [hx]; decide))]
        rw [if_neg (by first | (simp [hx]; done) | (rw [hx]; decide))]
        rw [if_pos (by first | (simp [hx]; done) | (rw [hx]; decide))]
        exact st_t4_colon b f F w h hok hn1 ho hx
      · rw [if_neg (by simp [hE])]
        rw [if_neg (by first | (simp [hx]; done) | (rw [hx]; decide))]
        rw [if_neg (by first | (simp [hx]; done) | (rw [hx]; decide))]
        rw [if_neg (by simp [hF])]
        rw [if_neg (by first | (simp [hx]; done) | (rw [hx]; decide))]
        exact st_t4_no b c c.toNat rfl b1 b2 b3 b4 (ne 125 hE) (ne 58 hF) f F w h hok hn1 ho hx
  · by_cases hE : c = 125
    · subst hE
      rw [if_pos (by first | (simp [hx]; done) | (rw [hx]; decide))]
      exact st_t5_end b f F w h hok hn1 ho hx
    · by_cases hF : c = 44
      · subst hF
        rw [if_neg (by first | (simp [hx]; done) | (rw [hx]; decide))]
        rw [if_neg (by first | (simp [hx]; done) | (rw [hx]; decide))]
        rw [if_neg (by first | (simp [hx]; done) | (rw [hx]; decide))]
        rw [if_neg (by first | (simp [hx]; done) | (rw [hx]; decide))]
        rw [if_pos (by first | (simp [hx]; done) | (rw [hx]; decide))]
        exact st_t5_comma b f F w h hok hn1 ho hx
      · rw [if_neg (by simp [hE])]
        rw [if_neg (by first | (simp [hx]; done) | (rw [hx]; decide))]
        rw [if_neg (by first | (simp [hx]; done) | (rw [hx]; decide))]
        rw [if_neg (by first | (simp [hx]; done) | (rw [hx]; decide))]
        rw [if_neg (by simp [hF])]
        exact st_t5_no b c c.toNat rfl b1 b2 b3 b4 (ne 125 hE) (ne 44 hF) f F w h hok hn1 ho hx
  · by_cases hE : c = 125
    · subst hE
      rw [if_neg (by first | (simp [hx]; done) | (rw [hx]; decide))]
      rw [if_neg (by first | (simp [hx]; done) | (rw [hx]; decide))]
      rw [if_neg (by first | (simp [hx]; done) | (rw [hx]; decide))]
      rw [if_neg (by first | (simp [hx]; done) | (rw [hx]; decide))]
      rw [if_neg (by first | (simp [hx]; done) | (rw [hx]; decide))]
      exact st_t6_end b f F w h hok hn1 ho hx
    · rw [if_neg (by simp [hE])]
      rw [if_neg (by first | (simp [hx]; done) | (rw [hx]; decide))]
      rw [if_neg (by first | (simp [hx]; done) | (rw [hx]; decide))]
      rw [if_neg (by first | (simp [hx]; done) | (rw [hx]; decide))]
      rw [if_neg (by first | (simp [hx]; done) | (rw [hx]; decide))]
      exact st_t6_no b c c.toNat rfl b1 b2 b3 b4 (ne 125 hE) f F w h hok hn1 ho hx
theorem structure_f (ho : J6.object f = false) : Calls Try.prog 28 #[.pointer (some ⟨b, 0, none⟩), .int .u8 c.toNat] w fun r w' => r = .returned (.tuple #[]) ∧ After w w' b (J6.structure_ f c) F := by
  rw [st_unfold f c hb, ho]
  obtain ⟨b1, b2, b3, b4⟩ := st_no_blank c hb
  have ne : ∀ k : UInt8, c ≠ k → c.toNat ≠ k.toNat := fun k hk e => hk (UInt8.toNat_inj.1 e)
  have hnx := hok.nx
  rcases (show f.next = 0 ∨ f.next = 1 ∨ f.next = 2 ∨ f.next = 3 ∨ f.next = 4 ∨ f.next = 5 ∨ f.next = 6 by omega) with hx | hx | hx | hx | hx | hx | hx
  · by_cases hE : c = 93
    · subst hE
      rw [if_neg (by first | (simp [hx]; done) | (rw [hx]; decide))]
      rw [if_pos (by first | (simp [hx]; done) | (rw [hx]; decide))]
      exact st_f0_end b f F w h hok hn1 hnow ho hx
    · rw [if_neg (by simp [hE])]
      rw [if_pos (by first | (simp [hx]; done) | (rw [hx]; decide))]
      exact st_f0_on b c c.toNat rfl b1 b2 b3 b4 (ne 93 hE) f F w h hok hn1 hnow ho hx
  · by_cases hE : c = 93
    · subst hE
      rw [if_pos (by first | (simp [hx]; done) | (rw [hx]; decide))]
      exact st_f1_end b f F w h hok hn1 ho hx
    · rw [if_neg (by simp [hE])]
      rw [if_pos (by first | (simp [hx]; done) | (rw [hx]; decide))]
      exact st_f1_on b c c.toNat rfl b1 b2 b3 b4 (ne 93 hE) f F w h hok hn1 hnow ho hx
  · by_cases hE : c = 93
    · subst hE
      rw [if_neg (by first | (simp [hx]; done) | (rw [hx]; decide))]
      rw [if_neg (by first | (simp [hx]; done) | (rw [hx]; decide))]
      rw [if_neg (by first | (simp [hx]; done) | (rw [hx]; decide))]
      rw [if_neg (by first | (simp [hx]; done) | (rw [hx]; decide))]
      rw [if_neg (by first | (simp [hx]; done) | (rw [hx]; decide))]
      exact st_f2_end b f F w h hok hn1 ho hx
    · by_cases hF : c = 34
      · subst hF
        rw [if_neg (by first | (simp [hx]; done) | (rw [hx]; decide))]
        rw [if_neg (by first | (simp [hx]; done) | (rw [hx]; decide))]
        rw [if_pos (by first | (simp [hx]; done) | (rw [hx]; decide))]
        exact st_f2_name b f F w h hok hn1 hnow ho hx
      · rw [if_neg (by simp [hE])]
        rw [if_neg (by first | (simp [hx]; done) | (rw [hx]; decide))]
        rw [if_neg (by simp [hF])]
        rw [if_neg (by first | (simp [hx]; done) | (rw [hx]; decide))]
        rw [if_neg (by first | (simp [hx]; done) | (rw [hx]; decide))]
        exact st_f2_no b c c.toNat rfl b1 b2 b3 b4 (ne 93 hE) (ne 34 hF) f F w h hok hn1 ho hx
  · by_cases hE : c = 93
    · subst hE
      rw [if_pos (by first | (simp [hx]; done) | (rw [hx]; decide))]
      exact st_f3_end b f F w h hok hn1 ho hx
    · by_cases hF : c = 34
      · subst hF
        rw [if_neg (by first | (simp [hx]; done) | (rw [hx]; decide))]
        rw [if_neg (by first | (simp [hx]; done) | (rw [hx]; decide))]
        rw [if_pos (by first | (simp [hx]; done) | (rw [hx]; decide))]
        exact st_f3_name b f F w h hok hn1 hnow ho hx
      · rw [if_neg (by simp [hE])]
        rw [if_neg (by first | (simp [hx]; done) | (rw [hx]; decide))]
        rw [if_neg (by simp [hF])]
        rw [if_neg (by first | (simp [hx]; done) | (rw [hx]; decide))]
        rw [if_neg (by first | (simp [hx]; done) | (rw [hx]; decide))]
        exact st_f3_no b c c.toNat rfl b1 b2 b3 b4 (ne 93 hE) (ne 34 hF) f F w h hok hn1 ho hx
  · by_cases hE : c = 93
    · subst hE
      rw [if_neg (by first | (simp [hx]; done) | (rw [hx]; decide))]
      rw [if_neg (by first | (simp [hx]; done) | (rw [hx]; decide))]
      rw [if_neg (by first | (simp [hx]; done) | (rw [hx]; decide))]
      rw [if_neg (by first | (simp [hx]; done) | (rw [hx]; decide))]
      rw [if_neg (by first | (simp [hx]; done) | (rw [hx]; decide))]
      exact st_f4_end b f F w h hok hn1 ho hx
    · by_cases hF : c = 58
      · subst hF
        rw [if_neg (by first | (simp [hx]; done) | (rw [hx]; decide))]
        rw [if_neg (by first | (simp [hx]; done) | (rw [hx]; decide))]
        rw [if_neg (by first | (simp [hx]; done) | (rw [hx]; decide))]
        rw [if_pos (by first | (simp [hx]; done) | (rw [hx]; decide))]
        exact st_f4_colon b f F w h hok hn1 ho hx
      · rw [if_neg (by simp [hE])]
        rw [if_neg (by first | (simp [hx]; done) | (rw [hx]; decide))]
        rw [if_neg (by first | (simp [hx]; done) | (rw [hx]; decide))]
        rw [if_neg (by simp [hF])]
        rw [if_neg (by first | (simp [hx]; done) | (rw [hx]; decide))]
        exact st_f4_no b c c.toNat rfl b1 b2 b3 b4 (ne 93 hE) (ne 58 hF) f F w h hok hn1 ho hx
  · by_cases hE : c = 93
    · subst hE
      rw [if_pos (by first | (simp [hx]; done) | (rw [hx]; decide))]
      exact st_f5_end b f F w h hok hn1 ho hx
    · by_cases hF : c = 44
      · subst hF
        rw [if_neg (by first | (simp [hx]; done) | (rw [hx]; decide))]
        rw [if_neg (by first | (simp [hx]; done) | (rw [hx]; decide))]
        rw [if_neg (by first | (simp [hx]; done) | (rw [hx]; decide))]
        rw [if_neg (by first | (simp [hx]; done) | (rw [hx]; decide))]
        rw [if_pos (by first | (simp [hx]; done) | (rw [hx]; decide))]
        exact st_f5_comma b f F w h hok hn1 ho hx
      · rw [if_neg (by simp [hE])]
        rw [if_neg (by first | (simp [hx]; done) | (rw [hx]; decide))]
        rw [if_neg (by first | (simp [hx]; done) | (rw [hx]; decide))]
        rw [if_neg (by first | (simp [hx]; done) | (rw [hx]; decide))]
        rw [if_neg (by simp [hF])]
        exact st_f5_no b c c.toNat rfl b1 b2 b3 b4 (ne 93 hE) (ne 44 hF) f F w h hok hn1 ho hx
  · by_cases hE : c = 93
    · subst hE
      rw [if_neg (by first | (simp [hx]; done) | (rw [hx]; decide))]
      rw [if_neg (by first | (simp [hx]; done) | (rw [hx]; decide))]
      rw [if_neg (by first | (simp [hx]; done) | (rw [hx]; decide))]
      rw [if_neg (by first | (simp [hx]; done) | (rw [hx]; decide))]
      rw [if_neg (by first | (simp [hx]; done) | (rw [hx]; decide))]
      exact st_f6_end b f F w h hok hn1 ho hx
    · rw [if_neg (by simp [hE])]
      rw [if_neg (by first | (simp [hx]; done) | (rw [hx]; decide))]
      rw [if_neg (by first | (simp [hx]; done) | (rw [hx]; decide))]
      rw [if_neg (by first | (simp [hx]; done) | (rw [hx]; decide))]
      rw [if_neg (by first | (simp [hx]; done) | (rw [hx]; decide))]
      exact st_f6_no b c c.toNat rfl b1 b2 b3 b4 (ne 93 hE) f F w h hok hn1 ho hx
end
/-- structure, whole. -/
theorem structure_any (b : Nat) (c : UInt8) (f : J6.Feed) (F : Nat → Prop) (w : World) (h : FeedAt w b f F) (hok : J6.OkK 0 f) (hn1 : 1 ≤ f.n) (hnow : f.now = .none) :
    Calls Try.prog 28 #[.pointer (some ⟨b, 0, none⟩), .int .u8 c.toNat] w fun r w' => r = .returned (.tuple #[]) ∧ After w w' b (J6.structure_ f c) F := by
  cases hb : R6.blank c.toNat with
  | true =>
    have e : J6.structure_ f c = f := by unfold J6.structure_; rw [if_pos hb]
    rw [e]
    refine st_blank b c.toNat ?_ f F w h
    unfold R6.blank at hb
    simpa [or_assoc] using hb
  | false =>
    cases ho : J6.object f with
    | true => exact structure_t b c f F w h hok hn1 hnow hb ho
    | false => exact structure_f b c f F w h hok hn1 hnow hb ho
end Go.Proofs.Ytahojodgmjmpnaa
