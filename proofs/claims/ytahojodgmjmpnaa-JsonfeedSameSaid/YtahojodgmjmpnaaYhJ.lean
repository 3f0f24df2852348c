/-
  The walk over jsonfeed's value where nothing begins; value, whole.
-/
import Derived.Test.YtahojodgmjmpnaaYgJ
namespace Go.Proofs.Ytahojodgmjmpnaa
open Go.RowKit Go.Px

/-- 'wrong' at the last byte. -/
theorem wrong_here (b : Nat) (e : Int) (f : J6.Feed) (F : Nat → Prop) (hn1 : 1 ≤ f.n) : ∀ w : World, FeedAt w b f F →
    Calls Try.prog 19 #[.pointer (some ⟨b, 0, none⟩), .int .i64 ((f.n : Int) - 1), .int .i64 e] w fun r w' => r = .returned (.tuple #[]) ∧ After w w' b (J6.wrong f (f.n - 1 : Nat) e) F := fun w h => by
  refine (wrong_any b ((f.n : Int) - 1) e f F w h).mono ?_
  rintro r w' ⟨rfl, h1, h2⟩
  refine ⟨rfl, F, ?_, h2, Fresh.refl _ _⟩
  have : ((f.n - 1 : Nat) : Int) = (f.n : Int) - 1 := by omega
  rw [this]
  exact h1
theorem wrap_n {f : J6.Feed} {k : Nat} (hok : J6.OkK k f) (hn1 : 1 ≤ f.n) : IntKind.i64.wrap ((f.n : Int) - 1) = (f.n : Int) - 1 := by
  have hm := J6.may_parts6 hok.may
  have := hok.nb
  exact IntWalk.i64_in _ ⟨by omega, by omega⟩
set_option maxRecDepth 100000 in
set_option maxHeartbeats 4000000 in
theorem value_bad (b : Nat) (z : Nat) (f : J6.Feed) (F : Nat → Prop) (w : World) (h : FeedAt w b f F) (hok : J6.OkK 0 f) (hn1 : 1 ≤ f.n) (n1 : z ≠ 123) (n2 : z ≠ 91) (n3 : z ≠ 34) (n4 : z ≠ 116) (n5 : z ≠ 102) (n6 : z ≠ 110) (n7 : z ≠ 45) (n8 : z < 48 ∨ 57 < z) :
    Calls Try.prog 41 #[.pointer (some ⟨b, 0, none⟩), .int .u8 (z : Nat)] w fun r w' => r = .returned (.tuple #[]) ∧ After w w' b (J6.wrong f (f.n - 1 : Nat) 9) F := by
  have e1 : ((z : Int) == 123) = false := by simp; omega
  have e2 : ((z : Int) == 91) = false := by simp; omega
  have e3 : ((z : Int) == 34) = false := by simp; omega
  have e4 : ((z : Int) == 116) = false := by simp; omega
  have e5 : ((z : Int) == 102) = false := by simp; omega
  have e6 : ((z : Int) == 110) = false := by simp; omega
  have e7 : ((z : Int) == 45) = false := by simp; omega
  have hw1 := wrap_n hok hn1
  have HW := Px.hid (wrong_here b 9 f F hn1)
  have HFA := Px.hid h
  have c4 : w.cell? ⟨b, 4, none⟩ = some (.int .i64 (f.n : Nat)) := by obtain ⟨vo, vs, tv, tb, ps, h, hF⟩ := h; exact cellOf h.blk 4 rfl
  have hb : b < w.heap.size := h.lt b h.own
  have hg : (decide ((48 : Int) ≤ (z : Int)) = false) ∨ ((48 : Int) ≤ (z : Int) ∧ decide ((z : Int) ≤ 57) = false) := by
    rcases n8 with x | x
    · exact .inl (by simp; omega)
    · exact .inr ⟨by omega, by simp; omega⟩
  clear h hok hn1 n1 n2 n3 n4 n5 n6 n7 n8
  rcases hg with e8 | ⟨e8, e9⟩
  · go_enter Try.func41, Try.ntmps41
    go_wp2_with fail
    refine (HW.out _ (HFA.out.same ((Fr.refl _ w).alloc _))).mono ?_
    rintro e w' ⟨rfl, hA⟩
    have HA := Px.hid (After.ofFr ((Fr.refl F w).alloc _) hA)
    clear hA
    go_wp2
    refine bodyPost_ret (results_none rfl _ _ _) rfl ?_
    exact ⟨rfl, HA.out⟩
  · go_enter Try.func41, Try.ntmps41
    go_wp2_with fail
    refine (HW.out _ (HFA.out.same ((Fr.refl _ w).alloc _))).mono ?_
    rintro e w' ⟨rfl, hA⟩
    have HA := Px.hid (After.ofFr ((Fr.refl F w).alloc _) hA)
    clear hA
    go_wp2
    refine bodyPost_ret (results_none rfl _ _ _) rfl ?_
    exact ⟨rfl, HA.out⟩
theorem deep_or (f : J6.Feed) : (f.stack.length : Int) = f.lim.d ∨ ¬ (f.stack.length : Int) = f.lim.d := Classical.em _
theorem value_any (b : Nat) (c : UInt8) (f : J6.Feed) (F : Nat → Prop) (w : World) (h : FeedAt w b f F) (hok : J6.OkK 0 f) (hn1 : 1 ≤ f.n) (hnow : f.now = .none) :
    Calls Try.prog 41 #[.pointer (some ⟨b, 0, none⟩), .int .u8 c.toNat] w fun r w' => r = .returned (.tuple #[]) ∧ After w w' b (J6.value f c) F := by
  unfold J6.value
  by_cases h1 : c = 123
  · subst h1
    rcases deep_or f with hd | hd
    · exact value_obj_deep b f F w h hok hn1 hd
    · exact value_obj b f F w h hok hn1 hnow hd
  rw [if_neg (by simpa using h1)]
  by_cases h2 : c = 91
  · subst h2
    rcases deep_or f with hd | hd
    · exact value_arr_deep b f F w h hok hn1 hd
    · exact value_arr b f F w h hok hn1 hnow hd
  rw [if_neg (by simpa using h2)]
  by_cases h3 : c = 34
  · subst h3
    exact value_str b f F w h hok hn1 hnow
  rw [if_neg (by simpa using h3)]
  by_cases h4 : c = 116
  · subst h4
    exact value_t b f F w h hok hn1 hnow
  rw [if_neg (by simpa using h4)]
  by_cases h5 : c = 102
  · subst h5
    exact value_f b f F w h hok hn1 hnow
  rw [if_neg (by simpa using h5)]
  by_cases h6 : c = 110
  · subst h6
    exact value_n b f F w h hok hn1 hnow
  rw [if_neg (by simpa using h6)]
  have ne : ∀ k : UInt8, c ≠ k → c.toNat ≠ k.toNat := fun k hk e => hk (UInt8.toNat_inj.1 e)
  by_cases h7 : c = 45
  · subst h7
    exact value_minus b 45 45 rfl f F w h hok hn1 hnow rfl
  by_cases h8 : R6.digit c.toNat = true
  · rw [if_pos (by rw [h8]; simp)]
    have h8' : 48 ≤ c.toNat ∧ c.toNat ≤ 57 := by unfold R6.digit at h8; simpa using h8
    exact value_digit b c c.toNat rfl f F w h hok hn1 hnow h8'.1 h8'.2
  · rw [if_neg (by simp only [Bool.not_eq_true] at h8; rw [h8]; simpa using h7)]
    have h8' : c.toNat < 48 ∨ 57 < c.toNat := by
      unfold R6.digit at h8
      simp only [Bool.and_eq_true, decide_eq_true_eq] at h8
      omega
    exact value_bad b c.toNat f F w h hok hn1 (ne 123 h1) (ne 91 h2) (ne 34 h3) (ne 116 h4) (ne 102 h5) (ne 110 h6) (ne 45 h7) h8'
end Go.Proofs.Ytahojodgmjmpnaa
