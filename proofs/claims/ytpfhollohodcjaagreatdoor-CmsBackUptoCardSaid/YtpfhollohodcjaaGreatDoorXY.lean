/-
  Several texts in one: The telling of layer 23 (plain law): what is read is told by the bytes that it was. No program is named here.
-/
import Derived.Test.YtpfhollohodcjaaGreatDoorXX
/-! The telling of layer 23 (plain law): what is read is told by the bytes that it was. No program is named here. -/
namespace Go.Px.Cm
open E5 Co
/-! Greater limits -/
section
variable {α β : Type}
/-- What the one reads the other reads. -/
def Le (p q : P α) : Prop := ∀ c r, p c = .ok r → q c = .ok r
theorem Le.refl (p : P α) : Le p p := fun _ _ h => h
theorem Le.bnd {p q : P α} {f g : α → P β} (h1 : Le p q) (h2 : ∀ a, Le (f a) (g a)) : Le (bnd p f) (bnd q g) := fun c r h => by
  unfold Cm.bnd at h ⊢
  split at h
  · cases h
  · rename_i a c' e
    rw [h1 _ _ e]
    exact h2 _ _ _ h
theorem Le.bar {b : Cu → Bool} {e : Int} {p q : P α} (h : Le p q) : Le (bar b e p) (bar b e q) := fun c r k => by
  unfold Cm.bar at k ⊢
  split at k
  · cases k
  · rename_i hb
    rw [if_neg hb]
    exact h _ _ k
variable (l : List Node)
theorem Le.inn {t : Nat} {p q : P α} (h : Le p q) : Le (inn l t p) (inn l t q) := fun c r k => by
  unfold Cm.inn at k ⊢
  split at k
  · cases k
  · split at k
    · cases k
    · rename_i e
      rw [h _ _ e]
      exact k
theorem le_rounds {a b : Lim} (h : a.r ≤ b.r) : Le (rounds l a) (rounds l b) := (Le.refl _).bnd fun s c r k => by
  split at k
  · cases k
  · rename_i h1
    rw [if_neg h1]
    split at k
    · cases k
    · rename_i h2
      rw [if_neg (by omega)]
      exact k
theorem le_password {a b : Lim} (h : a.r ≤ b.r) : Le (password l a) (password l b) := (Le.refl _).bnd fun _ => (((Le.refl _).bnd fun _ => ((Le.refl _).bnd fun _ => (le_rounds l h).bnd fun _ => Le.refl _).inn l).inn l).bnd fun _ => Le.refl _
theorem le_recip {a b : Lim} (h : a.r ≤ b.r) : Le (recip l a) (recip l b) := fun c r k => by
  unfold recip at k ⊢
  split at k
  · rename_i h1
    rw [if_pos h1]
    exact k
  · rename_i h1
    rw [if_neg h1]
    split at k
    · rename_i h2
      rw [if_pos h2]
      exact (le_password l h).inn l _ _ k
    · split at k <;> cases k
theorem le_recipN {a b : Lim} (h : a.r ≤ b.r) : ∀ m, Le (recipN l a m) (recipN l b m)
  | 0 => Le.refl _
  | m + 1 => (le_recip l h).bnd fun _ => (le_recipN h m).bnd fun _ => Le.refl _
theorem le_recips {a b : Lim} (h : a.r ≤ b.r) : Le (recips l a) (recips l b) := fun c r k => by
  unfold recips at k ⊢
  split at k
  · cases k
  · rename_i h1
    rw [if_neg h1]
    split at k
    · cases k
    · rename_i h2
      rw [if_neg h2]
      exact le_recipN l h _ _ _ k
theorem le_whole {a b : Lim} (h : a.r ≤ b.r) : Le (whole l a) (whole l b) := ((Le.refl _).bnd fun _ => ((((Le.refl _).bnd fun _ => (((le_recips l h).inn l).bnd fun _ => Le.refl _).bar).inn l).inn l)).inn l
end
/-! Telling -/
def retag (t : UInt8) : List Node → List Node
  | [] => []
  | a :: r => ⟨t, a.kids, a.body⟩ :: r
/-- The attributes' elements; none: the text is no such set. -/
def headsOf (h : Bytes) : Option (List (List Node)) :=
  if h = [] then some []
  else if (R5.decode h encLim).2.2 ≠ 0 ∨ ((R5.decode h encLim).1.getD 0 nz).tag ≠ 0x31 then none
  else some [retag 0xa1 (R5.decode h encLim).1]
def mostL : Lim := ⟨32, 4096, 262144, 4096⟩
noncomputable def checked (x : Env) (r : Bytes × Int) : Bytes × Int :=
  if r.2 ≠ 0 then ([], 2)
  else if (read r.1 mostL).2 ≠ 0 ∨ x ≠ (read r.1 mostL).1 then ([], 2)
  else (r.1, 0)
noncomputable def tellP (x : Env) : Bytes × Int := match headsOf x.header with
  | none => ([], 2)
  | some hs => checked x (encOf (wholeT x hs))
theorem read_more {s : Bytes} {lim more : Lim} {x : Env} (h : read s lim = (x, 0)) (hm : more.may = true) (hd : lim.d ≤ more.d) (hi : lim.i ≤ more.i) (hb : lim.b ≤ more.b) (hr : lim.r ≤ more.r) : read s more = (x, 0) := by
  unfold read at h
  by_cases he : (R5.decode s lim).2.2 = 0
  · rw [if_neg (by omega)] at h
    have hd := decode_more he hm hd hi hb
    unfold read
    rw [hd, if_neg (by simp)]
    unfold readL at h ⊢
    split at h
    · rename_i e he
      simp only [Prod.mk.injEq] at h
      exact absurd h.2 (nz_whole _ _ _ _ he)
    · rename_i y c' he
      rw [le_whole _ hr _ _ he]
      exact h
  · rw [if_pos he] at h
    simp only [Prod.mk.injEq] at h
    exact absurd h.2 he
theorem enc_of {x : List Node} {b : Bytes} (h : (encOf x).2 = 0) (hb : (encOf x).1 = b) : Enc x (b, 0) := by
  by_cases hx : ∃ r, Enc x r
  · obtain ⟨r, hr⟩ := hx
    have e := encOf_eq hr
    rw [e] at h hb
    obtain ⟨r1, r2⟩ := r
    simp only at h hb
    subst h
    subst hb
    exact hr
  · unfold encOf at h
    rw [dif_neg hx] at h
    simp at h
/-- Attributes that were read are found. -/
theorem heads_of {h : Bytes} {hs : List (List Node)} (k : Heads h hs) : headsOf h = some hs := by
  rcases k with ⟨rfl, rfl⟩ | ⟨us, _, rfl, ha⟩
  · rfl
  · unfold attrT at ha
    split at ha
    · cases ha
    · rename_i h1
      split at ha
      · cases ha
      · simp only [Except.ok.injEq] at ha
        have he := enc_of (by omega) ha
        have hd := he.back rfl encLim encLim_may rfl rfl rfl
        have hn : h ≠ [] := by
          intro e
          rw [e] at hd
          have : (R5.decode [] encLim).2.2 ≠ 0 := by decide
          rw [hd] at this
          exact this rfl
        unfold headsOf
        rw [if_neg hn, hd, if_neg (by rintro (e | e); exact e rfl; exact e rfl)]
        rfl
theorem may_lim {s : Bytes} {lim : Lim} (h : (R5.decode s lim).2.2 = 0) : lim.may = true := by
  by_cases hm : lim.may = true
  · exact hm
  · rw [Bool.not_eq_true] at hm
    rw [decode_no hm] at h
    simp at h
/-- What is read is told by the bytes that it was. -/
theorem one_way {s : Bytes} {lim : Lim} {x : Env} (h : read s lim = (x, 0)) : tellP x = (s, 0) ∧ EnvOk 4096 x ∧ ∃ hs, Heads x.header hs ∧ Enc (wholeT x hs) (s, 0) := by
  have h0 := h
  unfold read at h
  by_cases he : (R5.decode s lim).2.2 = 0
  · rw [if_neg (by omega)] at h
    have hm := may_lim he
    have hmay := may_of hm
    obtain ⟨_, _, h1, _⟩ := decode_sound he
    have hE := enc_of_decode he
    generalize (R5.decode s lim).1 = l at h h1 hE
    obtain ⟨hx, hs, k1, k2⟩ := read_tree h1 (by omega) hmay.2.2.2.2.2.2.2 h
    have hx2 : EnvOk 4096 x := ⟨⟨hx.to.1, hx.to.2.1, fun r hr => by
      cases hx.to.2.2 r hr with
      | wrap nm k i hi h1 h2 => exact .wrap nm k i hi h1 h2
      | pass salt k iv n i j hi hj h1 h2 h3 hn => exact .pass salt k iv n i j hi hj h1 h2 h3 ⟨hn.1, by omega⟩⟩, hx.cont, hx.rest⟩
    rw [k2] at hE
    refine ⟨?_, hx2, hs, k1, hE⟩
    unfold tellP
    rw [heads_of k1]
    dsimp only
    rw [encOf_eq hE]
    unfold checked
    have hmo := read_more h0 (more := mostL) (by decide) hmay.2.1 hmay.2.2.2.1 hmay.2.2.2.2.2.1 hmay.2.2.2.2.2.2.2
    dsimp only
    rw [hmo, if_neg (by simp), if_neg (by simp)]
  · rw [if_pos he] at h
    simp only [Prod.mk.injEq] at h
    exact absurd h.2 he
/-- What is told is read. -/
theorem back {x : Env} : ((tellP x).2 = 0 ∧ read (tellP x).1 mostL = (x, 0)) ∨ tellP x = ([], 2) := by
  unfold tellP
  split
  · exact .inr rfl
  · unfold checked
    split
    · exact .inr rfl
    · split
      · exact .inr rfl
      · rename_i h
        refine .inl ⟨rfl, ?_⟩
        refine Prod.ext ?_ ?_
        · exact (Decidable.not_not.1 fun e => h (.inr e)).symm
        · exact Decidable.not_not.1 fun e => h (.inl e)
end Go.Px.Cm
