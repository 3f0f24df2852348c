/-
  Several texts in one: What the readings of layer 23 take: the trees of what they hand back (plain law). No program is named here.
-/
import Derived.Test.YtpfhollohodcjaaGreatDoorXV
/-! What the readings of layer 23 take: the trees of what they hand back (plain law). No program is named here. -/
namespace Go.Px.Cm
open E5 Co
/-! The trees that are told -/
def sizedT (size : Int) (tbl : List UInt8) : List Node := lf 6 (cipherT ++ [if size = 16 then tbl.getD 0 0 else if size = 24 then tbl.getD 1 0 else if size = 32 then tbl.getD 2 0 else 0])
def strip : Bytes → Bytes
  | [] => []
  | [a] => [a]
  | a :: b :: r => if a = 0 ∧ b.toNat < 128 then strip (b :: r) else a :: b :: r
/-- A number, as an element 02 has it. -/
def numB (n : Int) : Bytes := strip (beD 8 (n % 18446744073709551616).toNat)
def hashB (k : Int) : UInt8 := UInt8.ofNat ((7 + k.tdiv 128) % 256).toNat
def wrapUs (r : Rec) : List (List Node) := [lf 2 [4], ofT 0x30 [lf 4 r.name], ofT 0x30 [sizedT r.size [5, 25, 45]], lf 4 r.key]
def howT (r : Rec) : List Node := ofT 0xa0 [lf 6 derivT, ofT 0x30 [lf 4 r.salt, lf 2 (numB r.rounds), ofT 0x30 [lf 6 (digestT ++ [hashB r.kind]), lf 5 []]]]
def lockL (r : Rec) : List Node := ofT 0x30 [lf 6 lockT, ofT 0x30 [sizedT r.size [2, 22, 42], lf 4 r.iv]]
def passUs (r : Rec) : List (List Node) := [lf 2 [0], howT r, lockL r, lf 4 r.key]
def recT (r : Rec) : List Node := if r.way = 2 then ofT 0xa2 (wrapUs r) else ofT 0xa3 (passUs r)
/-- Recipients that are read. -/
inductive RecOk (most : Int) : Rec → Prop
  | wrap (nm k : Bytes) (i : Nat) (hi : i < 3) (h1 : 1 ≤ nm.length ∧ nm.length ≤ 128) (h2 : 24 ≤ k.length ∧ k.length ≤ 1032 ∧ k.length % 8 = 0) : RecOk most ⟨2, 16 + 8 * i, 0, nm, k, [], 0, [], []⟩
  | pass (salt k iv : Bytes) (n i j : Nat) (hi : i < 3) (hj : j < 3) (h1 : 8 ≤ salt.length ∧ salt.length ≤ 1000) (h2 : 32 ≤ k.length ∧ k.length ≤ 272 ∧ k.length % 16 = 0) (h3 : iv.length = 16) (hn : 1 ≤ n ∧ (n : Int) ≤ most) : RecOk most ⟨3, 16 + 8 * j, 256 + 128 * i, [], k, salt, n, iv, []⟩
/-! Numbers -/
theorem num_one (a : UInt8) : num [a] = a.toNat := by simp [num]
theorem num_two (a b : UInt8) : num [a, b] = a.toNat * 256 + b.toNat := by simp [num]
theorem num_from : ∀ (s : Bytes) (m : Nat), m ≤ s.foldl (fun a c => a * 256 + c.toNat) m
  | [], m => Nat.le_refl m
  | c :: r, m => by
    exact Nat.le_trans (by omega) (num_from r (m * 256 + c.toNat))
theorem strip_zero {b : UInt8} {r : Bytes} (h : b.toNat < 128) : strip (0 :: b :: r) = strip (b :: r) := by rw [strip, if_pos ⟨rfl, h⟩]
theorem strip_stop {a b : UInt8} {r : Bytes} (h : ¬ (a = 0 ∧ b.toNat < 128)) : strip (a :: b :: r) = a :: b :: r := by rw [strip, if_neg h]
theorem strip_small (n : Nat) (h : n < 32768) : numB (n : Int) = if n < 128 then [UInt8.ofNat n] else [UInt8.ofNat (n / 256), UInt8.ofNat (n % 256)] := by
  have e : ((n : Int) % 18446744073709551616).toNat = n := by omega
  unfold numB
  rw [e]
  have h8 : beD 8 n = [0, 0, 0, 0, 0, 0, UInt8.ofNat (n / 256), UInt8.ofNat (n % 256)] := by
    rw [beD_last, beD_last, beD_last, beD_last, beD_last, beD_last, beD_last, beD_last]
    have d1 : n / 256 / 256 = 0 := by omega
    simp only [d1, Nat.zero_div, Nat.zero_mod]
    rw [show n / 256 % 256 = n / 256 by omega]
    rfl
  rw [h8]
  have h7 : (UInt8.ofNat (n / 256)).toNat = n / 256 := by simp; omega
  have h6 : (UInt8.ofNat (n % 256)).toNat = n % 256 := by simp
  rw [strip_zero (by decide), strip_zero (by decide), strip_zero (by decide), strip_zero (by decide), strip_zero (by decide), strip_zero (by rw [h7]; omega)]
  by_cases c : n < 128
  · rw [if_pos c]
    have z : UInt8.ofNat (n / 256) = 0 := by rw [show n / 256 = 0 by omega]; rfl
    rw [z, strip_zero (by rw [h6]; omega), Nat.mod_eq_of_lt (by omega)]
    rfl
  · rw [if_neg c, strip_stop]
    rintro ⟨h0, h1⟩
    rw [h6] at h1
    have h2 := congrArg UInt8.toNat h0
    rw [h7] at h2
    have h3 : n / 256 = 0 := h2
    omega
/-- A number that is read is told so. -/
theorem num_back {s : Bytes} (hr : right ⟨2, -1, s⟩ = true) (h1 : ¬ (128 ≤ (s.getD 0 0).toNat ∨ s = [0])) (h2 : num s ≤ 4096) : s = numB (num s : Nat) ∧ 1 ≤ num s := by
  have hb : R5.body 2 s = true := by
    unfold right at hr
    simp only [Bool.and_eq_true] at hr
    exact hr.2
  match s, hb, h1, h2 with
  | [], hb, _, _ => simp [R5.body] at hb
  | [a], hb, h1, h2 =>
    rw [num_one] at h2 ⊢
    have ha : a.toNat < 128 := by
      simp at h1
      have := h1.1
      omega
    have h0 : a ≠ 0 := by
      intro e
      exact h1 (.inr (by rw [e]))
    rw [strip_small _ (by omega), if_pos ha]
    refine ⟨by simp, ?_⟩
    rcases Nat.eq_zero_or_pos a.toNat with e | e
    · exact absurd (UInt8.toNat_inj.1 (by rw [e]; rfl)) h0
    · exact e
  | [a, b], hb, h1, h2 =>
    rw [num_two] at h2 ⊢
    have ha : a.toNat < 128 := by
      simp at h1
      omega
    have hm : a.toNat * 2 + b.toNat / 128 ≠ 0 := by
      simp [R5.body] at hb
      omega
    have hb2 := b.toNat_lt
    rw [strip_small _ (by omega), if_neg (by omega)]
    refine ⟨?_, by omega⟩
    rw [show (a.toNat * 256 + b.toNat) / 256 = a.toNat by omega, show (a.toNat * 256 + b.toNat) % 256 = b.toNat by omega]
    simp
  | a :: b :: c :: r, hb, h1, h2 =>
    exfalso
    have hm : a.toNat * 2 + b.toNat / 128 ≠ 0 := by
      simp [R5.body] at hb
      omega
    have h3 := num_from r (((0 * 256 + a.toNat) * 256 + b.toNat) * 256 + c.toNat)
    rw [num, List.foldl_cons, List.foldl_cons, List.foldl_cons] at h2
    omega
theorem sized_of {tbl : List Bytes} {ks : List UInt8} (ht : tbl = ks.map fun k => cipherT ++ [k]) (hk : ks.length = 3) {i : Nat} {t : Bytes} (h : tbl[i]? = some t) : i < 3 ∧ lf 6 t = sizedT (16 + 8 * (i : Int)) ks := by
  match ks, hk with
  | [a, b, c], _ =>
    subst ht
    match i, h with
    | 0, h => simp at h; subst h; exact ⟨by decide, rfl⟩
    | 1, h => simp at h; subst h; exact ⟨by decide, rfl⟩
    | 2, h => simp at h; subst h; exact ⟨by decide, rfl⟩
    | n + 3, h => simp at h
section
variable {α β : Type} {l : List Node}
theorem eats_ite {c : Prop} [Decidable c] {p q : P α} {R : α → List (List Node) → Prop} (h1 : c → Eats l p R) (h2 : ¬ c → Eats l q R) : Eats l (if c then p else q) R := by
  split
  · exact h1 ‹_›
  · exact h2 ‹_›
/-- A test on what was read. -/
theorem eats_if {c : Prop} [Decidable c] (a : α) (e : Int) : Eats l (if c then ret a else fail e) (fun v ts => c ∧ v = a ∧ ts = []) := eats_ite (fun h => (eats_ret a).mono fun _ _ k => ⟨h, k⟩) (fun _ => eats_fail e)
variable (hr : ∀ a ∈ l, right a = true)
include hr
theorem eats_version (v : Bytes) : Eats l (version l v) (fun _ ts => ts = [lf 2 v]) :=
  ((eats_take hr (t := 2) (by decide) (by decide)).bnd fun s => eats_if (c := s = v) () 11).mono (by
    rintro _ ts ⟨s, t1, t2, ⟨rfl, _⟩, ⟨rfl, _, rfl⟩, rfl⟩
    rfl)
theorem eats_octs (a b m : Nat) : Eats l (octs l a b m) (fun s ts => ts = [lf 4 s] ∧ a ≤ s.length ∧ s.length ≤ b ∧ s.length % m = 0) :=
  ((eats_take hr (t := 4) (by decide) (by decide)).bnd fun s => eats_if (c := a ≤ s.length ∧ s.length ≤ b ∧ s.length % m = 0) s 9).mono (by
    rintro _ ts ⟨s, t1, t2, ⟨rfl, _⟩, ⟨h, rfl, rfl⟩, rfl⟩
    exact ⟨rfl, h⟩)
theorem eats_kind (tbl : List Bytes) : Eats l (kind l tbl) (fun i ts => ∃ t, tbl[i]? = some t ∧ ts = [lf 6 t]) :=
  ((eats_take hr (t := 6) (by decide) (by decide)).bnd (S := fun s i ts => tbl[i]? = some s ∧ ts = []) fun s => (by
    cases hf : tbl.findIdx? (fun t => t == s) with
    | none => exact eats_fail 11
    | some i =>
      refine (eats_ret i).mono ?_
      rintro _ _ ⟨rfl, rfl⟩
      obtain ⟨h1, h2, _⟩ := List.findIdx?_eq_some_iff_getElem.1 hf
      refine ⟨?_, rfl⟩
      rw [List.getElem?_eq_getElem h1]
      congr 1
      simpa using h2)).mono (by
    rintro i ts ⟨s, t1, t2, ⟨rfl, _⟩, ⟨h, rfl⟩, rfl⟩
    exact ⟨s, h, rfl⟩)
theorem eats_name : Eats l (nameP l) (fun s ts => ts = [lf 4 s] ∧ 1 ≤ s.length ∧ s.length ≤ 128) :=
  ((eats_octs hr 1 128 1).bnd fun s => (eats_ret s).bar).mono (by
    rintro _ ts ⟨s, t1, t2, ⟨rfl, h⟩, ⟨rfl, rfl⟩, rfl⟩
    exact ⟨rfl, h.1, h.2.1⟩)
theorem eats_wrapped (most : Int) : Eats l (wrapped l) (fun r ts => RecOk most r ∧ r.way = 2 ∧ ts = wrapUs r) :=
  ((eats_version hr [4]).bnd fun _ => ((eats_name hr).inn hr (t := 0x30) (by decide) (by decide)).bnd fun nm => ((eats_kind hr wrapT).inn hr (t := 0x30) (by decide) (by decide)).bnd fun i => (eats_octs hr 24 1032 8).bnd fun k => eats_ret _).mono (by
    rintro r ts ⟨_, _, _, rfl, ⟨nm, _, _, ⟨_, ⟨rfl, h1, h2⟩, rfl⟩, ⟨i, _, _, ⟨_, ⟨t, ht, rfl⟩, rfl⟩, ⟨k, _, _, ⟨rfl, h3, h4, h5⟩, ⟨rfl, rfl⟩, rfl⟩, rfl⟩, rfl⟩, rfl⟩
    obtain ⟨hi, hs⟩ := sized_of (ks := [5, 25, 45]) rfl rfl ht
    refine ⟨.wrap nm k i hi ⟨h1, h2⟩ ⟨h3, h4, h5⟩, rfl, ?_⟩
    rw [hs]
    rfl)
theorem eats_rounds {lim : Lim} (hl : lim.r ≤ 4096) : Eats l (rounds l lim) (fun n ts => ts = [lf 2 (numB n)] ∧ 1 ≤ n ∧ (n : Int) ≤ lim.r) :=
  ((eats_take hr (t := 2) (by decide) (by decide)).bnd (S := fun s n ts => ¬ (128 ≤ (s.getD 0 0).toNat ∨ s = [0]) ∧ n = num s ∧ (num s : Int) ≤ lim.r ∧ ts = []) fun s => eats_ite (fun _ => eats_fail 9) (fun h1 => eats_ite (fun _ => eats_fail 10) (fun h2 => (eats_ret _).mono (by
    rintro _ _ ⟨rfl, rfl⟩
    exact ⟨h1, rfl, by omega, rfl⟩)))).mono (by
    rintro n ts ⟨s, t1, t2, ⟨rfl, hb⟩, ⟨h1, rfl, h2, rfl⟩, rfl⟩
    obtain ⟨e, h3⟩ := num_back hb h1 (by omega)
    refine ⟨?_, h3, h2⟩
    rw [← e]
    rfl)
theorem eats_hash : Eats l (hashP l) (fun i ts => i < 3 ∧ ts = [lf 6 (digestT ++ [hashB (256 + 128 * (i : Int))]), lf 5 []]) :=
  ((eats_kind hr hashT).bnd fun i => (eats_take hr (t := 5) (by decide) (by decide)).bnd fun _ => eats_ret i).mono (by
    rintro i ts ⟨_, _, _, ⟨t, ht, rfl⟩, ⟨s, _, _, ⟨rfl, hb⟩, ⟨rfl, rfl⟩, rfl⟩, rfl⟩
    have hs : s = [] := by
      unfold right at hb
      simp only [Bool.and_eq_true] at hb
      have h5 : R5.body 5 s = true := hb.2
      simpa [R5.body] using h5
    subst hs
    match i, ht with
    | 0, ht => simp [hashT] at ht; subst ht; exact ⟨by decide, rfl⟩
    | 1, ht => simp [hashT] at ht; subst ht; exact ⟨by decide, rfl⟩
    | 2, ht => simp [hashT] at ht; subst ht; exact ⟨by decide, rfl⟩
    | n + 3, ht => simp [hashT] at ht)
theorem eats_derived {lim : Lim} (hl : lim.r ≤ 4096) : Eats l (derived l lim) (fun d ts => ts = [lf 6 derivT, ofT 0x30 [lf 4 d.1, lf 2 (numB d.2.1), ofT 0x30 [lf 6 (digestT ++ [hashB (256 + 128 * (d.2.2 : Int))]), lf 5 []]]] ∧ 8 ≤ d.1.length ∧ d.1.length ≤ 1000 ∧ 1 ≤ d.2.1 ∧ (d.2.1 : Int) ≤ lim.r ∧ d.2.2 < 3) :=
  ((eats_kind hr [derivT]).bnd fun _ => (((eats_octs hr 8 1000 1).bnd fun salt => (eats_rounds hr hl).bnd fun n => (((eats_hash hr).inn hr (t := 0x30) (by decide) (by decide)).bnd fun i => eats_ret (salt, n, i)).bar).inn hr (t := 0x30) (by decide) (by decide))).mono (by
    rintro d ts ⟨i0, _, _, ⟨t, ht, rfl⟩, ⟨_, ⟨salt, _, _, ⟨rfl, h1, h2, _⟩, ⟨n, _, _, ⟨rfl, h3, h4⟩, ⟨i, _, _, ⟨_, ⟨hi, rfl⟩, rfl⟩, ⟨rfl, rfl⟩, rfl⟩, rfl⟩, rfl⟩, rfl⟩, rfl⟩
    have e : t = derivT := by
      match i0, ht with
      | 0, ht => simp at ht; exact ht.symm
      | n + 1, ht => simp at ht
    subst e
    exact ⟨rfl, h1, h2, h3, h4, hi⟩)
theorem eats_lock : Eats l (lockP l) (fun d ts => d.1 < 3 ∧ d.2.length = 16 ∧ ts = [lf 6 lockT, ofT 0x30 [sizedT (16 + 8 * (d.1 : Int)) [2, 22, 42], lf 4 d.2]]) :=
  ((eats_kind hr [lockT]).bnd fun _ => (((eats_kind hr lockTs).bnd fun j => (eats_octs hr 16 16 1).bnd fun iv => eats_ret (j, iv)).inn hr (t := 0x30) (by decide) (by decide))).mono (by
    rintro d ts ⟨i0, _, _, ⟨t, ht, rfl⟩, ⟨_, ⟨j, _, _, ⟨t2, ht2, rfl⟩, ⟨iv, _, _, ⟨rfl, h1, h2, _⟩, ⟨rfl, rfl⟩, rfl⟩, rfl⟩, rfl⟩, rfl⟩
    have e : t = lockT := by
      match i0, ht with
      | 0, ht => simp at ht; exact ht.symm
      | n + 1, ht => simp at ht
    subst e
    obtain ⟨hj, hs⟩ := sized_of (ks := [2, 22, 42]) rfl rfl ht2
    refine ⟨hj, by show iv.length = 16; omega, ?_⟩
    rw [← hs]
    rfl)
theorem eats_password {lim : Lim} (hl : lim.r ≤ 4096) : Eats l (password l lim) (fun r ts => RecOk lim.r r ∧ r.way = 3 ∧ ts = passUs r) :=
  ((eats_version hr [0]).bnd fun _ => ((eats_derived hr hl).inn hr (t := 0xa0) (by decide) (by decide)).bnd fun d => ((eats_lock hr).inn hr (t := 0x30) (by decide) (by decide)).bnd fun j => (eats_octs hr 32 272 16).bnd fun k => eats_ret _).mono (by
    rintro r ts ⟨_, _, _, rfl, ⟨d, _, _, ⟨_, ⟨rfl, h1, h2, h3, h4, hi⟩, rfl⟩, ⟨j, _, _, ⟨_, ⟨hj, h5, rfl⟩, rfl⟩, ⟨k, _, _, ⟨rfl, h6, h7, h8⟩, ⟨rfl, rfl⟩, rfl⟩, rfl⟩, rfl⟩, rfl⟩
    exact ⟨.pass d.1 k j.2 d.2.1 d.2.2 j.1 hi hj ⟨h1, h2⟩ ⟨h6, h7, h8⟩ h5 ⟨h3, h4⟩, rfl, rfl⟩)
theorem eats_recip {lim : Lim} (hl : lim.r ≤ 4096) : Eats l (recip l lim) (fun r ts => RecOk lim.r r ∧ ts = [recT r]) := fun c v c' e hc => by
  unfold recip at e
  split at e
  · have H : Eats l (inn l 0xa2 (wrapped l)) (fun r ts => RecOk lim.r r ∧ ts = [recT r]) := ((eats_wrapped hr lim.r).inn hr (t := 0xa2) (by decide) (by decide)).mono (by
      rintro r ts ⟨us, ⟨h1, h2, rfl⟩, rfl⟩
      refine ⟨h1, ?_⟩
      unfold recT
      rw [if_pos h2])
    exact H c v c' e hc
  · split at e
    · have H : Eats l (inn l 0xa3 (password l lim)) (fun r ts => RecOk lim.r r ∧ ts = [recT r]) := ((eats_password hr hl).inn hr (t := 0xa3) (by decide) (by decide)).mono (by
        rintro r ts ⟨us, ⟨h1, h2, rfl⟩, rfl⟩
        refine ⟨h1, ?_⟩
        unfold recT
        rw [if_neg (by rw [h2]; decide)])
      exact H c v c' e hc
    · split at e <;> cases e
theorem eats_recipN {lim : Lim} (hl : lim.r ≤ 4096) : ∀ m, Eats l (recipN l lim m) (fun rs ts => rs.length = m ∧ (∀ r ∈ rs, RecOk lim.r r) ∧ ts = rs.map recT)
  | 0 => (eats_ret []).mono (by
      rintro _ _ ⟨rfl, rfl⟩
      exact ⟨rfl, nofun, rfl⟩)
  | m + 1 => ((eats_recip hr hl).bnd fun r => (eats_recipN hl m).bnd fun rs => eats_ret (r :: rs)).mono (by
      rintro _ _ ⟨r, _, _, ⟨h1, rfl⟩, ⟨rs, _, _, ⟨h2, h3, rfl⟩, ⟨rfl, rfl⟩, rfl⟩, rfl⟩
      refine ⟨by simp [h2], fun x hx => ?_, by simp⟩
      rcases List.mem_cons.1 hx with rfl | hx
      · exact h1
      · exact h3 x hx)
theorem eats_recips {lim : Lim} (hl : lim.r ≤ 4096) : Eats l (recips l lim) (fun rs ts => 1 ≤ rs.length ∧ rs.length ≤ 8 ∧ (∀ r ∈ rs, RecOk lim.r r) ∧ ts = rs.map recT) := fun c v c' e hc => by
  unfold recips at e
  split at e
  · cases e
  · split at e
    · cases e
    · obtain ⟨hf, ts, n, r, ⟨h1, h2, h3⟩, k⟩ := eats_recipN hr hl _ c v c' e hc
      exact ⟨hf, ts, n, r, ⟨by omega, by omega, h2, h3⟩, k⟩
end
end Go.Px.Cm
