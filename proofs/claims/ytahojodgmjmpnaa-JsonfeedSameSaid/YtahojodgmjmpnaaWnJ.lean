/-
  The walk over jsonfeed's text.take: plain bytes; text.take joined; what holds of a string at hand is kept.
-/
import Derived.Test.YtahojodgmjmpnaaWmJ
namespace Go.Proofs.Ytahojodgmjmpnaa
open Go.RowKit Go.Px

set_option maxRecDepth 100000 in
set_option maxHeartbeats 4000000 in
theorem take_0end (b : Nat) (t : J6.Txt) (vt : Value) (hm : t.mode = 0) (w : World) (h : TxtAt w b t vt) :
    Calls Try.prog 93 #[.pointer (some ⟨b, 0, none⟩), .int .u8 34] w (TxtPost w b vt (.ends, t)) := by
  have c0 : w.cell? ⟨b, 0, none⟩ = some (.int .i64 0) := by have := cellOf h.blk 0 (v := .int .i64 (t.mode : Nat)) rfl; rw [hm] at this; exact this
  have H := Px.hid h
  clear h hm
  go_enter Try.func93, Try.ntmps93
  go_wp2
  go_ret
  exact ⟨rfl, _, H.out, Fr.refl _ w, Fresh.refl _ _⟩
set_option maxRecDepth 100000 in
set_option maxHeartbeats 4000000 in
theorem take_0low (b : Nat) (t : J6.Txt) (vt : Value) (z : Nat) (hz : z < 32) (hm : t.mode = 0) (w : World) (h : TxtAt w b t vt) :
    Calls Try.prog 93 #[.pointer (some ⟨b, 0, none⟩), .int .u8 (z : Nat)] w (TxtPost w b vt (.refuses, t)) := by
  have c0 : w.cell? ⟨b, 0, none⟩ = some (.int .i64 0) := by have := cellOf h.blk 0 (v := .int .i64 (t.mode : Nat)) rfl; rw [hm] at this; exact this
  have e1 : ((z : Int) == 34) = false := by simp; omega
  have e2 : (z : Int) < 32 := by omega
  have H := Px.hid h
  clear h hm hz
  go_enter Try.func93, Try.ntmps93
  go_wp2
  go_ret
  exact ⟨rfl, _, H.out, Fr.refl _ w, Fresh.refl _ _⟩
set_option maxRecDepth 100000 in
set_option maxHeartbeats 4000000 in
theorem take_0esc (b : Nat) (t : J6.Txt) (vt : Value) (hm : t.mode = 0) (w : World) (h : TxtAt w b t vt) :
    Calls Try.prog 93 #[.pointer (some ⟨b, 0, none⟩), .int .u8 92] w (TxtPost w b vt (.takes, { t with mode := 1 })) := by
  have c0 : w.cell? ⟨b, 0, none⟩ = some (.int .i64 0) := by have := cellOf h.blk 0 (v := .int .i64 (t.mode : Nat)) rfl; rw [hm] at this; exact this
  have f0 : w.frozen? ⟨b, 0, none⟩ = false := freeOf h.blk 0
  have H := Px.hid (And.intro ((h).set 0 (.int .i64 1) { t with mode := 1 } rfl rfl) ((Fr.refl (nfoot b vt) w).setCell (p := ⟨b, 0, none⟩) (.inl (.inl rfl)) (.int .i64 1)))
  clear h hm
  go_enter Try.func93, Try.ntmps93
  go_wp2
  go_ret
  exact ⟨rfl, _, H.out.1, H.out.2, Fresh.refl _ _⟩
set_option maxRecDepth 100000 in
set_option maxHeartbeats 4000000 in
theorem take_0sign (b : Nat) (t : J6.Txt) (vt : Value) (z : Nat) (hz : 128 ≤ z) (hm : t.mode = 0) (hl : t.out.length ≤ 1000000) (w : World) (h : TxtAt w b t vt) :
    Calls Try.prog 93 #[.pointer (some ⟨b, 0, none⟩), .int .u8 (z : Nat)] w (TxtPost w b vt (J6.signBegin t z)) := by
  have c0 : w.cell? ⟨b, 0, none⟩ = some (.int .i64 0) := by have := cellOf h.blk 0 (v := .int .i64 (t.mode : Nat)) rfl; rw [hm] at this; exact this
  have e1 : ((z : Int) == 34) = false := by simp; omega
  have e2 : decide ((z : Int) < 32) = false := by simp; omega
  have e3 : ((z : Int) == 92) = false := by simp; omega
  have e4 : (128 : Int) ≤ (z : Int) := by omega
  have H := Px.hid (text_begins b t vt z hl w h)
  obtain ⟨⟨r1, r2⟩, hres⟩ : ∃ r, J6.signBegin t z = r := ⟨_, rfl⟩
  rw [hres] at H ⊢
  clear h hm hz hres
  go_enter Try.func93, Try.ntmps93
  go_wp2_with fail
  refine H.out.mono ?_
  rintro e w' ⟨rfl, hp⟩
  have HP := Px.hid hp
  clear hp
  unfold resV
  cases r1 <;> (go_wp2; go_ret; exact ⟨rfl, HP.out⟩)
set_option maxRecDepth 100000 in
set_option maxHeartbeats 4000000 in
theorem take_0plain (b : Nat) (t : J6.Txt) (vt : Value) (c : UInt8) (z : Nat) (hzc : z = c.toNat) (hz1 : 32 ≤ z) (hz2 : z < 128) (hz3 : z ≠ 34) (hz4 : z ≠ 92) (hm : t.mode = 0) (hl : t.out.length ≤ 1000000) (w : World) (h : TxtAt w b t vt) :
    Calls Try.prog 93 #[.pointer (some ⟨b, 0, none⟩), .int .u8 (z : Nat)] w (TxtPost w b vt (.takes, { t with out := t.out ++ [c] })) := by
  have c0 : w.cell? ⟨b, 0, none⟩ = some (.int .i64 0) := by have := cellOf h.blk 0 (v := .int .i64 (t.mode : Nat)) rfl; rw [hm] at this; exact this
  have e1 : ((z : Int) == 34) = false := by simp; omega
  have e2 : decide ((z : Int) < 32) = false := by simp; omega
  have e3 : ((z : Int) == 92) = false := by simp; omega
  have e4 : decide ((128 : Int) ≤ (z : Int)) = false := by simp; omega
  have hcell : [Value.int .u8 (z : Nat)] = [c].flatMap cByte := by rw [hzc]; rfl
  obtain ⟨va, vc, hv, _⟩ := h.text.len
  subst hv
  have c1 : w.cell? ⟨b, 1, none⟩ = some (.slice va t.out.length vc) := cellOf h.blk 1 rfl
  have H := Px.hid (And.intro h hcell)
  obtain ⟨i0, hi0, hs0, hs1, hs2⟩ := info_parts Try.infoU8
  clear h hm hz1 hz2 hz3 hz4 hcell hzc
  go_enter Try.func93, Try.ntmps93
  go_wp2_with (at_builtin; go_must (refine wpList_append_lies _ rfl _ _ _ rfl 0 5 i0 _ 1 1 Try.underlying60 hi0 hs0 hs1 hs2 rfl (by omega) (.slice va t.out.length vc) t.out.length (t.out.flatMap cByte) rfl (Owns.alloc H.out.1.text _) ⟨w.heap.size, 0, none⟩ 1 1 [.int .u8 (z : Nat)] rfl rfl (World.news_of_block (cs := #[.int .u8 (z : Nat)]) (t := 5) (fr := (0, 0)) (news_at _ _ _ (by simp))) (by simp [Value.oneCell']) (by omega) (by unfold maxLen; omega) (by omega) (by omega) (w.heap.size + 1) (by simp) ?_))
  intro gg cap w1 hown1 hgrow hat hlt
  obtain ⟨k1, k2, k3, k4⟩ := H.out.1.put (grown_put H.out.2 rfl hown1 (grown_alloc1 hgrow) (hat.imp id (fun e => by omega)))
  have d1 : w1.cell? ⟨b, 1, none⟩ = some (.slice va t.out.length vc) := cellOf k1 1 rfl
  have g1 : w1.frozen? ⟨b, 1, none⟩ = false := freeOf k1 1
  have HK := Px.hid (And.intro k2 (And.intro k3 k4))
  clear k1 k2 k3 k4 hown1 hgrow hat
  go_wp2
  go_ret
  exact ⟨rfl, _, HK.out.1, HK.out.2.1, HK.out.2.2⟩

theorem txt_m0 (t : J6.Txt) (c : UInt8) (hm : t.mode = 0) : J6.txtTake t c = if c == 34 then (.ends, t) else if c < 32 then (.refuses, t) else if c == 92 then (.takes, { t with mode := 1 }) else if 128 ≤ c then J6.signBegin t c.toNat else (.takes, { t with out := t.out ++ [c] }) := by
  unfold J6.txtTake; simp [hm]
theorem txt_m5 (t : J6.Txt) (c : UInt8) (hm : t.mode = 5) : J6.txtTake t c = if decide (c < t.least) || decide (t.most < c) then (.refuses, t) else (.takes, { t with out := t.out ++ [c], least := 128, most := 191, count := t.count - 1, mode := if t.count - 1 == 0 then 0 else 5 }) := by
  unfold J6.txtTake; simp [hm]
/-- text.take, whole. -/
theorem text_take (b : Nat) (t : J6.Txt) (vt : Value) (c : UInt8) (hok : OkTxt t) (hl : t.out.length ≤ 1000000) (w : World) (h : TxtAt w b t vt) :
    Calls Try.prog 93 #[.pointer (some ⟨b, 0, none⟩), .int .u8 c.toNat] w (TxtPost w b vt (J6.txtTake t c)) := by
  have hmode := hok.mode
  rcases (show t.mode = 0 ∨ t.mode = 1 ∨ t.mode = 2 ∨ t.mode = 3 ∨ t.mode = 4 ∨ t.mode = 5 by omega) with hm | hm | hm | hm | hm | hm
  · rw [txt_m0 t c hm]
    by_cases h1 : c = 34
    · subst h1
      exact take_0end b t vt hm w h
    · rw [if_neg (by simpa using h1)]
      have n1 : c.toNat ≠ 34 := fun e => h1 (UInt8.toNat_inj.1 e)
      by_cases h2 : c < 32
      · rw [if_pos h2]
        exact take_0low b t vt c.toNat (UInt8.lt_iff_toNat_lt.1 h2) hm w h
      · rw [if_neg h2]
        have n2 : ¬ c.toNat < 32 := fun e => h2 (UInt8.lt_iff_toNat_lt.2 e)
        by_cases h3 : c = 92
        · subst h3
          exact take_0esc b t vt hm w h
        · rw [if_neg (by simpa using h3)]
          have n3 : c.toNat ≠ 92 := fun e => h3 (UInt8.toNat_inj.1 e)
          by_cases h4 : 128 ≤ c
          · rw [if_pos h4]
            exact take_0sign b t vt c.toNat (UInt8.le_iff_toNat_le.1 h4) hm hl w h
          · rw [if_neg h4]
            have n4 : ¬ 128 ≤ c.toNat := fun e => h4 (UInt8.le_iff_toNat_le.2 e)
            exact take_0plain b t vt c c.toNat rfl (by omega) (by omega) n1 n3 hm hl w h
  · exact take_1 b t vt c hm hl w h
  · exact take_2 b t vt c hm hok hl w h
  · exact take_3 b t vt c hm w h
  · exact take_4 b t vt c hm w h
  · rw [txt_m5 t c hm]
    by_cases h1 : c < t.least ∨ t.most < c
    · rw [if_pos (by simpa using h1)]
      exact take_5no b t vt c hm h1 w h
    · rw [if_neg (by simpa using h1)]
      obtain ⟨s1, s2⟩ := hok.sign hm
      have h1' := not_or.1 h1
      by_cases hc : t.count = 1
      · have e : ({ t with out := t.out ++ [c], least := 128, most := 191, count := t.count - 1, mode := if t.count - 1 == 0 then 0 else 5 } : J6.Txt) = { t with out := t.out ++ [c], least := 128, most := 191, count := 0, mode := 0 } := by rw [hc]; rfl
        rw [e]
        exact take_5last b t vt c hm h1'.1 h1'.2 hc hl w h
      · have e : ({ t with out := t.out ++ [c], least := 128, most := 191, count := t.count - 1, mode := if t.count - 1 == 0 then 0 else 5 } : J6.Txt) = { t with out := t.out ++ [c], least := 128, most := 191, count := t.count - 1 } := by
          rw [if_neg (by simp; omega), ← hm]
        rw [e]
        exact take_5more b t vt c hm h1'.1 h1'.2 t.count (by omega) s2 rfl hl w h

theorem hex_lt {z h : Nat} (hh : R6.hex z = some h) : h < 16 := by
  rcases hex_some z h hh with x | x | x <;> omega
theorem ok0 : OkTxt J6.txt0 := ⟨by decide, (fun h => by cases h), .inl rfl, (fun h => by cases h)⟩
/-- What holds of a string at hand holds behind each byte that it takes. -/
theorem OkTxt.take {t : J6.Txt} (h : OkTxt t) (c : UInt8) (hr : (J6.txtTake t c).1 = .takes) : OkTxt (J6.txtTake t c).2 := by
  have hmode := h.mode
  rcases (show t.mode = 0 ∨ t.mode = 1 ∨ t.mode = 2 ∨ t.mode = 3 ∨ t.mode = 4 ∨ t.mode = 5 by omega) with hm | hm | hm | hm | hm | hm
  · rw [txt_m0 t c hm] at hr ⊢
    by_cases h1 : (c == 34) = true
    · rw [if_pos h1] at hr; cases hr
    rw [if_neg h1] at hr ⊢
    by_cases h2 : c < 32
    · rw [if_pos h2] at hr; cases hr
    rw [if_neg h2] at hr ⊢
    by_cases h3 : (c == 92) = true
    · rw [if_pos h3]
      exact ⟨(by show 1 ≤ 5; omega), (fun e => by cases e), h.high, (fun e => by cases e)⟩
    rw [if_neg h3] at hr ⊢
    by_cases h4 : 128 ≤ c
    · rw [if_pos h4] at hr ⊢
      unfold J6.signBegin at hr ⊢
      generalize hn : (if decide (194 ≤ c.toNat) && decide (c.toNat < 224) then 1 else if decide (224 ≤ c.toNat) && decide (c.toNat < 240) then 2 else if decide (240 ≤ c.toNat) && decide (c.toNat < 245) then 3 else 0) = n at hr ⊢
      have hn3 : n ≤ 3 := by
        rw [← hn]
        split
        · omega
        · split
          · omega
          · split <;> omega
      by_cases h5 : (n == 0) = true
      · simp only [if_pos h5] at hr; cases hr
      simp only [if_neg h5] at hr ⊢
      exact ⟨(by show 5 ≤ 5; omega), (fun e => by cases e), h.high, fun _ => ⟨(by show 1 ≤ n; simp at h5; omega), hn3⟩⟩
    · rw [if_neg h4]
      exact ⟨h.mode, (fun e => absurd (hm.symm.trans e) (by decide)), h.high, (fun e => absurd (hm.symm.trans e) (by decide))⟩
  · have e : J6.txtTake t c = J6.escaped t c.toNat := by unfold J6.txtTake; simp [hm]
    rw [e] at hr ⊢
    unfold J6.escaped at hr ⊢
    cases hl : R6.letter c.toNat with
    | some b =>
      exact ⟨(by show 0 ≤ 5; omega), (fun e => by cases e), h.high, (fun e => by cases e)⟩
    | none =>
      rw [hl] at hr
      by_cases h1 : (c.toNat == 117) = true
      · simp only [if_pos h1]
        exact ⟨(by show 2 ≤ 5; omega), fun _ => ⟨(by show 1 ≤ 4; omega), (by show 4 ≤ 4; omega), (by show 0 < 16 ^ (4 - 4); decide)⟩, h.high, (fun e => by cases e)⟩
      · simp only [if_neg h1] at hr; cases hr
  · have e : J6.txtTake t c = J6.digitTake t c.toNat := by unfold J6.txtTake; simp [hm]
    rw [e] at hr ⊢
    obtain ⟨q1, q2, q3⟩ := h.hex hm
    unfold J6.digitTake at hr ⊢
    cases hh : R6.hex c.toNat with
    | none => rw [hh] at hr; cases hr
    | some x =>
      rw [hh] at hr
      have hx := hex_lt hh
      by_cases h1 : 1 < t.count
      · simp only [if_pos h1]
        refine ⟨h.mode, fun _ => ⟨(by show 1 ≤ t.count - 1; omega), (by show t.count - 1 ≤ 4; omega), ?_⟩, h.high, fun e => ?_⟩
        · show t.code * 16 + x < 16 ^ (4 - (t.count - 1))
          have e2 : 4 - (t.count - 1) = 4 - t.count + 1 := by omega
          rw [e2, Nat.pow_succ]
          omega
        · rw [show ({ t with code := t.code * 16 + x, count := t.count - 1 } : J6.Txt).mode = 2 from hm] at e; cases e
      · simp only [if_neg h1] at hr ⊢
        unfold J6.fourth at hr ⊢
        generalize t.code * 16 + x = n at hr ⊢
        by_cases h2 : ((decide (56320 ≤ n) && decide (n < 57344)) != (t.high != 0)) = true
        · simp only [if_pos h2] at hr; cases hr
        simp only [if_neg h2] at hr ⊢
        by_cases h3 : (decide (56320 ≤ n) && decide (n < 57344)) = true
        · simp only [if_pos h3]
          exact ⟨(by show 0 ≤ 5; omega), (fun e => by cases e), .inl rfl, (fun e => by cases e)⟩
        simp only [if_neg h3] at hr ⊢
        by_cases h4 : (decide (55296 ≤ n) && decide (n < 56320)) = true
        · simp only [if_pos h4]
          exact ⟨(by show 3 ≤ 5; omega), (fun e => by cases e), .inr (by simpa using h4), (fun e => by cases e)⟩
        · simp only [if_neg h4]
          exact ⟨(by show 0 ≤ 5; omega), (fun e => by cases e), h.high, (fun e => by cases e)⟩
  · have e : J6.txtTake t c = (if c != 92 then .refuses else .takes, { t with mode := 4 }) := by unfold J6.txtTake; simp [hm]
    rw [e]
    exact ⟨(by show 4 ≤ 5; omega), (fun e => by cases e), h.high, (fun e => by cases e)⟩
  · have e : J6.txtTake t c = (if c != 117 then .refuses else .takes, { t with mode := 2, code := 0, count := 4 }) := by unfold J6.txtTake; simp [hm]
    rw [e]
    exact ⟨(by show 2 ≤ 5; omega), fun _ => ⟨(by show 1 ≤ 4; omega), (by show 4 ≤ 4; omega), (by show 0 < 16 ^ (4 - 4); decide)⟩, h.high, (fun e => by cases e)⟩
  · rw [txt_m5 t c hm] at hr ⊢
    by_cases h1 : (decide (c < t.least) || decide (t.most < c)) = true
    · rw [if_pos h1] at hr; cases hr
    rw [if_neg h1]
    obtain ⟨s1, s2⟩ := h.sign hm
    by_cases hc : t.count = 1
    · refine ⟨?_, fun e => ?_, h.high, fun e => ?_⟩
      · show (if t.count - 1 == 0 then 0 else 5) ≤ 5
        rw [hc]; decide
      · rw [hc] at e; cases e
      · rw [hc] at e; cases e
    · have hne : ¬ (t.count - 1 == 0) = true := by simp; omega
      refine ⟨?_, fun e => ?_, h.high, fun e => ⟨(by show 1 ≤ t.count - 1; omega), (by show t.count - 1 ≤ 3; omega)⟩⟩
      · show (if t.count - 1 == 0 then 0 else 5) ≤ 5
        rw [if_neg hne]; omega
      · simp only [if_neg hne] at e; cases e
theorem numNext_le {q c k : Nat} (h : R6.numNext q c = some k) : k ≤ 8 := by
  revert h
  unfold R6.numNext
  repeat' split
  all_goals (intro h; first | (cases h; done) | (cases h; omega))
end Go.Proofs.Ytahojodgmjmpnaa
