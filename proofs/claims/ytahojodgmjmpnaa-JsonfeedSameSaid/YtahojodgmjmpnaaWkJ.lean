/-
  The walk over jsonfeed's text.take.
-/
import Derived.Test.YtahojodgmjmpnaaWjJ
namespace Go.Proofs.Ytahojodgmjmpnaa
open Go.RowKit Go.Px

/-- What holds of a string at hand. -/
structure OkTxt (t : J6.Txt) : Prop where
  mode : t.mode ≤ 5
  hex : t.mode = 2 → 1 ≤ t.count ∧ t.count ≤ 4 ∧ t.code < 16 ^ (4 - t.count)
  high : t.high = 0 ∨ (55296 ≤ t.high ∧ t.high < 56320)
  sign : t.mode = 5 → 1 ≤ t.count ∧ t.count ≤ 3
theorem OkTxt.code {t : J6.Txt} (h : OkTxt t) (hm : t.mode = 2) : t.code ≤ 4095 := by
  obtain ⟨h1, h2, h3⟩ := h.hex hm
  have : 16 ^ (4 - t.count) ≤ 16 ^ 3 := Nat.pow_le_pow_right (by decide) (by omega)
  omega
set_option maxRecDepth 100000 in
set_option maxHeartbeats 4000000 in
theorem take_1 (b : Nat) (t : J6.Txt) (vt : Value) (c : UInt8) (hm : t.mode = 1) (hl : t.out.length ≤ 1000000) (w : World) (h : TxtAt w b t vt) :
    Calls Try.prog 93 #[.pointer (some ⟨b, 0, none⟩), .int .u8 c.toNat] w (TxtPost w b vt (J6.txtTake t c)) := by
  have c0 : w.cell? ⟨b, 0, none⟩ = some (.int .i64 1) := by have := cellOf h.blk 0 (v := .int .i64 (t.mode : Nat)) rfl; rw [hm] at this; exact this
  have hr : J6.txtTake t c = J6.escaped t c.toNat := by unfold J6.txtTake; simp [hm]
  have H := Px.hid (text_escaped b t vt c hl w h)
  rw [hr]
  obtain ⟨⟨r1, r2⟩, hres⟩ : ∃ r, J6.escaped t c.toNat = r := ⟨_, rfl⟩
  rw [hres] at H ⊢
  clear h hm hr hres
  go_enter Try.func93, Try.ntmps93
  go_wp2_with fail
  refine H.out.mono ?_
  rintro e w' ⟨rfl, hp⟩
  have HP := Px.hid hp
  clear hp
  unfold resV
  cases r1 <;> (go_wp2; go_ret; exact ⟨rfl, HP.out⟩)
set_option maxRecDepth 100000 in
set_option maxHeartbeats 4000000 in
theorem take_2 (b : Nat) (t : J6.Txt) (vt : Value) (c : UInt8) (hm : t.mode = 2) (hok : OkTxt t) (hl : t.out.length ≤ 1000000) (w : World) (h : TxtAt w b t vt) :
    Calls Try.prog 93 #[.pointer (some ⟨b, 0, none⟩), .int .u8 c.toNat] w (TxtPost w b vt (J6.txtTake t c)) := by
  have c0 : w.cell? ⟨b, 0, none⟩ = some (.int .i64 2) := by have := cellOf h.blk 0 (v := .int .i64 (t.mode : Nat)) rfl; rw [hm] at this; exact this
  have hr : J6.txtTake t c = J6.digitTake t c.toNat := by unfold J6.txtTake; simp [hm]
  have H := Px.hid (text_digit b t vt c.toNat (hok.code hm) (hok.hex hm).1 (hok.hex hm).2.1 hok.high hl w h)
  rw [hr]
  obtain ⟨⟨r1, r2⟩, hres⟩ : ∃ r, J6.digitTake t c.toNat = r := ⟨_, rfl⟩
  rw [hres] at H ⊢
  clear h hm hr hres hok
  go_enter Try.func93, Try.ntmps93
  go_wp2_with fail
  refine H.out.mono ?_
  rintro e w' ⟨rfl, hp⟩
  have HP := Px.hid hp
  clear hp
  unfold resV
  cases r1 <;> (go_wp2; go_ret; exact ⟨rfl, HP.out⟩)
set_option maxRecDepth 100000 in
set_option maxHeartbeats 4000000 in
theorem take_3 (b : Nat) (t : J6.Txt) (vt : Value) (c : UInt8) (hm : t.mode = 3) (w : World) (h : TxtAt w b t vt) :
    Calls Try.prog 93 #[.pointer (some ⟨b, 0, none⟩), .int .u8 c.toNat] w (TxtPost w b vt (J6.txtTake t c)) := by
  have c0 : w.cell? ⟨b, 0, none⟩ = some (.int .i64 3) := by have := cellOf h.blk 0 (v := .int .i64 (t.mode : Nat)) rfl; rw [hm] at this; exact this
  have f0 : w.frozen? ⟨b, 0, none⟩ = false := freeOf h.blk 0
  have hr : J6.txtTake t c = (if c != 92 then .refuses else .takes, { t with mode := 4 }) := by unfold J6.txtTake; simp [hm]
  have h1 := (h).set 0 (.int .i64 4) { t with mode := 4 } rfl rfl
  have hf1 := (Fr.refl (nfoot b vt) w).setCell (p := ⟨b, 0, none⟩) (.inl (.inl rfl)) (.int .i64 4)
  have H := Px.hid (And.intro h1 hf1)
  rw [hr]
  clear h h1 hf1 hm hr
  by_cases hc : c = 92
  · subst hc
    go_enter Try.func93, Try.ntmps93
    go_wp2
    go_ret
    exact ⟨rfl, _, H.out.1, H.out.2, Fresh.refl _ _⟩
  · have HE := Px.hid (show (if c != 92 then J6.Res.refuses else J6.Res.takes) = .refuses from if_pos (by simpa using hc))
    obtain ⟨z, hz⟩ : ∃ z, z = c.toNat := ⟨_, rfl⟩
    have hne : ((z : Int) != 92) = true := by
      rw [hz]
      simp only [bne_iff_ne, ne_eq]
      intro e
      exact hc (UInt8.toNat_inj.1 (by have : c.toNat = 92 := by omega
                                      rw [this]; rfl))
    rw [← hz, HE.out]
    clear hz hc
    go_enter Try.func93, Try.ntmps93
    go_wp2
    go_ret
    exact ⟨rfl, _, H.out.1, H.out.2, Fresh.refl _ _⟩
set_option maxRecDepth 100000 in
set_option maxHeartbeats 4000000 in
theorem take_4 (b : Nat) (t : J6.Txt) (vt : Value) (c : UInt8) (hm : t.mode = 4) (w : World) (h : TxtAt w b t vt) :
    Calls Try.prog 93 #[.pointer (some ⟨b, 0, none⟩), .int .u8 c.toNat] w (TxtPost w b vt (J6.txtTake t c)) := by
  have c0 : w.cell? ⟨b, 0, none⟩ = some (.int .i64 4) := by have := cellOf h.blk 0 (v := .int .i64 (t.mode : Nat)) rfl; rw [hm] at this; exact this
  have f0 : w.frozen? ⟨b, 0, none⟩ = false := freeOf h.blk 0
  have f2 : w.frozen? ⟨b, 2, none⟩ = false := freeOf h.blk 2
  have f3 : w.frozen? ⟨b, 3, none⟩ = false := freeOf h.blk 3
  have c2 : w.cell? ⟨b, 2, none⟩ = some (.int .i32 (t.code : Nat)) := cellOf h.blk 2 rfl
  have c3 : w.cell? ⟨b, 3, none⟩ = some (.int .i64 (t.count : Nat)) := cellOf h.blk 3 rfl
  have hr : J6.txtTake t c = (if c != 117 then .refuses else .takes, { t with mode := 2, code := 0, count := 4 }) := by unfold J6.txtTake; simp [hm]
  have h1 := (((h).set 0 (.int .i64 2) { t with mode := 2 } rfl rfl).set 2 (.int .i32 0) { t with mode := 2, code := 0 } rfl rfl).set 3 (.int .i64 4) { t with mode := 2, code := 0, count := 4 } rfl rfl
  have hf1 := (((Fr.refl (nfoot b vt) w).setCell (p := ⟨b, 0, none⟩) (.inl (.inl rfl)) (.int .i64 2)).setCell (p := ⟨b, 2, none⟩) (.inl (.inl rfl)) (.int .i32 0)).setCell (p := ⟨b, 3, none⟩) (.inl (.inl rfl)) (.int .i64 4)
  have H := Px.hid (And.intro h1 hf1)
  rw [hr]
  clear h h1 hf1 hm hr
  by_cases hc : c = 117
  · subst hc
    go_enter Try.func93, Try.ntmps93
    go_wp2
    go_ret
    exact ⟨rfl, _, H.out.1, H.out.2, Fresh.refl _ _⟩
  · have HE := Px.hid (show (if c != 117 then J6.Res.refuses else J6.Res.takes) = .refuses from if_pos (by simpa using hc))
    obtain ⟨z, hz⟩ : ∃ z, z = c.toNat := ⟨_, rfl⟩
    have hne : ((z : Int) != 117) = true := by
      rw [hz]
      simp only [bne_iff_ne, ne_eq]
      intro e
      exact hc (UInt8.toNat_inj.1 (by have : c.toNat = 117 := by omega
                                      rw [this]; rfl))
    rw [← hz, HE.out]
    clear hz hc
    go_enter Try.func93, Try.ntmps93
    go_wp2
    go_ret
    exact ⟨rfl, _, H.out.1, H.out.2, Fresh.refl _ _⟩
end Go.Proofs.Ytahojodgmjmpnaa
