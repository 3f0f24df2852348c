/-
  The walk over jsonfeed's Feed.take (printed by gen_yn.py).
-/
import Derived.Test.YtahojodgmjmpnaaYmJ
import Derived.Test.YtahojodgmjmpnaaYkJ
namespace Go.Proofs.Ytahojodgmjmpnaa
open Go.RowKit Go.Px

/-- The token at hand has taken a byte. -/
theorem FeedRep.step {w w' : World} {b : Nat} {f : J6.Feed} {vo vs tv : Value} {tb tb' : List (Option Nat)} {ps : List (J6.Fm × Value)} {Fk : Nat → Prop} {t' : J6.Tok} (h : FeedRep w b f vo vs tv tb ps) (hf : Fr Fk w w') (hF : ∀ k, Fk k → some k ∈ tb)
    (ht : TokIs w' tv tb' t') (hn : ∀ k, some k ∈ tb' → some k ∈ tb ∨ w.heap.size ≤ k) : After w w' b { f with now := t' } (foot b (blocks vo vs tb ps)) := by
  have hF' : ∀ k, Fk k → some k ∈ blocks vo vs tb ps := fun k e => mem_blocks.2 (.inr (.inr (.inl (hF k e))))
  have hbn : ∀ k, some k ∈ blocks vo vs tb' ps → some k ∈ blocks vo vs tb ps ∨ w.heap.size ≤ k := fun k e => by
    rcases mem_blocks.1 e with x | x | x | x
    · exact .inl (mem_blocks.2 (.inl x))
    · exact .inl (mem_blocks.2 (.inr (.inl x)))
    · exact (hn k x).imp (fun y => mem_blocks.2 (.inr (.inr (.inl y)))) id
    · exact .inl (mem_blocks.2 (.inr (.inr (.inr x))))
  exact ⟨_, ⟨_, _, _, _, _, h.inner hf hF' (h.parts.putTok hf hF ht hn) hbn rfl, rfl⟩, Fr.foot hf hF', Fresh.foot hbn⟩
theorem nfoot_mem {k : Nat} {vt : Value} : ∀ j, nfoot k vt j ↔ some j ∈ [some k, vt.ownBlock] := fun j => by
  simp only [nfoot, List.mem_cons, Option.some.injEq, List.not_mem_nil, or_false]
  constructor
  · rintro (x | x)
    · exact .inl x
    · exact .inr x.symm
  · rintro (x | x)
    · exact .inl x
    · exact .inr x.symm
@[go_sem] theorem meth_word (a : Option Addr) (w : World) : (method 237 107 (.pointer a) "pyxis/jsonfeed.take").run Try.prog w = .ok (96, .pointer a) w := by kernel_rfl
@[go_sem] theorem meth_number (a : Option Addr) (w : World) : (method 237 58 (.pointer a) "pyxis/jsonfeed.take").run Try.prog w = .ok (58, .pointer a) w := by kernel_rfl
@[go_sem] theorem meth_text (a : Option Addr) (w : World) : (method 237 87 (.pointer a) "pyxis/jsonfeed.take").run Try.prog w = .ok (93, .pointer a) w := by kernel_rfl
def takeOn (f : J6.Feed) (c : UInt8) (t : J6.Tok) : J6.Res → J6.Feed
  | .takes => { f with now := t }
  | .ends => J6.finish { f with now := t }
  | .refuses => J6.wrong { f with now := t } (f.n - 1 : Nat) 9
  | .ahead => J6.structure_ (J6.finish { f with now := t }) c
theorem takeC_on (f : J6.Feed) (c : UInt8) (h : f.now ≠ .none) : J6.takeC f c = takeOn { f with n := f.n + 1 } c (J6.tokTake f.now c).2 (J6.tokTake f.now c).1 := by
  unfold J6.takeC
  simp only
  cases hn : f.now with
  | none => exact absurd hn h
  | word r =>
    show (match (J6.tokTake (.word r) c).1 with
      | .takes => _
      | .ends => _
      | .refuses => _
      | .ahead => _) = _
    generalize (J6.tokTake (.word r) c).1 = x
    cases x <;> rfl
  | num q t =>
    show (match (J6.tokTake (.num q t) c).1 with
      | .takes => _
      | .ends => _
      | .refuses => _
      | .ahead => _) = _
    generalize (J6.tokTake (.num q t) c).1 = x
    cases x <;> rfl
  | str t =>
    show (match (J6.tokTake (.str t) c).1 with
      | .takes => _
      | .ends => _
      | .refuses => _
      | .ahead => _) = _
    generalize (J6.tokTake (.str t) c).1 = x
    cases x <;> rfl
theorem step_word (b : Nat) (c : UInt8) (f : J6.Feed) (r : Bytes) (F : Nat → Prop) (w : World) (h : FeedAt w b f F) (hnow : f.now = .word r) (hr : r ≠ []) :
    ∃ k, w.cell? ⟨b, 8, none⟩ = some (.iface 107 (.pointer (some ⟨k, 0, none⟩))) ∧
    Calls Try.prog 96 #[.pointer (some ⟨k, 0, none⟩), .int .u8 c.toNat] w fun e w' => e = .returned (resV (J6.tokTake (.word r) c).1) ∧ After w w' b { f with now := (J6.tokTake (.word r) c).2 } F := by
  obtain ⟨vo, vs, tv, tb, ps, h, rfl⟩ := h
  obtain ⟨k, htv, htb, hw⟩ : TokIs w tv tb (.word r) := by rw [← hnow]; exact h.parts.tok
  subst htv
  subst htb
  refine ⟨k, cellOf h.blk 8 rfl, ?_⟩
  obtain ⟨x, r', rfl⟩ : ∃ x r', r = x :: r' := by
    cases r with
    | nil => exact absurd rfl hr
    | cons x r' => exact ⟨x, r', rfl⟩
  refine (word_take k x r' c w hw).mono ?_
  rintro e w' ⟨rfl, h1, h2⟩
  exact ⟨rfl, h.step h2 (fun j e => by rw [e]; simp) (tb' := [some k]) (t' := .word (J6.wordTake (x :: r') c).2) ⟨k, rfl, rfl, h1⟩ (fun j e => .inl e)⟩
theorem step_number (b : Nat) (c : UInt8) (f : J6.Feed) (q : Nat) (t : Bytes) (F : Nat → Prop) (w : World) (h : FeedAt w b f F) (hnow : f.now = .num q t) (hq : q ≤ 8) (hl : t.length ≤ 1000000) :
    ∃ k, w.cell? ⟨b, 8, none⟩ = some (.iface 58 (.pointer (some ⟨k, 0, none⟩))) ∧
    Calls Try.prog 58 #[.pointer (some ⟨k, 0, none⟩), .int .u8 c.toNat] w fun e w' => e = .returned (resV (J6.tokTake (.num q t) c).1) ∧ After w w' b { f with now := (J6.tokTake (.num q t) c).2 } F := by
  obtain ⟨vo, vs, tv, tb, ps, h, rfl⟩ := h
  obtain ⟨k, vt, htv, htb, hw⟩ : TokIs w tv tb (.num q t) := by rw [← hnow]; exact h.parts.tok
  subst htv
  subst htb
  refine ⟨k, cellOf h.blk 8 rfl, (num_take k q t vt c hq hl w hw).mono ?_⟩
  rintro e w' ⟨rfl, vt', h1, h2, h3⟩
  exact ⟨rfl, h.step h2 (fun j e => (nfoot_mem j).1 e) (tb' := [some k, vt'.ownBlock]) (t' := .num (J6.numTake q t c).2.1 (J6.numTake q t c).2.2) ⟨k, vt', rfl, rfl, h1⟩ (fun j e => (h3 j ((nfoot_mem j).2 e)).imp (fun x => (nfoot_mem j).1 x) id)⟩
theorem step_text (b : Nat) (c : UInt8) (f : J6.Feed) (t : J6.Txt) (F : Nat → Prop) (w : World) (h : FeedAt w b f F) (hnow : f.now = .str t) (hok : OkTxt t) (hl : t.out.length ≤ 1000000) :
    ∃ k, w.cell? ⟨b, 8, none⟩ = some (.iface 87 (.pointer (some ⟨k, 0, none⟩))) ∧
    Calls Try.prog 93 #[.pointer (some ⟨k, 0, none⟩), .int .u8 c.toNat] w fun e w' => e = .returned (resV (J6.tokTake (.str t) c).1) ∧ After w w' b { f with now := (J6.tokTake (.str t) c).2 } F := by
  obtain ⟨vo, vs, tv, tb, ps, h, rfl⟩ := h
  obtain ⟨k, vt, htv, htb, hw⟩ : TokIs w tv tb (.str t) := by rw [← hnow]; exact h.parts.tok
  subst htv
  subst htb
  refine ⟨k, cellOf h.blk 8 rfl, (text_take k t vt c hok hl w hw).mono ?_⟩
  rintro e w' ⟨rfl, vt', h1, h2, h3⟩
  exact ⟨rfl, h.step h2 (fun j e => (nfoot_mem j).1 e) (tb' := [some k, vt'.ownBlock]) (t' := .str (J6.txtTake t c).2) ⟨k, vt', rfl, rfl, h1⟩ (fun j e => (h3 j ((nfoot_mem j).2 e)).imp (fun x => (nfoot_mem j).1 x) id)⟩
set_option maxRecDepth 100000 in
set_option maxHeartbeats 4000000 in
theorem take_word (b : Nat) (c : UInt8) (f : J6.Feed) (r : Bytes) (F : Nat → Prop) (w : World) (h : FeedAt w b f F) (hok : J6.OkK 0 f) (hn : ¬ (f.n : Int) = f.lim.b) (hnow : f.now = .word r) :
    Calls Try.prog 20 #[.pointer (some ⟨b, 0, none⟩), .int .u8 c.toNat] w fun e w' => e = .returned (.tuple #[]) ∧ After w w' b (J6.takeC f c) F := by
  have hm := hok.more hn
  have hmp := J6.may_parts6 hok.may
  have hnb := hok.nb
  have htk := hm.tk
  obtain ⟨z, hz⟩ : ∃ z, z = c.toNat := ⟨_, rfl⟩
  have hw1 : IntKind.i64.wrap ((f.n : Int) + 1) = (f.n : Int) + 1 := IntWalk.i64_in _ ⟨by omega, by omega⟩
  have hT := takeC_on f c (by rw [hnow]; intro e; cases e)
  obtain ⟨f1, hf1⟩ : ∃ f1 : J6.Feed, f1 = { f with n := f.n + 1 } := ⟨_, rfl⟩
  rw [← hf1] at hm hT htk
  rw [hnow] at hT
  have hnow1 : f1.now = .word r := by rw [hf1]; exact hnow
  have hn1 : 1 ≤ f1.n := by rw [hf1]; show 1 ≤ f.n + 1; omega
  have hne1 : f1.out ≠ [] := hm.ne (by rw [hnow1]; intro e; cases e)
  rw [hnow1] at htk
  have hn2 : f1.n ≤ 262144 := by have := hm.nb; have e : f1.lim = f.lim := by rw [hf1]
                                 rw [e] at this; omega
  have c4 : w.cell? ⟨b, 4, none⟩ = some (.int .i64 (f.n : Nat)) := h.c7.2.2
  have f4 : w.frozen? ⟨b, 4, none⟩ = false := by obtain ⟨vo, vs, tv, tb, ps, h, hF⟩ := h; exact h.free 4
  have hb : b < w.heap.size := h.lt b h.own
  have hA1 : FeedAt (w.setCell ⟨b, 4, none⟩ (.int .i64 ((f.n : Int) + 1))) b f1 F ∧ Fr F w (w.setCell ⟨b, 4, none⟩ (.int .i64 ((f.n : Int) + 1))) := by
    rw [hf1]
    obtain ⟨vo, vs, tv, tb, ps, h, hF⟩ := h
    refine ⟨⟨vo, vs, tv, tb, ps, ?_, hF⟩, ?_⟩
    · refine h.set 4 (.int .i64 ((f.n : Int) + 1)) { f with n := f.n + 1 } ?_ rfl rfl rfl
      have e : ((f.n : Int) + 1) = ((f.n + 1 : Nat) : Int) := by omega
      rw [e]
      rfl
    · rw [hF]
      exact (Fr.refl _ w).setCell (p := ⟨b, 4, none⟩) (.inl (.inl rfl)) _
  obtain ⟨W1, hW1⟩ : ∃ W1, W1 = w.setCell ⟨b, 4, none⟩ (.int .i64 ((f.n : Int) + 1)) := ⟨_, rfl⟩
  rw [← hW1] at hA1
  obtain ⟨k, c8, hcall⟩ := step_word b c f1 r F W1 hA1.1 hnow1 htk
  have HA1 := Px.hid hA1
  have HW1 := Px.hid hW1
  have HT := Px.hid hT
  have HM := Px.hid (And.intro hm (And.intro hn1 (And.intro hne1 hn2)))
  have HC := Px.hid hcall
  have HZ := Px.hid hz
  have c8' : (w.setCell ⟨b, 4, none⟩ (.int .i64 ((f.n : Int) + 1))).cell? ⟨b, 8, none⟩ = some (.iface 107 (.pointer (some ⟨k, 0, none⟩))) := by rw [← hW1]; exact c8
  rw [← hz]
  clear h hok hn hnow hm hmp hnb htk hT hf1 hnow1 hn1 hne1 hn2 hA1 hW1 hcall hz c8
  go_enter Try.func20, Try.ntmps20
  go_wp2_with fail
  rw [HZ.out, ← HW1.out]
  refine HC.out.mono ?_
  rintro e w' ⟨rfl, hA⟩
  have HA := Px.hid (After.ofFr HA1.out.2 hA)
  have hne2 : (J6.tokTake (.word r) c).2 ≠ .none := by intro e; cases e
  clear hA c8' c4 f4
  obtain ⟨⟨r1, t1⟩, hres⟩ : ∃ x, J6.tokTake (.word r) c = x := ⟨_, rfl⟩
  rw [hres] at HA HT hne2 ⊢
  have HN2 := Px.hid hne2
  clear HC hres hne2
  have HFI := Px.hid (show J6.OkK 1 { f1 with now := .none } from ⟨HM.out.1.may, HM.out.1.nb, HM.out.1.ol, HM.out.1.sd, HM.out.1.each, HM.out.1.kids, HM.out.1.nx, HM.out.1.st, HM.out.1.kn, trivial, fun e => absurd rfl e⟩)
  unfold resV
  cases r1 with
  | takes =>
    go_wp2
    refine bodyPost_ret (results_none rfl _ _ _) rfl ?_
    rw [HT.out]
    exact ⟨rfl, HA.out⟩
  | ends =>
    go_wp2_with fail
    refine (After.bind HA.out (fun F1 h1 => finish_any b { f1 with now := t1 } F1 _ h1 HFI.out HN2.out HM.out.2.2.1)).mono ?_
    rintro e w2 ⟨rfl, hA⟩
    have HA2 := Px.hid hA
    clear hA
    go_wp2
    refine bodyPost_ret (results_none rfl _ _ _) rfl ?_
    rw [HT.out]
    exact ⟨rfl, HA2.out⟩
  | refuses =>
    have k4 : w'.cell? ⟨b, 4, none⟩ = some (.int .i64 (f1.n : Nat)) := by
      obtain ⟨F1, h1, _, _⟩ := HA.out
      exact h1.c7.2.2
    have hw4 : IntKind.i64.wrap ((f1.n : Int) - 1) = (f1.n : Int) - 1 := by
      have h1 := HM.out.2.1
      have h2 := HM.out.2.2.2
      exact IntWalk.i64_in _ ⟨by omega, by omega⟩
    go_wp2_with fail
    refine (After.bind HA.out (fun F1 h1 => wrong_here b 9 { f1 with now := t1 } F1 HM.out.2.1 _ h1)).mono ?_
    rintro e w2 ⟨rfl, hA⟩
    have HA2 := Px.hid hA
    clear hA
    go_wp2
    refine bodyPost_ret (results_none rfl _ _ _) rfl ?_
    rw [HT.out]
    exact ⟨rfl, HA2.out⟩
  | ahead =>
    go_wp2_with fail
    refine (After.bind HA.out (fun F1 h1 => finish_any b { f1 with now := t1 } F1 _ h1 HFI.out HN2.out HM.out.2.2.1)).mono ?_
    rintro e w2 ⟨rfl, hA⟩
    have HA2 := Px.hid hA
    have hk := J6.finish_keeps { f1 with now := t1 }
    have hfo : J6.OkK 0 (J6.finish { f1 with now := t1 }) := J6.OkK.finish (f := { f1 with now := t1 }) HFI.out
    have HG := Px.hid (And.intro hfo (And.intro (show 1 ≤ (J6.finish { f1 with now := t1 }).n by rw [hk.2.1]; exact HM.out.2.1) hk.2.2))
    clear hA hk hfo
    go_wp2_with fail
    refine (After.bind HA2.out (fun F1 h1 => structure_any b c (J6.finish { f1 with now := t1 }) F1 _ h1 HG.out.1 HG.out.2.1 HG.out.2.2)).mono ?_
    rintro e w3 ⟨rfl, hA⟩
    have HA3 := Px.hid hA
    clear hA
    go_wp2
    go_end0
    rw [HT.out]
    exact ⟨rfl, HA3.out⟩
set_option maxRecDepth 100000 in
set_option maxHeartbeats 4000000 in
theorem take_number (b : Nat) (c : UInt8) (f : J6.Feed) (q : Nat) (t : Bytes) (F : Nat → Prop) (w : World) (h : FeedAt w b f F) (hok : J6.OkK 0 f) (hn : ¬ (f.n : Int) = f.lim.b) (hnow : f.now = .num q t) :
    Calls Try.prog 20 #[.pointer (some ⟨b, 0, none⟩), .int .u8 c.toNat] w fun e w' => e = .returned (.tuple #[]) ∧ After w w' b (J6.takeC f c) F := by
  have hm := hok.more hn
  have hmp := J6.may_parts6 hok.may
  have hnb := hok.nb
  have htk := hm.tk
  obtain ⟨z, hz⟩ : ∃ z, z = c.toNat := ⟨_, rfl⟩
  have hw1 : IntKind.i64.wrap ((f.n : Int) + 1) = (f.n : Int) + 1 := IntWalk.i64_in _ ⟨by omega, by omega⟩
  have hT := takeC_on f c (by rw [hnow]; intro e; cases e)
  obtain ⟨f1, hf1⟩ : ∃ f1 : J6.Feed, f1 = { f with n := f.n + 1 } := ⟨_, rfl⟩
  rw [← hf1] at hm hT htk
  rw [hnow] at hT
  have hnow1 : f1.now = .num q t := by rw [hf1]; exact hnow
  have hn1 : 1 ≤ f1.n := by rw [hf1]; show 1 ≤ f.n + 1; omega
  have hne1 : f1.out ≠ [] := hm.ne (by rw [hnow1]; intro e; cases e)
  rw [hnow1] at htk
  have hn2 : f1.n ≤ 262144 := by have := hm.nb; have e : f1.lim = f.lim := by rw [hf1]
                                 rw [e] at this; omega
  have c4 : w.cell? ⟨b, 4, none⟩ = some (.int .i64 (f.n : Nat)) := h.c7.2.2
  have f4 : w.frozen? ⟨b, 4, none⟩ = false := by obtain ⟨vo, vs, tv, tb, ps, h, hF⟩ := h; exact h.free 4
  have hb : b < w.heap.size := h.lt b h.own
  have hA1 : FeedAt (w.setCell ⟨b, 4, none⟩ (.int .i64 ((f.n : Int) + 1))) b f1 F ∧ Fr F w (w.setCell ⟨b, 4, none⟩ (.int .i64 ((f.n : Int) + 1))) := by
    rw [hf1]
    obtain ⟨vo, vs, tv, tb, ps, h, hF⟩ := h
    refine ⟨⟨vo, vs, tv, tb, ps, ?_, hF⟩, ?_⟩
    · refine h.set 4 (.int .i64 ((f.n : Int) + 1)) { f with n := f.n + 1 } ?_ rfl rfl rfl
      have e : ((f.n : Int) + 1) = ((f.n + 1 : Nat) : Int) := by omega
      rw [e]
      rfl
    · rw [hF]
      exact (Fr.refl _ w).setCell (p := ⟨b, 4, none⟩) (.inl (.inl rfl)) _
  obtain ⟨W1, hW1⟩ : ∃ W1, W1 = w.setCell ⟨b, 4, none⟩ (.int .i64 ((f.n : Int) + 1)) := ⟨_, rfl⟩
  rw [← hW1] at hA1
  obtain ⟨k, c8, hcall⟩ := step_number b c f1 q t F W1 hA1.1 hnow1 htk.1 (by have h2 : t.length + 1 ≤ f1.n := htk.2; omega)
  have HA1 := Px.hid hA1
  have HW1 := Px.hid hW1
  have HT := Px.hid hT
  have HM := Px.hid (And.intro hm (And.intro hn1 (And.intro hne1 hn2)))
  have HC := Px.hid hcall
  have HZ := Px.hid hz
  have c8' : (w.setCell ⟨b, 4, none⟩ (.int .i64 ((f.n : Int) + 1))).cell? ⟨b, 8, none⟩ = some (.iface 58 (.pointer (some ⟨k, 0, none⟩))) := by rw [← hW1]; exact c8
  rw [← hz]
  clear h hok hn hnow hm hmp hnb htk hT hf1 hnow1 hn1 hne1 hn2 hA1 hW1 hcall hz c8
  go_enter Try.func20, Try.ntmps20
  go_wp2_with fail
  rw [HZ.out, ← HW1.out]
  refine HC.out.mono ?_
  rintro e w' ⟨rfl, hA⟩
  have HA := Px.hid (After.ofFr HA1.out.2 hA)
  have hne2 : (J6.tokTake (.num q t) c).2 ≠ .none := by intro e; cases e
  clear hA c8' c4 f4
  obtain ⟨⟨r1, t1⟩, hres⟩ : ∃ x, J6.tokTake (.num q t) c = x := ⟨_, rfl⟩
  rw [hres] at HA HT hne2 ⊢
  have HN2 := Px.hid hne2
  clear HC hres hne2
  have HFI := Px.hid (show J6.OkK 1 { f1 with now := .none } from ⟨HM.out.1.may, HM.out.1.nb, HM.out.1.ol, HM.out.1.sd, HM.out.1.each, HM.out.1.kids, HM.out.1.nx, HM.out.1.st, HM.out.1.kn, trivial, fun e => absurd rfl e⟩)
  unfold resV
  cases r1 with
  | takes =>
    go_wp2
    refine bodyPost_ret (results_none rfl _ _ _) rfl ?_
    rw [HT.out]
    exact ⟨rfl, HA.out⟩
  | ends =>
    go_wp2_with fail
    refine (After.bind HA.out (fun F1 h1 => finish_any b { f1 with now := t1 } F1 _ h1 HFI.out HN2.out HM.out.2.2.1)).mono ?_
    rintro e w2 ⟨rfl, hA⟩
    have HA2 := Px.hid hA
    clear hA
    go_wp2
    refine bodyPost_ret (results_none rfl _ _ _) rfl ?_
    rw [HT.out]
    exact ⟨rfl, HA2.out⟩
  | refuses =>
    have k4 : w'.cell? ⟨b, 4, none⟩ = some (.int .i64 (f1.n : Nat)) := by
      obtain ⟨F1, h1, _, _⟩ := HA.out
      exact h1.c7.2.2
    have hw4 : IntKind.i64.wrap ((f1.n : Int) - 1) = (f1.n : Int) - 1 := by
      have h1 := HM.out.2.1
      have h2 := HM.out.2.2.2
      exact IntWalk.i64_in _ ⟨by omega, by omega⟩
    go_wp2_with fail
    refine (After.bind HA.out (fun F1 h1 => wrong_here b 9 { f1 with now := t1 } F1 HM.out.2.1 _ h1)).mono ?_
    rintro e w2 ⟨rfl, hA⟩
    have HA2 := Px.hid hA
    clear hA
    go_wp2
    refine bodyPost_ret (results_none rfl _ _ _) rfl ?_
    rw [HT.out]
    exact ⟨rfl, HA2.out⟩
  | ahead =>
    go_wp2_with fail
    refine (After.bind HA.out (fun F1 h1 => finish_any b { f1 with now := t1 } F1 _ h1 HFI.out HN2.out HM.out.2.2.1)).mono ?_
    rintro e w2 ⟨rfl, hA⟩
    have HA2 := Px.hid hA
    have hk := J6.finish_keeps { f1 with now := t1 }
    have hfo : J6.OkK 0 (J6.finish { f1 with now := t1 }) := J6.OkK.finish (f := { f1 with now := t1 }) HFI.out
    have HG := Px.hid (And.intro hfo (And.intro (show 1 ≤ (J6.finish { f1 with now := t1 }).n by rw [hk.2.1]; exact HM.out.2.1) hk.2.2))
    clear hA hk hfo
    go_wp2_with fail
    refine (After.bind HA2.out (fun F1 h1 => structure_any b c (J6.finish { f1 with now := t1 }) F1 _ h1 HG.out.1 HG.out.2.1 HG.out.2.2)).mono ?_
    rintro e w3 ⟨rfl, hA⟩
    have HA3 := Px.hid hA
    clear hA
    go_wp2
    go_end0
    rw [HT.out]
    exact ⟨rfl, HA3.out⟩
set_option maxRecDepth 100000 in
set_option maxHeartbeats 4000000 in
theorem take_text (b : Nat) (c : UInt8) (f : J6.Feed) (t : J6.Txt) (F : Nat → Prop) (w : World) (h : FeedAt w b f F) (hok : J6.OkK 0 f) (hn : ¬ (f.n : Int) = f.lim.b) (hnow : f.now = .str t) :
    Calls Try.prog 20 #[.pointer (some ⟨b, 0, none⟩), .int .u8 c.toNat] w fun e w' => e = .returned (.tuple #[]) ∧ After w w' b (J6.takeC f c) F := by
  have hm := hok.more hn
  have hmp := J6.may_parts6 hok.may
  have hnb := hok.nb
  have htk := hm.tk
  obtain ⟨z, hz⟩ : ∃ z, z = c.toNat := ⟨_, rfl⟩
  have hw1 : IntKind.i64.wrap ((f.n : Int) + 1) = (f.n : Int) + 1 := IntWalk.i64_in _ ⟨by omega, by omega⟩
  have hT := takeC_on f c (by rw [hnow]; intro e; cases e)
  obtain ⟨f1, hf1⟩ : ∃ f1 : J6.Feed, f1 = { f with n := f.n + 1 } := ⟨_, rfl⟩
  rw [← hf1] at hm hT htk
  rw [hnow] at hT
  have hnow1 : f1.now = .str t := by rw [hf1]; exact hnow
  have hn1 : 1 ≤ f1.n := by rw [hf1]; show 1 ≤ f.n + 1; omega
  have hne1 : f1.out ≠ [] := hm.ne (by rw [hnow1]; intro e; cases e)
  rw [hnow1] at htk
  have hn2 : f1.n ≤ 262144 := by have := hm.nb; have e : f1.lim = f.lim := by rw [hf1]
                                 rw [e] at this; omega
  have c4 : w.cell? ⟨b, 4, none⟩ = some (.int .i64 (f.n : Nat)) := h.c7.2.2
  have f4 : w.frozen? ⟨b, 4, none⟩ = false := by obtain ⟨vo, vs, tv, tb, ps, h, hF⟩ := h; exact h.free 4
  have hb : b < w.heap.size := h.lt b h.own
  have hA1 : FeedAt (w.setCell ⟨b, 4, none⟩ (.int .i64 ((f.n : Int) + 1))) b f1 F ∧ Fr F w (w.setCell ⟨b, 4, none⟩ (.int .i64 ((f.n : Int) + 1))) := by
    rw [hf1]
    obtain ⟨vo, vs, tv, tb, ps, h, hF⟩ := h
    refine ⟨⟨vo, vs, tv, tb, ps, ?_, hF⟩, ?_⟩
    · refine h.set 4 (.int .i64 ((f.n : Int) + 1)) { f with n := f.n + 1 } ?_ rfl rfl rfl
      have e : ((f.n : Int) + 1) = ((f.n + 1 : Nat) : Int) := by omega
      rw [e]
      rfl
    · rw [hF]
      exact (Fr.refl _ w).setCell (p := ⟨b, 4, none⟩) (.inl (.inl rfl)) _
  obtain ⟨W1, hW1⟩ : ∃ W1, W1 = w.setCell ⟨b, 4, none⟩ (.int .i64 ((f.n : Int) + 1)) := ⟨_, rfl⟩
  rw [← hW1] at hA1
  obtain ⟨k, c8, hcall⟩ := step_text b c f1 t F W1 hA1.1 hnow1 htk.1 (by have h2 : J6.pot t + 2 * 1 ≤ 2 * f1.n := htk.2; have h3 : t.out.length ≤ J6.pot t := Nat.le_add_right _ _; omega)
  have HA1 := Px.hid hA1
  have HW1 := Px.hid hW1
  have HT := Px.hid hT
  have HM := Px.hid (And.intro hm (And.intro hn1 (And.intro hne1 hn2)))
  have HC := Px.hid hcall
  have HZ := Px.hid hz
  have c8' : (w.setCell ⟨b, 4, none⟩ (.int .i64 ((f.n : Int) + 1))).cell? ⟨b, 8, none⟩ = some (.iface 87 (.pointer (some ⟨k, 0, none⟩))) := by rw [← hW1]; exact c8
  rw [← hz]
  clear h hok hn hnow hm hmp hnb htk hT hf1 hnow1 hn1 hne1 hn2 hA1 hW1 hcall hz c8
  go_enter Try.func20, Try.ntmps20
  go_wp2_with fail
  rw [HZ.out, ← HW1.out]
  refine HC.out.mono ?_
  rintro e w' ⟨rfl, hA⟩
  have HA := Px.hid (After.ofFr HA1.out.2 hA)
  have hne2 : (J6.tokTake (.str t) c).2 ≠ .none := by intro e; cases e
  clear hA c8' c4 f4
  obtain ⟨⟨r1, t1⟩, hres⟩ : ∃ x, J6.tokTake (.str t) c = x := ⟨_, rfl⟩
  rw [hres] at HA HT hne2 ⊢
  have HN2 := Px.hid hne2
  clear HC hres hne2
  have HFI := Px.hid (show J6.OkK 1 { f1 with now := .none } from ⟨HM.out.1.may, HM.out.1.nb, HM.out.1.ol, HM.out.1.sd, HM.out.1.each, HM.out.1.kids, HM.out.1.nx, HM.out.1.st, HM.out.1.kn, trivial, fun e => absurd rfl e⟩)
  unfold resV
  cases r1 with
  | takes =>
    go_wp2
    refine bodyPost_ret (results_none rfl _ _ _) rfl ?_
    rw [HT.out]
    exact ⟨rfl, HA.out⟩
  | ends =>
    go_wp2_with fail
    refine (After.bind HA.out (fun F1 h1 => finish_any b { f1 with now := t1 } F1 _ h1 HFI.out HN2.out HM.out.2.2.1)).mono ?_
    rintro e w2 ⟨rfl, hA⟩
    have HA2 := Px.hid hA
    clear hA
    go_wp2
    refine bodyPost_ret (results_none rfl _ _ _) rfl ?_
    rw [HT.out]
    exact ⟨rfl, HA2.out⟩
  | refuses =>
    have k4 : w'.cell? ⟨b, 4, none⟩ = some (.int .i64 (f1.n : Nat)) := by
      obtain ⟨F1, h1, _, _⟩ := HA.out
      exact h1.c7.2.2
    have hw4 : IntKind.i64.wrap ((f1.n : Int) - 1) = (f1.n : Int) - 1 := by
      have h1 := HM.out.2.1
      have h2 := HM.out.2.2.2
      exact IntWalk.i64_in _ ⟨by omega, by omega⟩
    go_wp2_with fail
    refine (After.bind HA.out (fun F1 h1 => wrong_here b 9 { f1 with now := t1 } F1 HM.out.2.1 _ h1)).mono ?_
    rintro e w2 ⟨rfl, hA⟩
    have HA2 := Px.hid hA
    clear hA
    go_wp2
    refine bodyPost_ret (results_none rfl _ _ _) rfl ?_
    rw [HT.out]
    exact ⟨rfl, HA2.out⟩
  | ahead =>
    go_wp2_with fail
    refine (After.bind HA.out (fun F1 h1 => finish_any b { f1 with now := t1 } F1 _ h1 HFI.out HN2.out HM.out.2.2.1)).mono ?_
    rintro e w2 ⟨rfl, hA⟩
    have HA2 := Px.hid hA
    have hk := J6.finish_keeps { f1 with now := t1 }
    have hfo : J6.OkK 0 (J6.finish { f1 with now := t1 }) := J6.OkK.finish (f := { f1 with now := t1 }) HFI.out
    have HG := Px.hid (And.intro hfo (And.intro (show 1 ≤ (J6.finish { f1 with now := t1 }).n by rw [hk.2.1]; exact HM.out.2.1) hk.2.2))
    clear hA hk hfo
    go_wp2_with fail
    refine (After.bind HA2.out (fun F1 h1 => structure_any b c (J6.finish { f1 with now := t1 }) F1 _ h1 HG.out.1 HG.out.2.1 HG.out.2.2)).mono ?_
    rintro e w3 ⟨rfl, hA⟩
    have HA3 := Px.hid hA
    clear hA
    go_wp2
    go_end0
    rw [HT.out]
    exact ⟨rfl, HA3.out⟩
set_option maxRecDepth 100000 in
set_option maxHeartbeats 4000000 in
theorem take_none (b : Nat) (c : UInt8) (f : J6.Feed) (F : Nat → Prop) (w : World) (h : FeedAt w b f F) (hok : J6.OkK 0 f) (hn : ¬ (f.n : Int) = f.lim.b) (hnow : f.now = .none) :
    Calls Try.prog 20 #[.pointer (some ⟨b, 0, none⟩), .int .u8 c.toNat] w fun e w' => e = .returned (.tuple #[]) ∧ After w w' b (J6.takeC f c) F := by
  have hm := hok.more hn
  have hmp := J6.may_parts6 hok.may
  have hnb := hok.nb
  have hw1 : IntKind.i64.wrap ((f.n : Int) + 1) = (f.n : Int) + 1 := IntWalk.i64_in _ ⟨by omega, by omega⟩
  have hT : J6.takeC f c = J6.structure_ { f with n := f.n + 1 } c := by unfold J6.takeC; simp only; rw [hnow]
  obtain ⟨f1, hf1⟩ : ∃ f1 : J6.Feed, f1 = { f with n := f.n + 1 } := ⟨_, rfl⟩
  have hT1 : J6.takeC f c = J6.structure_ f1 c := by rw [hT, hf1]
  rw [← hf1] at hm
  have hnow1 : f1.now = .none := by rw [hf1]; exact hnow
  have hn1 : 1 ≤ f1.n := by rw [hf1]; show 1 ≤ f.n + 1; omega
  have c4 : w.cell? ⟨b, 4, none⟩ = some (.int .i64 (f.n : Nat)) := h.c7.2.2
  have f4 : w.frozen? ⟨b, 4, none⟩ = false := by obtain ⟨vo, vs, tv, tb, ps, h, hF⟩ := h; exact h.free 4
  have hb : b < w.heap.size := h.lt b h.own
  have hA1 : FeedAt (w.setCell ⟨b, 4, none⟩ (.int .i64 ((f.n : Int) + 1))) b f1 F ∧ Fr F w (w.setCell ⟨b, 4, none⟩ (.int .i64 ((f.n : Int) + 1))) := by
    rw [hf1]
    obtain ⟨vo, vs, tv, tb, ps, h, hF⟩ := h
    refine ⟨⟨vo, vs, tv, tb, ps, ?_, hF⟩, ?_⟩
    · refine h.set 4 (.int .i64 ((f.n : Int) + 1)) { f with n := f.n + 1 } ?_ rfl rfl rfl
      have e : ((f.n : Int) + 1) = ((f.n + 1 : Nat) : Int) := by omega
      rw [e]
      rfl
    · rw [hF]
      exact (Fr.refl _ w).setCell (p := ⟨b, 4, none⟩) (.inl (.inl rfl)) _
  have c8' : (w.setCell ⟨b, 4, none⟩ (.int .i64 ((f.n : Int) + 1))).cell? ⟨b, 8, none⟩ = some .nilIface := (hA1.1.c8 hnow1).1
  have HA1 := Px.hid hA1
  have HT := Px.hid hT1
  have HM := Px.hid (And.intro hm (And.intro hn1 hnow1))
  clear h hok hn hnow hm hmp hnb hT hT1 hf1 hnow1 hn1 hA1
  go_enter Try.func20, Try.ntmps20
  go_wp2_with fail
  refine (structure_any b c f1 F _ HA1.out.1 (HM.out.1.less (Nat.zero_le 1)) HM.out.2.1 HM.out.2.2).mono ?_
  rintro e w2 ⟨rfl, hA⟩
  have HA := Px.hid (After.ofFr HA1.out.2 hA)
  clear hA c8' c4 f4
  go_wp2
  go_end0
  rw [HT.out]
  exact ⟨rfl, HA.out⟩
/-- take, whole. -/
theorem take_any (b : Nat) (c : UInt8) (f : J6.Feed) (F : Nat → Prop) (w : World) (h : FeedAt w b f F) (hok : J6.OkK 0 f) (hn : ¬ (f.n : Int) = f.lim.b) :
    Calls Try.prog 20 #[.pointer (some ⟨b, 0, none⟩), .int .u8 c.toNat] w fun e w' => e = .returned (.tuple #[]) ∧ After w w' b (J6.takeC f c) F := by
  cases hnow : f.now with
  | none => exact take_none b c f F w h hok hn hnow
  | word r => exact take_word b c f r F w h hok hn hnow
  | num q t => exact take_number b c f q t F w h hok hn hnow
  | str t => exact take_text b c f t F w h hok hn hnow
end Go.Proofs.Ytahojodgmjmpnaa
