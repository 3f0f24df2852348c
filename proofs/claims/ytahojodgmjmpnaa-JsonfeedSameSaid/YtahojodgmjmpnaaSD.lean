/-
  Several texts in one: The walk over jsonfeed's Feed.take (printed by gen_yn.py). The walks over jsonfeed's Write, New, State; and of a nil and a zero feed. The walk over jsonfeed's End (printed by gen_yp.py). The walks over the statements' own helper wakes (layer 19), and over JsonfeedNil and JsonfeedStops (turned from layer 18 by mk_yq.py). The walk over the reference's Same (layer 16).
-/
import Derived.Test.YtahojodgmjmpnaaSB
import Derived.Test.YtahojodgmjmpnaaSC
import Derived.Deep.Upon
/-! The walk over jsonfeed's Feed.take (printed by gen_yn.py). -/
namespace Go.Proofs.Ytahojodgmjmpnaa
open Go.RowKit Go.Px

/-- The token at hand has taken a byte. -/
theorem FeedRep.step {w w' : World} {b : Nat} {f : J6.Feed} {vo vs tv : Value} {tb tb' : List (Option Nat)} {ps : List (J6.Fm × Value)} {Fk : Nat → Prop} {t' : J6.Tok} (h : FeedRep w b f vo vs tv tb ps) (hf : Fr Fk w w') (hF : ∀ k, Fk k → some k ∈ tb)
    (ht : TokIs w' tv tb' t') (hn : ∀ k, some k ∈ tb' → some k ∈ tb ∨ w.heap.size ≤ k) : After w w' b { f with now := t' } (foot b (blocks vo vs tb ps)) := by
  have hF' : ∀ k, Fk k → some k ∈ blocks vo vs tb ps := fun k e => mem_blocks.2 (.inr (.inr (.inl (hF k e))))
  have hbn : ∀ k, some k ∈ blocks vo vs tb' ps → some k ∈ blocks vo vs tb ps ∨ w.heap.size ≤ k := fun k e => by
    rcases mem_blocks.1 e with x | x | x | x
    · exact .inl (mem_blocks.2 (.inl x))
    · exact .inl (mem_blocks.2 (.inr (.inl x)))
    · exact (hn k x).imp (fun y => mem_blocks.2 (.inr (.inr (.inl y)))) id
    · exact .inl (mem_blocks.2 (.inr (.inr (.inr x))))
  exact ⟨_, ⟨_, _, _, _, _, h.inner hf hF' (h.parts.putTok hf hF ht hn) hbn rfl, rfl⟩, Fr.foot hf hF', Fresh.foot hbn⟩
theorem nfoot_mem {k : Nat} {vt : Value} : ∀ j, nfoot k vt j ↔ some j ∈ [some k, vt.ownBlock] := fun j => by
  simp only [nfoot, List.mem_cons, Option.some.injEq, List.not_mem_nil, or_false]
  constructor
  · rintro (x | x)
    · exact .inl x
    · exact .inr x.symm
  · rintro (x | x)
    · exact .inl x
    · exact .inr x.symm
@[go_sem] theorem meth_word (a : Option Addr) (w : World) : (method 237 107 (.pointer a) "pyxis/jsonfeed.take").run Try.prog w = .ok (96, .pointer a) w := by kernel_rfl
@[go_sem] theorem meth_number (a : Option Addr) (w : World) : (method 237 58 (.pointer a) "pyxis/jsonfeed.take").run Try.prog w = .ok (58, .pointer a) w := by kernel_rfl
@[go_sem] theorem meth_text (a : Option Addr) (w : World) : (method 237 87 (.pointer a) "pyxis/jsonfeed.take").run Try.prog w = .ok (93, .pointer a) w := by kernel_rfl
def takeOn (f : J6.Feed) (c : UInt8) (t : J6.Tok) : J6.Res → J6.Feed
  | .takes => { f with now := t }
  | .ends => J6.finish { f with now := t }
  | .refuses => J6.wrong { f with now := t } (f.n - 1 : Nat) 9
  | .ahead => J6.structure_ (J6.finish { f with now := t }) c
theorem takeC_on (f : J6.Feed) (c : UInt8) (h : f.now ≠ .none) : J6.takeC f c = takeOn { f with n := f.n + 1 } c (J6.tokTake f.now c).2 (J6.tokTake f.now c).1 := by
  unfold J6.takeC
  simp only
  cases hn : f.now with
  | none => exact absurd hn h
  | word r =>
    show (match (J6.tokTake (.word r) c).1 with
      | .takes => _
      | .ends => _
      | .refuses => _
      | .ahead => _) = _
    generalize (J6.tokTake (.word r) c).1 = x
    cases x <;> rfl
  | num q t =>
    show (match (J6.tokTake (.num q t) c).1 with
      | .takes => _
      | .ends => _
      | .refuses => _
      | .ahead => _) = _
    generalize (J6.tokTake (.num q t) c).1 = x
    cases x <;> rfl
  | str t =>
    show (match (J6.tokTake (.str t) c).1 with
      | .takes => _
      | .ends => _
      | .refuses => _
      | .ahead => _) = _
    generalize (J6.tokTake (.str t) c).1 = x
    cases x <;> rfl
theorem step_word (b : Nat) (c : UInt8) (f : J6.Feed) (r : Bytes) (F : Nat → Prop) (w : World) (h : FeedAt w b f F) (hnow : f.now = .word r) (hr : r ≠ []) :
    ∃ k, w.cell? ⟨b, 8, none⟩ = some (.iface 107 (.pointer (some ⟨k, 0, none⟩))) ∧
    Calls Try.prog 96 #[.pointer (some ⟨k, 0, none⟩), .int .u8 c.toNat] w fun e w' => e = .returned (resV (J6.tokTake (.word r) c).1) ∧ After w w' b { f with now := (J6.tokTake (.word r) c).2 } F := by
  obtain ⟨vo, vs, tv, tb, ps, h, rfl⟩ := h
  obtain ⟨k, htv, htb, hw⟩ : TokIs w tv tb (.word r) := by rw [← hnow]; exact h.parts.tok
  subst htv
  subst htb
  refine ⟨k, cellOf h.blk 8 rfl, ?_⟩
  obtain ⟨x, r', rfl⟩ : ∃ x r', r = x :: r' := by
    cases r with
    | nil => exact absurd rfl hr
    | cons x r' => exact ⟨x, r', rfl⟩
  refine (word_take k x r' c w hw).mono ?_
  rintro e w' ⟨rfl, h1, h2⟩
  exact ⟨rfl, h.step h2 (fun j e => by rw [e]; simp) (tb' := [some k]) (t' := .word (J6.wordTake (x :: r') c).2) ⟨k, rfl, rfl, h1⟩ (fun j e => .inl e)⟩
theorem step_number (b : Nat) (c : UInt8) (f : J6.Feed) (q : Nat) (t : Bytes) (F : Nat → Prop) (w : World) (h : FeedAt w b f F) (hnow : f.now = .num q t) (hq : q ≤ 8) (hl : t.length ≤ 1000000) :
    ∃ k, w.cell? ⟨b, 8, none⟩ = some (.iface 58 (.pointer (some ⟨k, 0, none⟩))) ∧
    Calls Try.prog 58 #[.pointer (some ⟨k, 0, none⟩), .int .u8 c.toNat] w fun e w' => e = .returned (resV (J6.tokTake (.num q t) c).1) ∧ After w w' b { f with now := (J6.tokTake (.num q t) c).2 } F := by
  obtain ⟨vo, vs, tv, tb, ps, h, rfl⟩ := h
  obtain ⟨k, vt, htv, htb, hw⟩ : TokIs w tv tb (.num q t) := by rw [← hnow]; exact h.parts.tok
  subst htv
  subst htb
  refine ⟨k, cellOf h.blk 8 rfl, (num_take k q t vt c hq hl w hw).mono ?_⟩
  rintro e w' ⟨rfl, vt', h1, h2, h3⟩
  exact ⟨rfl, h.step h2 (fun j e => (nfoot_mem j).1 e) (tb' := [some k, vt'.ownBlock]) (t' := .num (J6.numTake q t c).2.1 (J6.numTake q t c).2.2) ⟨k, vt', rfl, rfl, h1⟩ (fun j e => (h3 j ((nfoot_mem j).2 e)).imp (fun x => (nfoot_mem j).1 x) id)⟩
theorem step_text (b : Nat) (c : UInt8) (f : J6.Feed) (t : J6.Txt) (F : Nat → Prop) (w : World) (h : FeedAt w b f F) (hnow : f.now = .str t) (hok : OkTxt t) (hl : t.out.length ≤ 1000000) :
    ∃ k, w.cell? ⟨b, 8, none⟩ = some (.iface 87 (.pointer (some ⟨k, 0, none⟩))) ∧
    Calls Try.prog 93 #[.pointer (some ⟨k, 0, none⟩), .int .u8 c.toNat] w fun e w' => e = .returned (resV (J6.tokTake (.str t) c).1) ∧ After w w' b { f with now := (J6.tokTake (.str t) c).2 } F := by
  obtain ⟨vo, vs, tv, tb, ps, h, rfl⟩ := h
  obtain ⟨k, vt, htv, htb, hw⟩ : TokIs w tv tb (.str t) := by rw [← hnow]; exact h.parts.tok
  subst htv
  subst htb
  refine ⟨k, cellOf h.blk 8 rfl, (text_take k t vt c hok hl w hw).mono ?_⟩
  rintro e w' ⟨rfl, vt', h1, h2, h3⟩
  exact ⟨rfl, h.step h2 (fun j e => (nfoot_mem j).1 e) (tb' := [some k, vt'.ownBlock]) (t' := .str (J6.txtTake t c).2) ⟨k, vt', rfl, rfl, h1⟩ (fun j e => (h3 j ((nfoot_mem j).2 e)).imp (fun x => (nfoot_mem j).1 x) id)⟩
set_option maxRecDepth 100000 in
set_option maxHeartbeats 4000000 in
theorem take_word (b : Nat) (c : UInt8) (f : J6.Feed) (r : Bytes) (F : Nat → Prop) (w : World) (h : FeedAt w b f F) (hok : J6.OkK 0 f) (hn : ¬ (f.n : Int) = f.lim.b) (hnow : f.now = .word r) :
    Calls Try.prog 20 #[.pointer (some ⟨b, 0, none⟩), .int .u8 c.toNat] w fun e w' => e = .returned (.tuple #[]) ∧ After w w' b (J6.takeC f c) F := by
  have hm := hok.more hn
  have hmp := J6.may_parts6 hok.may
  have hnb := hok.nb
  have htk := hm.tk
  obtain ⟨z, hz⟩ : ∃ z, z = c.toNat := ⟨_, rfl⟩
  have hw1 : IntKind.i64.wrap ((f.n : Int) + 1) = (f.n : Int) + 1 := IntWalk.i64_in _ ⟨by omega, by omega⟩
  have hT := takeC_on f c (by rw [hnow]; intro e; cases e)
  obtain ⟨f1, hf1⟩ : ∃ f1 : J6.Feed, f1 = { f with n := f.n + 1 } := ⟨_, rfl⟩
  rw [← hf1] at hm hT htk
  rw [hnow] at hT
  have hnow1 : f1.now = .word r := by rw [hf1]; exact hnow
  have hn1 : 1 ≤ f1.n := by rw [hf1]; show 1 ≤ f.n + 1; omega
  have hne1 : f1.out ≠ [] := hm.ne (by rw [hnow1]; intro e; cases e)
  rw [hnow1] at htk
  have hn2 : f1.n ≤ 262144 := by have := hm.nb; have e : f1.lim = f.lim := by rw [hf1]
                                 rw [e] at this; omega
  have c4 : w.cell? ⟨b, 4, none⟩ = some (.int .i64 (f.n : Nat)) := h.c7.2.2
  have f4 : w.frozen? ⟨b, 4, none⟩ = false := by obtain ⟨vo, vs, tv, tb, ps, h, hF⟩ := h; exact h.free 4
  have hb : b < w.heap.size := h.lt b h.own
  have hA1 : FeedAt (w.setCell ⟨b, 4, none⟩ (.int .i64 ((f.n : Int) + 1))) b f1 F ∧ Fr F w (w.setCell ⟨b, 4, none⟩ (.int .i64 ((f.n : Int) + 1))) := by
    rw [hf1]
    obtain ⟨vo, vs, tv, tb, ps, h, hF⟩ := h
    refine ⟨⟨vo, vs, tv, tb, ps, ?_, hF⟩, ?_⟩
    · refine h.set 4 (.int .i64 ((f.n : Int) + 1)) { f with n := f.n + 1 } ?_ rfl rfl rfl
      have e : ((f.n : Int) + 1) = ((f.n + 1 : Nat) : Int) := by omega
      rw [e]
      rfl
    · rw [hF]
      exact (Fr.refl _ w).setCell (p := ⟨b, 4, none⟩) (.inl (.inl rfl)) _
  obtain ⟨W1, hW1⟩ : ∃ W1, W1 = w.setCell ⟨b, 4, none⟩ (.int .i64 ((f.n : Int) + 1)) := ⟨_, rfl⟩
  rw [← hW1] at hA1
  obtain ⟨k, c8, hcall⟩ := step_word b c f1 r F W1 hA1.1 hnow1 htk
  have HA1 := Px.hid hA1
  have HW1 := Px.hid hW1
  have HT := Px.hid hT
  have HM := Px.hid (And.intro hm (And.intro hn1 (And.intro hne1 hn2)))
  have HC := Px.hid hcall
  have HZ := Px.hid hz
  have c8' : (w.setCell ⟨b, 4, none⟩ (.int .i64 ((f.n : Int) + 1))).cell? ⟨b, 8, none⟩ = some (.iface 107 (.pointer (some ⟨k, 0, none⟩))) := by rw [← hW1]; exact c8
  rw [← hz]
  clear h hok hn hnow hm hmp hnb htk hT hf1 hnow1 hn1 hne1 hn2 hA1 hW1 hcall hz c8
  go_enter Try.func20, Try.ntmps20
  go_wp2_with fail
  rw [HZ.out, ← HW1.out]
  refine HC.out.mono ?_
  rintro e w' ⟨rfl, hA⟩
  have HA := Px.hid (After.ofFr HA1.out.2 hA)
  have hne2 : (J6.tokTake (.word r) c).2 ≠ .none := by intro e; cases e
  clear hA c8' c4 f4
  obtain ⟨⟨r1, t1⟩, hres⟩ : ∃ x, J6.tokTake (.word r) c = x := ⟨_, rfl⟩
  rw [hres] at HA HT hne2 ⊢
  have HN2 := Px.hid hne2
  clear HC hres hne2
  have HFI := Px.hid (show J6.OkK 1 { f1 with now := .none } from ⟨HM.out.1.may, HM.out.1.nb, HM.out.1.ol, HM.out.1.sd, HM.out.1.each, HM.out.1.kids, HM.out.1.nx, HM.out.1.st, HM.out.1.kn, trivial, fun e => absurd rfl e⟩)
  unfold resV
  cases r1 with
  | takes =>
    go_wp2
    refine bodyPost_ret (results_none rfl _ _ _) rfl ?_
    rw [HT.out]
    exact ⟨rfl, HA.out⟩
  | ends =>
    go_wp2_with fail
    refine (After.bind HA.out (fun F1 h1 => finish_any b { f1 with now := t1 } F1 _ h1 HFI.out HN2.out HM.out.2.2.1)).mono ?_
    rintro e w2 ⟨rfl, hA⟩
    have HA2 := Px.hid hA
    clear hA
    go_wp2
    refine bodyPost_ret (results_none rfl _ _ _) rfl ?_
    rw [HT.out]
    exact ⟨rfl, HA2.out⟩
  | refuses =>
    have k4 : w'.cell? ⟨b, 4, none⟩ = some (.int .i64 (f1.n : Nat)) := by
      obtain ⟨F1, h1, _, _⟩ := HA.out
      exact h1.c7.2.2
    have hw4 : IntKind.i64.wrap ((f1.n : Int) - 1) = (f1.n : Int) - 1 := by
      have h1 := HM.out.2.1
      have h2 := HM.out.2.2.2
      exact IntWalk.i64_in _ ⟨by omega, by omega⟩
    go_wp2_with fail
    refine (After.bind HA.out (fun F1 h1 => wrong_here b 9 { f1 with now := t1 } F1 HM.out.2.1 _ h1)).mono ?_
    rintro e w2 ⟨rfl, hA⟩
    have HA2 := Px.hid hA
    clear hA
    go_wp2
    refine bodyPost_ret (results_none rfl _ _ _) rfl ?_
    rw [HT.out]
    exact ⟨rfl, HA2.out⟩
  | ahead =>
    go_wp2_with fail
    refine (After.bind HA.out (fun F1 h1 => finish_any b { f1 with now := t1 } F1 _ h1 HFI.out HN2.out HM.out.2.2.1)).mono ?_
    rintro e w2 ⟨rfl, hA⟩
    have HA2 := Px.hid hA
    have hk := J6.finish_keeps { f1 with now := t1 }
    have hfo : J6.OkK 0 (J6.finish { f1 with now := t1 }) := J6.OkK.finish (f := { f1 with now := t1 }) HFI.out
    have HG := Px.hid (And.intro hfo (And.intro (show 1 ≤ (J6.finish { f1 with now := t1 }).n by rw [hk.2.1]; exact HM.out.2.1) hk.2.2))
    clear hA hk hfo
    go_wp2_with fail
    refine (After.bind HA2.out (fun F1 h1 => structure_any b c (J6.finish { f1 with now := t1 }) F1 _ h1 HG.out.1 HG.out.2.1 HG.out.2.2)).mono ?_
    rintro e w3 ⟨rfl, hA⟩
    have HA3 := Px.hid hA
    clear hA
    go_wp2
    go_end0
    rw [HT.out]
    exact ⟨rfl, HA3.out⟩
set_option maxRecDepth 100000 in
set_option maxHeartbeats 4000000 in
theorem take_number (b : Nat) (c : UInt8) (f : J6.Feed) (q : Nat) (t : Bytes) (F : Nat → Prop) (w : World) (h : FeedAt w b f F) (hok : J6.OkK 0 f) (hn : ¬ (f.n : Int) = f.lim.b) (hnow : f.now = .num q t) :
    Calls Try.prog 20 #[.pointer (some ⟨b, 0, none⟩), .int .u8 c.toNat] w fun e w' => e = .returned (.tuple #[]) ∧ After w w' b (J6.takeC f c) F := by
  have hm := hok.more hn
  have hmp := J6.may_parts6 hok.may
  have hnb := hok.nb
  have htk := hm.tk
  obtain ⟨z, hz⟩ : ∃ z, z = c.toNat := ⟨_, rfl⟩
  have hw1 : IntKind.i64.wrap ((f.n : Int) + 1) = (f.n : Int) + 1 := IntWalk.i64_in _ ⟨by omega, by omega⟩
  have hT := takeC_on f c (by rw [hnow]; intro e; cases e)
  obtain ⟨f1, hf1⟩ : ∃ f1 : J6.Feed, f1 = { f with n := f.n + 1 } := ⟨_, rfl⟩
  rw [← hf1] at hm hT htk
  rw [hnow] at hT
  have hnow1 : f1.now = .num q t := by rw [hf1]; exact hnow
  have hn1 : 1 ≤ f1.n := by rw [hf1]; show 1 ≤ f.n + 1; omega
  have hne1 : f1.out ≠ [] := hm.ne (by rw [hnow1]; intro e; cases e)
  rw [hnow1] at htk
  have hn2 : f1.n ≤ 262144 := by have := hm.nb; have e : f1.lim = f.lim := by rw [hf1]
                                 rw [e] at this; omega
  have c4 : w.cell? ⟨b, 4, none⟩ = some (.int .i64 (f.n : Nat)) := h.c7.2.2
  have f4 : w.frozen? ⟨b, 4, none⟩ = false := by obtain ⟨vo, vs, tv, tb, ps, h, hF⟩ := h; exact h.free 4
  have hb : b < w.heap.size := h.lt b h.own
  have hA1 : FeedAt (w.setCell ⟨b, 4, none⟩ (.int .i64 ((f.n : Int) + 1))) b f1 F ∧ Fr F w (w.setCell ⟨b, 4, none⟩ (.int .i64 ((f.n : Int) + 1))) := by
    rw [hf1]
    obtain ⟨vo, vs, tv, tb, ps, h, hF⟩ := h
    refine ⟨⟨vo, vs, tv, tb, ps, ?_, hF⟩, ?_⟩
    · refine h.set 4 (.int .i64 ((f.n : Int) + 1)) { f with n := f.n + 1 } ?_ rfl rfl rfl
      have e : ((f.n : Int) + 1) = ((f.n + 1 : Nat) : Int) := by omega
      rw [e]
      rfl
    · rw [hF]
      exact (Fr.refl _ w).setCell (p := ⟨b, 4, none⟩) (.inl (.inl rfl)) _
  obtain ⟨W1, hW1⟩ : ∃ W1, W1 = w.setCell ⟨b, 4, none⟩ (.int .i64 ((f.n : Int) + 1)) := ⟨_, rfl⟩
  rw [← hW1] at hA1
  obtain ⟨k, c8, hcall⟩ := step_number b c f1 q t F W1 hA1.1 hnow1 htk.1 (by have h2 : t.length + 1 ≤ f1.n := htk.2; omega)
  have HA1 := Px.hid hA1
  have HW1 := Px.hid hW1
  have HT := Px.hid hT
  have HM := Px.hid (And.intro hm (And.intro hn1 (And.intro hne1 hn2)))
  have HC := Px.hid hcall
  have HZ := Px.hid hz
  have c8' : (w.setCell ⟨b, 4, none⟩ (.int .i64 ((f.n : Int) + 1))).cell? ⟨b, 8, none⟩ = some (.iface 58 (.pointer (some ⟨k, 0, none⟩))) := by rw [← hW1]; exact c8
  rw [← hz]
  clear h hok hn hnow hm hmp hnb htk hT hf1 hnow1 hn1 hne1 hn2 hA1 hW1 hcall hz c8
  go_enter Try.func20, Try.ntmps20
  go_wp2_with fail
  rw [HZ.out, ← HW1.out]
  refine HC.out.mono ?_
  rintro e w' ⟨rfl, hA⟩
  have HA := Px.hid (After.ofFr HA1.out.2 hA)
  have hne2 : (J6.tokTake (.num q t) c).2 ≠ .none := by intro e; cases e
  clear hA c8' c4 f4
  obtain ⟨⟨r1, t1⟩, hres⟩ : ∃ x, J6.tokTake (.num q t) c = x := ⟨_, rfl⟩
  rw [hres] at HA HT hne2 ⊢
  have HN2 := Px.hid hne2
  clear HC hres hne2
  have HFI := Px.hid (show J6.OkK 1 { f1 with now := .none } from ⟨HM.out.1.may, HM.out.1.nb, HM.out.1.ol, HM.out.1.sd, HM.out.1.each, HM.out.1.kids, HM.out.1.nx, HM.out.1.st, HM.out.1.kn, trivial, fun e => absurd rfl e⟩)
  unfold resV
  cases r1 with
  | takes =>
    go_wp2
    refine bodyPost_ret (results_none rfl _ _ _) rfl ?_
    rw [HT.out]
    exact ⟨rfl, HA.out⟩
  | ends =>
    go_wp2_with fail
    refine (After.bind HA.out (fun F1 h1 => finish_any b { f1 with now := t1 } F1 _ h1 HFI.out HN2.out HM.out.2.2.1)).mono ?_
    rintro e w2 ⟨rfl, hA⟩
    have HA2 := Px.hid hA
    clear hA
    go_wp2
    refine bodyPost_ret (results_none rfl _ _ _) rfl ?_
    rw [HT.out]
    exact ⟨rfl, HA2.out⟩
  | refuses =>
    have k4 : w'.cell? ⟨b, 4, none⟩ = some (.int .i64 (f1.n : Nat)) := by
      obtain ⟨F1, h1, _, _⟩ := HA.out
      exact h1.c7.2.2
    have hw4 : IntKind.i64.wrap ((f1.n : Int) - 1) = (f1.n : Int) - 1 := by
      have h1 := HM.out.2.1
      have h2 := HM.out.2.2.2
      exact IntWalk.i64_in _ ⟨by omega, by omega⟩
    go_wp2_with fail
    refine (After.bind HA.out (fun F1 h1 => wrong_here b 9 { f1 with now := t1 } F1 HM.out.2.1 _ h1)).mono ?_
    rintro e w2 ⟨rfl, hA⟩
    have HA2 := Px.hid hA
    clear hA
    go_wp2
    refine bodyPost_ret (results_none rfl _ _ _) rfl ?_
    rw [HT.out]
    exact ⟨rfl, HA2.out⟩
  | ahead =>
    go_wp2_with fail
    refine (After.bind HA.out (fun F1 h1 => finish_any b { f1 with now := t1 } F1 _ h1 HFI.out HN2.out HM.out.2.2.1)).mono ?_
    rintro e w2 ⟨rfl, hA⟩
    have HA2 := Px.hid hA
    have hk := J6.finish_keeps { f1 with now := t1 }
    have hfo : J6.OkK 0 (J6.finish { f1 with now := t1 }) := J6.OkK.finish (f := { f1 with now := t1 }) HFI.out
    have HG := Px.hid (And.intro hfo (And.intro (show 1 ≤ (J6.finish { f1 with now := t1 }).n by rw [hk.2.1]; exact HM.out.2.1) hk.2.2))
    clear hA hk hfo
    go_wp2_with fail
    refine (After.bind HA2.out (fun F1 h1 => structure_any b c (J6.finish { f1 with now := t1 }) F1 _ h1 HG.out.1 HG.out.2.1 HG.out.2.2)).mono ?_
    rintro e w3 ⟨rfl, hA⟩
    have HA3 := Px.hid hA
    clear hA
    go_wp2
    go_end0
    rw [HT.out]
    exact ⟨rfl, HA3.out⟩
set_option maxRecDepth 100000 in
set_option maxHeartbeats 4000000 in
theorem take_text (b : Nat) (c : UInt8) (f : J6.Feed) (t : J6.Txt) (F : Nat → Prop) (w : World) (h : FeedAt w b f F) (hok : J6.OkK 0 f) (hn : ¬ (f.n : Int) = f.lim.b) (hnow : f.now = .str t) :
    Calls Try.prog 20 #[.pointer (some ⟨b, 0, none⟩), .int .u8 c.toNat] w fun e w' => e = .returned (.tuple #[]) ∧ After w w' b (J6.takeC f c) F := by
  have hm := hok.more hn
  have hmp := J6.may_parts6 hok.may
  have hnb := hok.nb
  have htk := hm.tk
  obtain ⟨z, hz⟩ : ∃ z, z = c.toNat := ⟨_, rfl⟩
  have hw1 : IntKind.i64.wrap ((f.n : Int) + 1) = (f.n : Int) + 1 := IntWalk.i64_in _ ⟨by omega, by omega⟩
  have hT := takeC_on f c (by rw [hnow]; intro e; cases e)
  obtain ⟨f1, hf1⟩ : ∃ f1 : J6.Feed, f1 = { f with n := f.n + 1 } := ⟨_, rfl⟩
  rw [← hf1] at hm hT htk
  rw [hnow] at hT
  have hnow1 : f1.now = .str t := by rw [hf1]; exact hnow
  have hn1 : 1 ≤ f1.n := by rw [hf1]; show 1 ≤ f.n + 1; omega
  have hne1 : f1.out ≠ [] := hm.ne (by rw [hnow1]; intro e; cases e)
  rw [hnow1] at htk
  have hn2 : f1.n ≤ 262144 := by have := hm.nb; have e : f1.lim = f.lim := by rw [hf1]
                                 rw [e] at this; omega
  have c4 : w.cell? ⟨b, 4, none⟩ = some (.int .i64 (f.n : Nat)) := h.c7.2.2
  have f4 : w.frozen? ⟨b, 4, none⟩ = false := by obtain ⟨vo, vs, tv, tb, ps, h, hF⟩ := h; exact h.free 4
  have hb : b < w.heap.size := h.lt b h.own
  have hA1 : FeedAt (w.setCell ⟨b, 4, none⟩ (.int .i64 ((f.n : Int) + 1))) b f1 F ∧ Fr F w (w.setCell ⟨b, 4, none⟩ (.int .i64 ((f.n : Int) + 1))) := by
    rw [hf1]
    obtain ⟨vo, vs, tv, tb, ps, h, hF⟩ := h
    refine ⟨⟨vo, vs, tv, tb, ps, ?_, hF⟩, ?_⟩
    · refine h.set 4 (.int .i64 ((f.n : Int) + 1)) { f with n := f.n + 1 } ?_ rfl rfl rfl
      have e : ((f.n : Int) + 1) = ((f.n + 1 : Nat) : Int) := by omega
      rw [e]
      rfl
    · rw [hF]
      exact (Fr.refl _ w).setCell (p := ⟨b, 4, none⟩) (.inl (.inl rfl)) _
  obtain ⟨W1, hW1⟩ : ∃ W1, W1 = w.setCell ⟨b, 4, none⟩ (.int .i64 ((f.n : Int) + 1)) := ⟨_, rfl⟩
  rw [← hW1] at hA1
  obtain ⟨k, c8, hcall⟩ := step_text b c f1 t F W1 hA1.1 hnow1 htk.1 (by have h2 : J6.pot t + 2 * 1 ≤ 2 * f1.n := htk.2; have h3 : t.out.length ≤ J6.pot t := Nat.le_add_right _ _; omega)
  have HA1 := Px.hid hA1
  have HW1 := Px.hid hW1
  have HT := Px.hid hT
  have HM := Px.hid (And.intro hm (And.intro hn1 (And.intro hne1 hn2)))
  have HC := Px.hid hcall
  have HZ := Px.hid hz
  have c8' : (w.setCell ⟨b, 4, none⟩ (.int .i64 ((f.n : Int) + 1))).cell? ⟨b, 8, none⟩ = some (.iface 87 (.pointer (some ⟨k, 0, none⟩))) := by rw [← hW1]; exact c8
  rw [← hz]
  clear h hok hn hnow hm hmp hnb htk hT hf1 hnow1 hn1 hne1 hn2 hA1 hW1 hcall hz c8
  go_enter Try.func20, Try.ntmps20
  go_wp2_with fail
  rw [HZ.out, ← HW1.out]
  refine HC.out.mono ?_
  rintro e w' ⟨rfl, hA⟩
  have HA := Px.hid (After.ofFr HA1.out.2 hA)
  have hne2 : (J6.tokTake (.str t) c).2 ≠ .none := by intro e; cases e
  clear hA c8' c4 f4
  obtain ⟨⟨r1, t1⟩, hres⟩ : ∃ x, J6.tokTake (.str t) c = x := ⟨_, rfl⟩
  rw [hres] at HA HT hne2 ⊢
  have HN2 := Px.hid hne2
  clear HC hres hne2
  have HFI := Px.hid (show J6.OkK 1 { f1 with now := .none } from ⟨HM.out.1.may, HM.out.1.nb, HM.out.1.ol, HM.out.1.sd, HM.out.1.each, HM.out.1.kids, HM.out.1.nx, HM.out.1.st, HM.out.1.kn, trivial, fun e => absurd rfl e⟩)
  unfold resV
  cases r1 with
  | takes =>
    go_wp2
    refine bodyPost_ret (results_none rfl _ _ _) rfl ?_
    rw [HT.out]
    exact ⟨rfl, HA.out⟩
  | ends =>
    go_wp2_with fail
    refine (After.bind HA.out (fun F1 h1 => finish_any b { f1 with now := t1 } F1 _ h1 HFI.out HN2.out HM.out.2.2.1)).mono ?_
    rintro e w2 ⟨rfl, hA⟩
    have HA2 := Px.hid hA
    clear hA
    go_wp2
    refine bodyPost_ret (results_none rfl _ _ _) rfl ?_
    rw [HT.out]
    exact ⟨rfl, HA2.out⟩
  | refuses =>
    have k4 : w'.cell? ⟨b, 4, none⟩ = some (.int .i64 (f1.n : Nat)) := by
      obtain ⟨F1, h1, _, _⟩ := HA.out
      exact h1.c7.2.2
    have hw4 : IntKind.i64.wrap ((f1.n : Int) - 1) = (f1.n : Int) - 1 := by
      have h1 := HM.out.2.1
      have h2 := HM.out.2.2.2
      exact IntWalk.i64_in _ ⟨by omega, by omega⟩
    go_wp2_with fail
    refine (After.bind HA.out (fun F1 h1 => wrong_here b 9 { f1 with now := t1 } F1 HM.out.2.1 _ h1)).mono ?_
    rintro e w2 ⟨rfl, hA⟩
    have HA2 := Px.hid hA
    clear hA
    go_wp2
    refine bodyPost_ret (results_none rfl _ _ _) rfl ?_
    rw [HT.out]
    exact ⟨rfl, HA2.out⟩
  | ahead =>
    go_wp2_with fail
    refine (After.bind HA.out (fun F1 h1 => finish_any b { f1 with now := t1 } F1 _ h1 HFI.out HN2.out HM.out.2.2.1)).mono ?_
    rintro e w2 ⟨rfl, hA⟩
    have HA2 := Px.hid hA
    have hk := J6.finish_keeps { f1 with now := t1 }
    have hfo : J6.OkK 0 (J6.finish { f1 with now := t1 }) := J6.OkK.finish (f := { f1 with now := t1 }) HFI.out
    have HG := Px.hid (And.intro hfo (And.intro (show 1 ≤ (J6.finish { f1 with now := t1 }).n by rw [hk.2.1]; exact HM.out.2.1) hk.2.2))
    clear hA hk hfo
    go_wp2_with fail
    refine (After.bind HA2.out (fun F1 h1 => structure_any b c (J6.finish { f1 with now := t1 }) F1 _ h1 HG.out.1 HG.out.2.1 HG.out.2.2)).mono ?_
    rintro e w3 ⟨rfl, hA⟩
    have HA3 := Px.hid hA
    clear hA
    go_wp2
    go_end0
    rw [HT.out]
    exact ⟨rfl, HA3.out⟩
set_option maxRecDepth 100000 in
set_option maxHeartbeats 4000000 in
theorem take_none (b : Nat) (c : UInt8) (f : J6.Feed) (F : Nat → Prop) (w : World) (h : FeedAt w b f F) (hok : J6.OkK 0 f) (hn : ¬ (f.n : Int) = f.lim.b) (hnow : f.now = .none) :
    Calls Try.prog 20 #[.pointer (some ⟨b, 0, none⟩), .int .u8 c.toNat] w fun e w' => e = .returned (.tuple #[]) ∧ After w w' b (J6.takeC f c) F := by
  have hm := hok.more hn
  have hmp := J6.may_parts6 hok.may
  have hnb := hok.nb
  have hw1 : IntKind.i64.wrap ((f.n : Int) + 1) = (f.n : Int) + 1 := IntWalk.i64_in _ ⟨by omega, by omega⟩
  have hT : J6.takeC f c = J6.structure_ { f with n := f.n + 1 } c := by unfold J6.takeC; simp only; rw [hnow]
  obtain ⟨f1, hf1⟩ : ∃ f1 : J6.Feed, f1 = { f with n := f.n + 1 } := ⟨_, rfl⟩
  have hT1 : J6.takeC f c = J6.structure_ f1 c := by rw [hT, hf1]
  rw [← hf1] at hm
  have hnow1 : f1.now = .none := by rw [hf1]; exact hnow
  have hn1 : 1 ≤ f1.n := by rw [hf1]; show 1 ≤ f.n + 1; omega
  have c4 : w.cell? ⟨b, 4, none⟩ = some (.int .i64 (f.n : Nat)) := h.c7.2.2
  have f4 : w.frozen? ⟨b, 4, none⟩ = false := by obtain ⟨vo, vs, tv, tb, ps, h, hF⟩ := h; exact h.free 4
  have hb : b < w.heap.size := h.lt b h.own
  have hA1 : FeedAt (w.setCell ⟨b, 4, none⟩ (.int .i64 ((f.n : Int) + 1))) b f1 F ∧ Fr F w (w.setCell ⟨b, 4, none⟩ (.int .i64 ((f.n : Int) + 1))) := by
    rw [hf1]
    obtain ⟨vo, vs, tv, tb, ps, h, hF⟩ := h
    refine ⟨⟨vo, vs, tv, tb, ps, ?_, hF⟩, ?_⟩
    · refine h.set 4 (.int .i64 ((f.n : Int) + 1)) { f with n := f.n + 1 } ?_ rfl rfl rfl
      have e : ((f.n : Int) + 1) = ((f.n + 1 : Nat) : Int) := by omega
      rw [e]
      rfl
    · rw [hF]
      exact (Fr.refl _ w).setCell (p := ⟨b, 4, none⟩) (.inl (.inl rfl)) _
  have c8' : (w.setCell ⟨b, 4, none⟩ (.int .i64 ((f.n : Int) + 1))).cell? ⟨b, 8, none⟩ = some .nilIface := (hA1.1.c8 hnow1).1
  have HA1 := Px.hid hA1
  have HT := Px.hid hT1
  have HM := Px.hid (And.intro hm (And.intro hn1 hnow1))
  clear h hok hn hnow hm hmp hnb hT hT1 hf1 hnow1 hn1 hA1
  go_enter Try.func20, Try.ntmps20
  go_wp2_with fail
  refine (structure_any b c f1 F _ HA1.out.1 (HM.out.1.less (Nat.zero_le 1)) HM.out.2.1 HM.out.2.2).mono ?_
  rintro e w2 ⟨rfl, hA⟩
  have HA := Px.hid (After.ofFr HA1.out.2 hA)
  clear hA c8' c4 f4
  go_wp2
  go_end0
  rw [HT.out]
  exact ⟨rfl, HA.out⟩
/-- take, whole. -/
theorem take_any (b : Nat) (c : UInt8) (f : J6.Feed) (F : Nat → Prop) (w : World) (h : FeedAt w b f F) (hok : J6.OkK 0 f) (hn : ¬ (f.n : Int) = f.lim.b) :
    Calls Try.prog 20 #[.pointer (some ⟨b, 0, none⟩), .int .u8 c.toNat] w fun e w' => e = .returned (.tuple #[]) ∧ After w w' b (J6.takeC f c) F := by
  cases hnow : f.now with
  | none => exact take_none b c f F w h hok hn hnow
  | word r => exact take_word b c f r F w h hok hn hnow
  | num q t => exact take_number b c f q t F w h hok hn hnow
  | str t => exact take_text b c f t F w h hok hn hnow
end Go.Proofs.Ytahojodgmjmpnaa

/-! The walks over jsonfeed's Write, New, State; and of a nil and a zero feed. -/
namespace Go.Proofs.Ytahojodgmjmpnaa
open Go.RowKit Go.Px

theorem FeedAt.cells {w : World} {b : Nat} {f : J6.Feed} {F : Nat → Prop} (h : FeedAt w b f F) : w.cell? ⟨b, 2, none⟩ = some (.int .i64 f.lim.b) ∧ w.cell? ⟨b, 4, none⟩ = some (.int .i64 (f.n : Nat)) ∧ w.cell? ⟨b, 9, none⟩ = some (.int .i64 f.err) ∧ w.cell? ⟨b, 10, none⟩ = some (.int .i64 f.at_) ∧ w.cell? ⟨b, 7, none⟩ = some (.int .i64 (f.next : Nat)) := by
  obtain ⟨vo, vs, tv, tb, ps, h, rfl⟩ := h
  exact ⟨cellOf h.blk 2 rfl, cellOf h.blk 4 rfl, cellOf h.blk 9 rfl, cellOf h.blk 10 rfl, cellOf h.blk 7 rfl⟩
theorem After.at {w w1 : World} {b : Nat} {f : J6.Feed} {F : Nat → Prop} (h : After w w1 b f F) : ∃ F1, FeedAt w1 b f F1 := by
  obtain ⟨F1, h1, _⟩ := h
  exact ⟨F1, h1⟩
theorem After.draws {w w1 : World} {b : Nat} {f : J6.Feed} {F : Nat → Prop} (h : After w w1 b f F) (n : Nat) : After w (w1.drewN n) b f F := by
  obtain ⟨F1, a1, a2, a3⟩ := h
  refine ⟨F1, ?_, a2.drewN n, a3⟩
  obtain ⟨v1, v2, v3, v4, v5, v6, v7⟩ := a1
  exact ⟨v1, v2, v3, v4, v5, v6.drewN n, v7⟩
theorem write_drop (f : J6.Feed) (s : List UInt8) (k : Nat) (hk : k < s.length) (h : f.err = 0) : J6.write f (s.drop k) = J6.write (J6.byte f s[k]) (s.drop (k + 1)) := by
  rw [List.drop_eq_getElem_cons hk, J6.write_cons, if_pos (by rw [h]; rfl)]
theorem write_err (f : J6.Feed) {s : List UInt8} (h : f.err ≠ 0) : J6.write f s = f := J6.write_stop (by simpa using h) s
set_option maxRecDepth 100000 in
set_option maxHeartbeats 4000000 in
theorem write_any (b : Nat) (f : J6.Feed) (s : List UInt8) (F : Nat → Prop) (w : World) (h : FeedAt w b f F) (hok : J6.Fits f) (hs : s.length ≤ maxLen) :
    Calls Try.prog 11 #[.pointer (some ⟨b, 0, none⟩), S s] w fun r w' => r = .returned (.int .i64 (J6.write f s).err) ∧ After w w' b (J6.write f s) F := by
  unfold maxLen at hs
  have hm := J6.may_parts6 hok.may
  have c2 : w.cell? ⟨b, 2, none⟩ = some (.int .i64 f.lim.b) := h.cells.1
  have h0 : (f.lim.b == 0) = false := by simp; omega
  have hsz : (ByteArray.mk s.toArray).size = s.length := size_S s
  have H := Px.hid (And.intro h hok)
  clear h hok hm
  go_enter Try.func11, Try.ntmps11
  go_wp2
  go_loopw [5] (fun i wr => ∃ k q, k ≤ s.length ∧ i = .int .i64 (k : Nat) ∧ After w wr b q F ∧ J6.Fits q ∧ J6.write f s = J6.write q (s.drop k)) (fun i _ => s.length - (intOf i).toNat)
  case atStart => exact ⟨0, f, Nat.zero_le _, rfl, After.refl H.out.1, H.out.2, by simp⟩
  case round =>
    obtain ⟨k, q, hk, rfl, hq, hok, hwr⟩ := hrel
    have HOK := Px.hid hok
    have HWR := Px.hid hwr
    have HQ := Px.hid hq
    clear hok hwr H c2 h0 hq
    obtain ⟨F1, hF1⟩ := HQ.out.at
    have c9 : wr.cell? ⟨b, 9, none⟩ = some (.int .i64 q.err) := hF1.cells.2.2.1
    have c4 : wr.cell? ⟨b, 4, none⟩ = some (.int .i64 (q.n : Nat)) := hF1.cells.2.1
    have c2 : wr.cell? ⟨b, 2, none⟩ = some (.int .i64 q.lim.b) := hF1.cells.1
    clear hF1
    by_cases hlt : k < s.length
    · have hltz : (k : Int) < (s.length : Int) := by omega
      by_cases he : q.err = 0
      · have he' : (q.err == 0) = true := by simpa using he
        have HWR := Px.hid (HWR.out.trans (write_drop q s k hlt he))
        have HOKB := Px.hid (HOK.out.byte he s[k])
        obtain ⟨c, hc⟩ : ∃ c, s[k] = c := ⟨_, rfl⟩
        rw [hc] at HWR HOKB
        have hidx : ∀ w', (Instr.index 9 (S s) (.int .i64 (k : Int))).run Try.prog w' = .ok (.int .u8 c.toNat) w' := fun w' => by
          have e := idx_S s k hlt w'
          have hg : s.getD k 0 = c := by rw [← hc]; simp [hlt]
          rw [hg] at e
          exact e
        have HE := Px.hid (And.intro (HOK.out.ok he) hlt)
        clear he hc
        rcases Bool.eq_false_or_eq_true ((q.n : Int) == q.lim.b) with hd | hd
        · have HB := Px.hid (show J6.byte q c = J6.wrong q q.lim.b 10 by unfold J6.byte; rw [if_pos hd])
          go_wp2_with fail
          go_quiet (fail)
          have HX := Px.hid (HQ.out.draws nq)
          obtain ⟨WX, hWX⟩ : ∃ WX, WX = wr.drewN nq := ⟨_, rfl⟩
          rw [← hWX] at HX ⊢
          clear hWX c2 c4 c9
          have c2 : WX.cell? ⟨b, 2, none⟩ = some (.int .i64 q.lim.b) := by obtain ⟨F1, hF1⟩ := HX.out.at; exact hF1.cells.1
          go_wp2_with fail
          refine (After.bind HX.out (fun F1 h1 => (wrong_any b q.lim.b 10 q F1 _ h1).mono (fun r w' h => ⟨h.1, F1, h.2.1, h.2.2, Fresh.refl _ _⟩))).mono ?_
          rintro e w' ⟨rfl, hA⟩
          have c9 : w'.cell? ⟨b, 9, none⟩ = some (.int .i64 10) := by obtain ⟨F1, hF1⟩ := hA.at; exact hF1.cells.2.2.1
          have HA := Px.hid hA
          clear hA
          go_wp2
          go_ret
          rw [HB.out] at HWR HOKB
          rw [HWR.out, write_err _ (by simp [J6.wrong])]
          exact ⟨rfl, HA.out⟩
        · have hd' : ¬ (q.n : Int) = q.lim.b := by simpa using hd
          have HB := Px.hid (show J6.byte q c = J6.takeC q c by unfold J6.byte; rw [if_neg (by rw [hd]; simp)])
          have HD := Px.hid hd'
          clear hd'
          go_wp2_with fail
          go_quiet (fail)
          go_wp2_with fail
          refine (After.bind (HQ.out.draws nq) (fun F1 h1 => take_any b c q F1 _ h1 HE.out.1 HD.out)).mono ?_
          rintro e w' ⟨rfl, hA⟩
          have HA := Px.hid hA
          clear hA
          go_wp2
          go_roundw
          case rel =>
            refine ⟨k + 1, J6.takeC q c, HE.out.2, by go_num, HA.out, ?_, ?_⟩
            · have := HOKB.out; rw [HB.out] at this; exact this
            · rw [HWR.out, HB.out]
          case measure => have := HE.out.2; simp [intOf]; omega
      · have he' : (q.err == 0) = false := by simpa using he
        have HWE := Px.hid (HWR.out.trans (write_err _ he))
        clear he
        go_wp2
        go_ret
        rw [HWE.out]
        exact ⟨rfl, HQ.out⟩
    · have hlt' : ¬ (k : Int) < (s.length : Int) := by omega
      have HWE := Px.hid (HWR.out.trans (by rw [List.drop_eq_nil_of_le (by omega)]; rfl : J6.write q (s.drop k) = q))
      go_wp2
      go_ret
      rw [HWE.out]
      exact ⟨rfl, HQ.out⟩
theorem state_any (b : Nat) (f : J6.Feed) (F : Nat → Prop) (w : World) (h : FeedAt w b f F) :
    Calls Try.prog 15 #[.pointer (some ⟨b, 0, none⟩)] w fun e w' => e = .returned (.tuple #[.int .i64 (f.n : Nat), .int .i64 f.stack.length]) ∧ Same w w' := by
  obtain ⟨vo, vs, tv, tb, ps, h, rfl⟩ := h
  obtain ⟨sa, sc, hsv, _⟩ := h.stackLen
  have c4 : w.cell? ⟨b, 4, none⟩ = some (.int .i64 (f.n : Nat)) := cellOf h.blk 4 rfl
  have c6 : w.cell? ⟨b, 6, none⟩ = some (.slice sa f.stack.length sc) := by rw [← hsv]; exact cellOf h.blk 6 rfl
  clear hsv h
  go_enter Try.func15, Try.ntmps15
  go_wp2_with fail
  go_quiet (fail)
  go_wp2
  go_ret2
  exact ⟨rfl, (Fr.refl _ w).drewN nq⟩
theorem state_nil (w : World) : Calls Try.prog 15 #[.pointer none] w fun e w' => e = .returned (.tuple #[.int .i64 0, .int .i64 0]) ∧ Same w w' := by
  go_enter Try.func15, Try.ntmps15
  go_wp2
  go_ret2
  exact ⟨rfl, Same.refl w⟩
theorem end_nil (w : World) : Calls Try.prog 13 #[.pointer none] w fun e w' => e = .returned (.tuple #[.slice none 0 0, .int .i64 0, .int .i64 1]) ∧ Same w w' := by
  go_enter Try.func13, Try.ntmps13
  go_wp2
  go_ret3
  exact ⟨rfl, Same.refl w⟩
theorem write_nil (s : List UInt8) (w : World) : Calls Try.prog 11 #[.pointer none, S s] w fun e w' => e = .returned (.int .i64 1) ∧ Same w w' := by
  go_enter Try.func11, Try.ntmps11
  go_wp2
  go_ret
  exact ⟨rfl, Same.refl w⟩
theorem end_zero (b : Nat) (w : World) (c2 : w.cell? ⟨b, 2, none⟩ = some (.int .i64 0)) : Calls Try.prog 13 #[.pointer (some ⟨b, 0, none⟩)] w fun e w' => e = .returned (.tuple #[.slice none 0 0, .int .i64 0, .int .i64 1]) ∧ Same w w' := by
  go_enter Try.func13, Try.ntmps13
  go_wp2
  go_ret3
  exact ⟨rfl, Same.refl w⟩
theorem write_zero (b : Nat) (s : List UInt8) (w : World) (c2 : w.cell? ⟨b, 2, none⟩ = some (.int .i64 0)) : Calls Try.prog 11 #[.pointer (some ⟨b, 0, none⟩), S s] w fun e w' => e = .returned (.int .i64 1) ∧ Same w w' := by
  go_enter Try.func11, Try.ntmps11
  go_wp2
  go_ret
  exact ⟨rfl, Same.refl w⟩
theorem new_no (l : Lim) (w : World) (hm : l.may = false) : Calls Try.prog 9 #[limV l] w fun e w' => e = .returned (.tuple #[.pointer none, .int .i64 2]) ∧ Same w w' := by
  have H := Px.hid hm
  clear hm
  unfold limV
  go_enter Try.func9, Try.ntmps9
  go_wp2_with fail
  refine (derMay_any l _).mono ?_
  rintro e w' ⟨rfl, hs⟩
  have HS := Px.hid (Same.trans ((Fr.refl (fun _ => False) w).alloc _) hs)
  clear hs
  rw [H.out]
  go_wp2
  go_ret2
  exact ⟨rfl, HS.out⟩
theorem new_yes (l : Lim) (w : World) (hm : l.may = true) : Calls Try.prog 9 #[limV l] w fun e w' => ∃ b, e = .returned (.tuple #[.pointer (some ⟨b, 0, none⟩), .int .i64 0]) ∧ Same w w' ∧ w.heap.size ≤ b ∧ FeedAt w' b (J6.init l) (fun k => k = b) := by
  have H := Px.hid hm
  clear hm
  unfold limV
  go_enter Try.func9, Try.ntmps9
  go_wp2_with fail
  refine (derMay_any l _).mono ?_
  rintro e w' ⟨rfl, hs⟩
  have HS := Px.hid (Same.trans ((Fr.refl (fun _ => False) w).alloc _) hs)
  have c0 : w'.cell? ⟨w.heap.size, 0, none⟩ = some (.int .i64 l.d) := (hs.cell (p := ⟨w.heap.size, 0, none⟩) (by simp) (fun x => x)).trans (cellOf (heap_alloc_new w _) 0 rfl)
  have c1 : w'.cell? ⟨w.heap.size, 1, none⟩ = some (.int .i64 l.i) := (hs.cell (p := ⟨w.heap.size, 1, none⟩) (by simp) (fun x => x)).trans (cellOf (heap_alloc_new w _) 1 rfl)
  have c2 : w'.cell? ⟨w.heap.size, 2, none⟩ = some (.int .i64 l.b) := (hs.cell (p := ⟨w.heap.size, 2, none⟩) (by simp) (fun x => x)).trans (cellOf (heap_alloc_new w _) 2 rfl)
  have c3 : w'.cell? ⟨w.heap.size, 3, none⟩ = some (.int .i64 l.r) := (hs.cell (p := ⟨w.heap.size, 3, none⟩) (by simp) (fun x => x)).trans (cellOf (heap_alloc_new w _) 3 rfl)
  clear hs
  rw [H.out]
  go_wp2
  go_ret2
  refine ⟨w'.heap.size, rfl, HS.out.alloc _, HS.out.size, .slice none 0 0, .slice none 0 0, .nilIface, [], [], ⟨heap_alloc_new w' _, ⟨owns_nil _ _ _ _, owns_nil _ _ _ _, rfl, (fun p hp => by cases hp), ⟨rfl, rfl⟩, ?_⟩, ?_⟩, ?_⟩
  · simp [blocks, nmBlocks, Value.ownBlock, Apart]
  · simp [blocks, nmBlocks, Value.ownBlock]
  · funext k; simp [foot, blocks, nmBlocks, Value.ownBlock]
end Go.Proofs.Ytahojodgmjmpnaa

/-! The walk over jsonfeed's End (printed by gen_yp.py). -/
namespace Go.Px
open Go.RowKit
theorem wpList_append_none {P : Program} {w : World} {ops : Array Oper} {rest : List Oper} {o : Oper} {a : Act} {Q : Exit → Act → World → Prop} (hgd : o.guard = none) (s x : Operand) (t tx : TypeId)
    (ho : o.op = .call { callee := .builtin .append, args := #[s, x], argTypes := #[t, tx] }) (e : TypeId) (i : TypeInfo) (ht : P.underlying t = some (.slice e)) (hi : P.info? e = some i) (hs : a.eval s = .slice none 0 0)
    (vx : Value) (hx : a.eval x = vx) (hsrc : Src P i.size tx vx 0 [] w) (h : wpList P ops Q rest (a.put o.dst (.slice none 0 0)) w) : wpList P ops Q (o :: rest) a w :=
  wpList_plain hgd fun _ hK => by
    have hr := run_append_nothing w t tx o.type e i ht hi none 0 0 (Nat.le_refl _) vx hsrc
    unfold Oper.wp execOp
    simp only [ho, resolve, invoke, builtin, Sem.run_bind, Sem.run_pure, Result.andThen_ok, List.map_toArray, List.map_cons, List.map_nil, hs, hx, hr]
    exact hK _ _ h
end Go.Px
namespace Go.Proofs.Ytahojodgmjmpnaa
open Go.RowKit Go.Px
@[go_sem] theorem ta_num_nil (w : World) : (Instr.typeAssert .nilIface 44 58 true).run Try.prog w = .ok (.tuple #[.pointer none, .bool false]) w := by kernel_rfl
theorem val_one (l : List Val) : ∀ u ∈ l.flatMap cVal, u.oneCell' = true := by
  intro u hu
  simp only [List.mem_flatMap] at hu
  obtain ⟨a, _, hu⟩ := hu
  simp only [cVal, List.mem_cons, List.not_mem_nil, or_false] at hu
  rcases hu with rfl | rfl | rfl <;> rfl
/-- What End hands back. -/
def EndPost (w : World) (f : J6.Feed) (e : Ending) (w' : World) : Prop :=
  ∃ v, e = .returned (.tuple #[v, .int .i64 (J6.End f).2.1, .int .i64 (J6.End f).2.2]) ∧ Owns w' 64 3 cVal v (J6.End f).1 ∧ Same w w' ∧ (∀ k, v.ownBlock = some k → w.heap.size ≤ k)
theorem EndPost.none {w w' : World} {f : J6.Feed} {p e : Int} (hE : J6.End f = ([], p, e)) (hs : Same w w') : EndPost w f (.returned (.tuple #[.slice none 0 0, .int .i64 p, .int .i64 e])) w' :=
  ⟨_, by rw [hE], by rw [hE]; exact owns_nil _ _ _ _, hs, fun k hk => by simp [Value.ownBlock] at hk⟩
theorem EndPost.some {w w' : World} {f : J6.Feed} {v : Value} {l : List Val} (hE : J6.End f = (l, 0, 0)) (hv : Owns w' 64 3 cVal v l) (hs : Same w w') (hf : ∀ k, v.ownBlock = some k → w.heap.size ≤ k) : EndPost w f (.returned (.tuple #[v, .int .i64 0, .int .i64 0])) w' :=
  ⟨_, by rw [hE], by rw [hE]; exact hv, hs, hf⟩
set_option maxRecDepth 100000 in
set_option maxHeartbeats 4000000 in
theorem end_err (b : Nat) (f : J6.Feed) (F : Nat → Prop) (w : World) (h : FeedAt w b f F) (hb0 : f.lim.b ≠ 0) (he : f.err ≠ 0) :
    Calls Try.prog 13 #[.pointer (some ⟨b, 0, none⟩)] w (EndPost w f) := by
  have h0 : (f.lim.b == 0) = false := by simpa using hb0
  obtain ⟨vo, vs, tv, tb, ps, h, hF⟩ := h
  have c2 : w.cell? ⟨b, 2, none⟩ = some (.int .i64 f.lim.b) := cellOf h.blk 2 rfl
  have c9 : w.cell? ⟨b, 9, none⟩ = some (.int .i64 f.err) := cellOf h.blk 9 rfl
  clear hb0
  have he2 : (f.err != 0) = true := by simp [he]
  have HE := Px.hid (show J6.End f = ([], f.at_, f.err) by unfold J6.End; rw [if_pos he2])
  have c10 : w.cell? ⟨b, 10, none⟩ = some (.int .i64 f.at_) := cellOf h.blk 10 rfl
  clear he h hF
  go_enter Try.func13, Try.ntmps13
  go_wp2_with fail
  go_quiet (fail)
  go_wp2
  go_ret3
  exact EndPost.none HE.out ((Fr.refl _ w).drewN nq)
set_option maxRecDepth 100000 in
set_option maxHeartbeats 4000000 in
theorem end_done_e (b : Nat) (f : J6.Feed) (F : Nat → Prop) (w : World) (h : FeedAt w b f F) (hb0 : f.lim.b ≠ 0) (he : f.err = 0) (hnow : f.now = .none) (hnx : f.next = 6) (hout : f.out = []) :
    Calls Try.prog 13 #[.pointer (some ⟨b, 0, none⟩)] w (EndPost w f) := by
  have h0 : (f.lim.b == 0) = false := by simpa using hb0
  obtain ⟨vo, vs, tv, tb, ps, h, hF⟩ := h
  have c2 : w.cell? ⟨b, 2, none⟩ = some (.int .i64 f.lim.b) := cellOf h.blk 2 rfl
  have c9 : w.cell? ⟨b, 9, none⟩ = some (.int .i64 f.err) := cellOf h.blk 9 rfl
  clear hb0
  rw [he] at c9
  have hne0 : (f.err != 0) = false := by simp [he]
  have HOUT := Px.hid hout
  have HE := Px.hid (show J6.End f = (f.out, 0, 0) by unfold J6.End; rw [if_neg (by rw [hne0]; simp), hnow]; simp only; rw [if_pos (by rw [hnx]; rfl)])
  have htv : tv = .nilIface := by have := h.parts.tok; rw [hnow] at this; exact this.1
  subst htv
  clear hnow hne0
  obtain ⟨oa, oc, hov, _⟩ := h.parts.out.len
  have c5 : w.cell? ⟨b, 5, none⟩ = some (.slice oa 0 oc) := by rw [show (Value.slice oa 0 oc) = vo by rw [hov, hout]; rfl]; exact cellOf h.blk 5 rfl
  obtain ⟨i0, hi0, hz0, hz1, hz2⟩ := info_parts Try.infoVal
  have hsrc : Src Try.prog i0.size 32 (.slice oa 0 oc) 0 [] w := by
    cases oa with
    | none => exact Src.ofNil w Try.underlying32 oc
    | some ad => exact Src.ofSlice w Try.underlying32 ad 0 oc [] (by simp) (fun j u hu => by simp at hu) (fun u hu => by cases hu)
  have c8 : w.cell? ⟨b, 8, none⟩ = some (.nilIface) := cellOf h.blk 8 rfl
  have c7 : w.cell? ⟨b, 7, none⟩ = some (.int .i64 (f.next : Nat)) := cellOf h.blk 7 rfl
  have c4 : w.cell? ⟨b, 4, none⟩ = some (.int .i64 (f.n : Nat)) := cellOf h.blk 4 rfl
  rw [hnx] at c7
  have HSR := Px.hid hsrc
  clear h hF hov he hsrc hout
  go_enter Try.func13, Try.ntmps13
  go_wp2_with (at_builtin; go_must (refine wpList_append_none rfl _ _ 32 32 rfl 64 i0 Try.underlying32 hi0 rfl (.slice oa 0 oc) rfl HSR.out ?_))
  go_wp2
  go_ret3
  exact EndPost.some HE.out (by rw [HOUT.out]; exact owns_nil _ _ _ _) (Same.refl w) (fun k hk => by simp [Value.ownBlock] at hk)
set_option maxRecDepth 100000 in
set_option maxHeartbeats 4000000 in
theorem end_done_f (b : Nat) (f : J6.Feed) (F : Nat → Prop) (w : World) (h : FeedAt w b f F) (hb0 : f.lim.b ≠ 0) (he : f.err = 0) (hol : f.out.length ≤ 4096) (hnow : f.now = .none) (hnx : f.next = 6) (hout : f.out ≠ []) :
    Calls Try.prog 13 #[.pointer (some ⟨b, 0, none⟩)] w (EndPost w f) := by
  have h0 : (f.lim.b == 0) = false := by simpa using hb0
  obtain ⟨vo, vs, tv, tb, ps, h, hF⟩ := h
  have c2 : w.cell? ⟨b, 2, none⟩ = some (.int .i64 f.lim.b) := cellOf h.blk 2 rfl
  have c9 : w.cell? ⟨b, 9, none⟩ = some (.int .i64 f.err) := cellOf h.blk 9 rfl
  clear hb0
  rw [he] at c9
  have hne0 : (f.err != 0) = false := by simp [he]
  have HE := Px.hid (show J6.End f = (f.out, 0, 0) by unfold J6.End; rw [if_neg (by rw [hne0]; simp), hnow]; simp only; rw [if_pos (by rw [hnx]; rfl)])
  have htv : tv = .nilIface := by have := h.parts.tok; rw [hnow] at this; exact this.1
  subst htv
  clear hnow hne0
  obtain ⟨m, a, hm, ha⟩ := last_of hout
  obtain ⟨g, oc, hov, _, _, _, _, _, _⟩ := h.val ha
  have c5 : w.cell? ⟨b, 5, none⟩ = some (.slice (some ⟨g, 0, none⟩) f.out.length oc) := by rw [← hov]; exact cellOf h.blk 5 rfl
  have hpos : 0 < f.out.length := by omega
  have hown : w.ownsRow 0 64 3 (.slice (some ⟨g, 0, none⟩) f.out.length oc) f.out.length (f.out.flatMap cVal) := by have := h.parts.out; rw [hov] at this; exact this
  have HC := Px.hid (hown.cells (g := g) rfl)
  obtain ⟨i0, hi0, hz0, hz1, hz2⟩ := info_parts Try.infoVal
  have HX := Px.hid (And.intro h (And.intro hm ha))
  clear h hF hov he hown hout hm ha
  go_enter Try.func13, Try.ntmps13
  go_wp2_with (at_builtin; go_must (refine wpList_append_lies _ rfl _ _ _ rfl 0 64 i0 _ 3 32 Try.underlying32 hi0 hz0 hz1 hz2 rfl (by omega) (.slice none 0 0) 0 [] rfl (World.ownsRow_nil _ _ _ _) ⟨g, 0, none⟩ f.out.length oc (f.out.flatMap cVal) rfl (flat_len cVal_len _) HC.out (val_one _) hpos (by unfold maxLen; omega) (by omega) (by omega) w.heap.size rfl ?_))
  intro gg cap w1 hown1 hgrow hat hlt
  have hS : Same w w1 := (Fr.refl _ w).grown hgrow (fun k e => by simp [Value.ownBlock] at e)
  have hv : Owns w1 64 3 cVal (.slice (some ⟨gg, 0, none⟩) f.out.length cap) f.out := by
    unfold Owns
    simpa using hown1
  have hge : w.heap.size ≤ gg := by
    rcases hat with e | e
    · simp [Value.ownBlock] at e
    · omega
  have h := HX.out.1.same hS
  have c8 : w1.cell? ⟨b, 8, none⟩ = some (.nilIface) := cellOf h.blk 8 rfl
  have c7 : w1.cell? ⟨b, 7, none⟩ = some (.int .i64 (f.next : Nat)) := cellOf h.blk 7 rfl
  have c4 : w1.cell? ⟨b, 4, none⟩ = some (.int .i64 (f.n : Nat)) := cellOf h.blk 4 rfl
  rw [hnx] at c7
  have HW := Px.hid (And.intro hS (And.intro hv hge))
  clear hown1 hgrow hat hlt hS hv hge h HC c5
  go_wp2
  go_ret3
  exact EndPost.some HE.out HW.out.2.1 HW.out.1 (fun k hk => by have e : gg = k := Option.some.inj hk; have := HW.out.2.2; omega)
set_option maxRecDepth 100000 in
set_option maxHeartbeats 4000000 in
theorem end_open_e (b : Nat) (f : J6.Feed) (F : Nat → Prop) (w : World) (h : FeedAt w b f F) (hb0 : f.lim.b ≠ 0) (he : f.err = 0) (hnow : f.now = .none) (hnx : f.next ≠ 6) (hout : f.out = []) :
    Calls Try.prog 13 #[.pointer (some ⟨b, 0, none⟩)] w (EndPost w f) := by
  have h0 : (f.lim.b == 0) = false := by simpa using hb0
  obtain ⟨vo, vs, tv, tb, ps, h, hF⟩ := h
  have c2 : w.cell? ⟨b, 2, none⟩ = some (.int .i64 f.lim.b) := cellOf h.blk 2 rfl
  have c9 : w.cell? ⟨b, 9, none⟩ = some (.int .i64 f.err) := cellOf h.blk 9 rfl
  clear hb0
  rw [he] at c9
  have hne0 : (f.err != 0) = false := by simp [he]
  have HE := Px.hid (show J6.End f = ([], (f.n : Int), 9) by unfold J6.End; rw [if_neg (by rw [hne0]; simp), hnow]; simp only; rw [if_neg (by simpa using hnx)])
  have htv : tv = .nilIface := by have := h.parts.tok; rw [hnow] at this; exact this.1
  subst htv
  have n6 : ((f.next : Int) != 6) = true := by simp; omega
  clear hnow hne0 hnx
  obtain ⟨oa, oc, hov, _⟩ := h.parts.out.len
  have c5 : w.cell? ⟨b, 5, none⟩ = some (.slice oa 0 oc) := by rw [show (Value.slice oa 0 oc) = vo by rw [hov, hout]; rfl]; exact cellOf h.blk 5 rfl
  obtain ⟨i0, hi0, hz0, hz1, hz2⟩ := info_parts Try.infoVal
  have hsrc : Src Try.prog i0.size 32 (.slice oa 0 oc) 0 [] w := by
    cases oa with
    | none => exact Src.ofNil w Try.underlying32 oc
    | some ad => exact Src.ofSlice w Try.underlying32 ad 0 oc [] (by simp) (fun j u hu => by simp at hu) (fun u hu => by cases hu)
  have c8 : w.cell? ⟨b, 8, none⟩ = some (.nilIface) := cellOf h.blk 8 rfl
  have c7 : w.cell? ⟨b, 7, none⟩ = some (.int .i64 (f.next : Nat)) := cellOf h.blk 7 rfl
  have c4 : w.cell? ⟨b, 4, none⟩ = some (.int .i64 (f.n : Nat)) := cellOf h.blk 4 rfl
  have HSR := Px.hid hsrc
  clear h hF hov he hsrc hout
  go_enter Try.func13, Try.ntmps13
  go_wp2_with (at_builtin; go_must (refine wpList_append_none rfl _ _ 32 32 rfl 64 i0 Try.underlying32 hi0 rfl (.slice oa 0 oc) rfl HSR.out ?_))
  go_wp2_with fail
  go_quiet (fail)
  go_wp2
  go_ret3
  exact EndPost.none HE.out ((Same.refl w).drewN nq)
set_option maxRecDepth 100000 in
set_option maxHeartbeats 4000000 in
theorem end_open_f (b : Nat) (f : J6.Feed) (F : Nat → Prop) (w : World) (h : FeedAt w b f F) (hb0 : f.lim.b ≠ 0) (he : f.err = 0) (hol : f.out.length ≤ 4096) (hnow : f.now = .none) (hnx : f.next ≠ 6) (hout : f.out ≠ []) :
    Calls Try.prog 13 #[.pointer (some ⟨b, 0, none⟩)] w (EndPost w f) := by
  have h0 : (f.lim.b == 0) = false := by simpa using hb0
  obtain ⟨vo, vs, tv, tb, ps, h, hF⟩ := h
  have c2 : w.cell? ⟨b, 2, none⟩ = some (.int .i64 f.lim.b) := cellOf h.blk 2 rfl
  have c9 : w.cell? ⟨b, 9, none⟩ = some (.int .i64 f.err) := cellOf h.blk 9 rfl
  clear hb0
  rw [he] at c9
  have hne0 : (f.err != 0) = false := by simp [he]
  have HE := Px.hid (show J6.End f = ([], (f.n : Int), 9) by unfold J6.End; rw [if_neg (by rw [hne0]; simp), hnow]; simp only; rw [if_neg (by simpa using hnx)])
  have htv : tv = .nilIface := by have := h.parts.tok; rw [hnow] at this; exact this.1
  subst htv
  have n6 : ((f.next : Int) != 6) = true := by simp; omega
  clear hnow hne0 hnx
  obtain ⟨m, a, hm, ha⟩ := last_of hout
  obtain ⟨g, oc, hov, _, _, _, _, _, _⟩ := h.val ha
  have c5 : w.cell? ⟨b, 5, none⟩ = some (.slice (some ⟨g, 0, none⟩) f.out.length oc) := by rw [← hov]; exact cellOf h.blk 5 rfl
  have hpos : 0 < f.out.length := by omega
  have hown : w.ownsRow 0 64 3 (.slice (some ⟨g, 0, none⟩) f.out.length oc) f.out.length (f.out.flatMap cVal) := by have := h.parts.out; rw [hov] at this; exact this
  have HC := Px.hid (hown.cells (g := g) rfl)
  obtain ⟨i0, hi0, hz0, hz1, hz2⟩ := info_parts Try.infoVal
  have HX := Px.hid (And.intro h (And.intro hm ha))
  clear h hF hov he hown hout hm ha
  go_enter Try.func13, Try.ntmps13
  go_wp2_with (at_builtin; go_must (refine wpList_append_lies _ rfl _ _ _ rfl 0 64 i0 _ 3 32 Try.underlying32 hi0 hz0 hz1 hz2 rfl (by omega) (.slice none 0 0) 0 [] rfl (World.ownsRow_nil _ _ _ _) ⟨g, 0, none⟩ f.out.length oc (f.out.flatMap cVal) rfl (flat_len cVal_len _) HC.out (val_one _) hpos (by unfold maxLen; omega) (by omega) (by omega) w.heap.size rfl ?_))
  intro gg cap w1 hown1 hgrow hat hlt
  have hS : Same w w1 := (Fr.refl _ w).grown hgrow (fun k e => by simp [Value.ownBlock] at e)
  have hv : Owns w1 64 3 cVal (.slice (some ⟨gg, 0, none⟩) f.out.length cap) f.out := by
    unfold Owns
    simpa using hown1
  have hge : w.heap.size ≤ gg := by
    rcases hat with e | e
    · simp [Value.ownBlock] at e
    · omega
  have h := HX.out.1.same hS
  have c8 : w1.cell? ⟨b, 8, none⟩ = some (.nilIface) := cellOf h.blk 8 rfl
  have c7 : w1.cell? ⟨b, 7, none⟩ = some (.int .i64 (f.next : Nat)) := cellOf h.blk 7 rfl
  have c4 : w1.cell? ⟨b, 4, none⟩ = some (.int .i64 (f.n : Nat)) := cellOf h.blk 4 rfl
  have HW := Px.hid (And.intro hS (And.intro hv hge))
  clear hown1 hgrow hat hlt hS hv hge h HC c5
  go_wp2_with fail
  go_quiet (fail)
  go_wp2
  go_ret3
  exact EndPost.none HE.out (HW.out.1.drewN nq)
set_option maxRecDepth 100000 in
set_option maxHeartbeats 4000000 in
theorem end_word (b : Nat) (f : J6.Feed) (r : Bytes) (F : Nat → Prop) (w : World) (h : FeedAt w b f F) (hb0 : f.lim.b ≠ 0) (he : f.err = 0) (hol : f.out.length ≤ 4096) (hnow : f.now = .word r) (hout : f.out ≠ []) :
    Calls Try.prog 13 #[.pointer (some ⟨b, 0, none⟩)] w (EndPost w f) := by
  have h0 : (f.lim.b == 0) = false := by simpa using hb0
  obtain ⟨vo, vs, tv, tb, ps, h, hF⟩ := h
  have c2 : w.cell? ⟨b, 2, none⟩ = some (.int .i64 f.lim.b) := cellOf h.blk 2 rfl
  have c9 : w.cell? ⟨b, 9, none⟩ = some (.int .i64 f.err) := cellOf h.blk 9 rfl
  clear hb0
  rw [he] at c9
  have hne0 : (f.err != 0) = false := by simp [he]
  have HE := Px.hid (show J6.End f = ([], (f.n : Int), 9) by unfold J6.End; rw [if_neg (by rw [hne0]; simp), hnow])
  obtain ⟨kt, htv⟩ : ∃ kt, tv = .iface 107 (.pointer (some ⟨kt, 0, none⟩)) := by
    have ht : TokIs w tv tb (.word r) := by rw [← hnow]; exact h.parts.tok
    obtain ⟨k, x⟩ := ht
    exact ⟨k, x.1⟩
  subst htv
  clear hnow hne0
  obtain ⟨m, a, hm, ha⟩ := last_of hout
  obtain ⟨g, oc, hov, _, _, _, _, _, _⟩ := h.val ha
  have c5 : w.cell? ⟨b, 5, none⟩ = some (.slice (some ⟨g, 0, none⟩) f.out.length oc) := by rw [← hov]; exact cellOf h.blk 5 rfl
  have hpos : 0 < f.out.length := by omega
  have hown : w.ownsRow 0 64 3 (.slice (some ⟨g, 0, none⟩) f.out.length oc) f.out.length (f.out.flatMap cVal) := by have := h.parts.out; rw [hov] at this; exact this
  have HC := Px.hid (hown.cells (g := g) rfl)
  obtain ⟨i0, hi0, hz0, hz1, hz2⟩ := info_parts Try.infoVal
  have HX := Px.hid (And.intro h (And.intro hm ha))
  clear h hF hov he hown hout hm ha
  go_enter Try.func13, Try.ntmps13
  go_wp2_with (at_builtin; go_must (refine wpList_append_lies _ rfl _ _ _ rfl 0 64 i0 _ 3 32 Try.underlying32 hi0 hz0 hz1 hz2 rfl (by omega) (.slice none 0 0) 0 [] rfl (World.ownsRow_nil _ _ _ _) ⟨g, 0, none⟩ f.out.length oc (f.out.flatMap cVal) rfl (flat_len cVal_len _) HC.out (val_one _) hpos (by unfold maxLen; omega) (by omega) (by omega) w.heap.size rfl ?_))
  intro gg cap w1 hown1 hgrow hat hlt
  have hS : Same w w1 := (Fr.refl _ w).grown hgrow (fun k e => by simp [Value.ownBlock] at e)
  have hv : Owns w1 64 3 cVal (.slice (some ⟨gg, 0, none⟩) f.out.length cap) f.out := by
    unfold Owns
    simpa using hown1
  have hge : w.heap.size ≤ gg := by
    rcases hat with e | e
    · simp [Value.ownBlock] at e
    · omega
  have h := HX.out.1.same hS
  have c8 : w1.cell? ⟨b, 8, none⟩ = some (.iface 107 (.pointer (some ⟨kt, 0, none⟩))) := cellOf h.blk 8 rfl
  have c7 : w1.cell? ⟨b, 7, none⟩ = some (.int .i64 (f.next : Nat)) := cellOf h.blk 7 rfl
  have c4 : w1.cell? ⟨b, 4, none⟩ = some (.int .i64 (f.n : Nat)) := cellOf h.blk 4 rfl
  have HW := Px.hid (And.intro hS (And.intro hv hge))
  clear hown1 hgrow hat hlt hS hv hge h HC c5
  go_wp2_with fail
  go_quiet (fail)
  go_wp2
  go_ret3
  exact EndPost.none HE.out (HW.out.1.drewN nq)
set_option maxRecDepth 100000 in
set_option maxHeartbeats 4000000 in
theorem end_str (b : Nat) (f : J6.Feed) (t : J6.Txt) (F : Nat → Prop) (w : World) (h : FeedAt w b f F) (hb0 : f.lim.b ≠ 0) (he : f.err = 0) (hol : f.out.length ≤ 4096) (hnow : f.now = .str t) (hout : f.out ≠ []) :
    Calls Try.prog 13 #[.pointer (some ⟨b, 0, none⟩)] w (EndPost w f) := by
  have h0 : (f.lim.b == 0) = false := by simpa using hb0
  obtain ⟨vo, vs, tv, tb, ps, h, hF⟩ := h
  have c2 : w.cell? ⟨b, 2, none⟩ = some (.int .i64 f.lim.b) := cellOf h.blk 2 rfl
  have c9 : w.cell? ⟨b, 9, none⟩ = some (.int .i64 f.err) := cellOf h.blk 9 rfl
  clear hb0
  rw [he] at c9
  have hne0 : (f.err != 0) = false := by simp [he]
  have HE := Px.hid (show J6.End f = ([], (f.n : Int), 9) by unfold J6.End; rw [if_neg (by rw [hne0]; simp), hnow])
  obtain ⟨kt, htv⟩ : ∃ kt, tv = .iface 87 (.pointer (some ⟨kt, 0, none⟩)) := by
    have ht : TokIs w tv tb (.str t) := by rw [← hnow]; exact h.parts.tok
    obtain ⟨k, x⟩ := ht
    obtain ⟨vt, x⟩ := x
    exact ⟨k, x.1⟩
  subst htv
  clear hnow hne0
  obtain ⟨m, a, hm, ha⟩ := last_of hout
  obtain ⟨g, oc, hov, _, _, _, _, _, _⟩ := h.val ha
  have c5 : w.cell? ⟨b, 5, none⟩ = some (.slice (some ⟨g, 0, none⟩) f.out.length oc) := by rw [← hov]; exact cellOf h.blk 5 rfl
  have hpos : 0 < f.out.length := by omega
  have hown : w.ownsRow 0 64 3 (.slice (some ⟨g, 0, none⟩) f.out.length oc) f.out.length (f.out.flatMap cVal) := by have := h.parts.out; rw [hov] at this; exact this
  have HC := Px.hid (hown.cells (g := g) rfl)
  obtain ⟨i0, hi0, hz0, hz1, hz2⟩ := info_parts Try.infoVal
  have HX := Px.hid (And.intro h (And.intro hm ha))
  clear h hF hov he hown hout hm ha
  go_enter Try.func13, Try.ntmps13
  go_wp2_with (at_builtin; go_must (refine wpList_append_lies _ rfl _ _ _ rfl 0 64 i0 _ 3 32 Try.underlying32 hi0 hz0 hz1 hz2 rfl (by omega) (.slice none 0 0) 0 [] rfl (World.ownsRow_nil _ _ _ _) ⟨g, 0, none⟩ f.out.length oc (f.out.flatMap cVal) rfl (flat_len cVal_len _) HC.out (val_one _) hpos (by unfold maxLen; omega) (by omega) (by omega) w.heap.size rfl ?_))
  intro gg cap w1 hown1 hgrow hat hlt
  have hS : Same w w1 := (Fr.refl _ w).grown hgrow (fun k e => by simp [Value.ownBlock] at e)
  have hv : Owns w1 64 3 cVal (.slice (some ⟨gg, 0, none⟩) f.out.length cap) f.out := by
    unfold Owns
    simpa using hown1
  have hge : w.heap.size ≤ gg := by
    rcases hat with e | e
    · simp [Value.ownBlock] at e
    · omega
  have h := HX.out.1.same hS
  have c8 : w1.cell? ⟨b, 8, none⟩ = some (.iface 87 (.pointer (some ⟨kt, 0, none⟩))) := cellOf h.blk 8 rfl
  have c7 : w1.cell? ⟨b, 7, none⟩ = some (.int .i64 (f.next : Nat)) := cellOf h.blk 7 rfl
  have c4 : w1.cell? ⟨b, 4, none⟩ = some (.int .i64 (f.n : Nat)) := cellOf h.blk 4 rfl
  have HW := Px.hid (And.intro hS (And.intro hv hge))
  clear hown1 hgrow hat hlt hS hv hge h HC c5
  go_wp2_with fail
  go_quiet (fail)
  go_wp2
  go_ret3
  exact EndPost.none HE.out (HW.out.1.drewN nq)
set_option maxRecDepth 100000 in
set_option maxHeartbeats 4000000 in
theorem end_numw (b : Nat) (f : J6.Feed) (q : Nat) (t : Bytes) (F : Nat → Prop) (w : World) (h : FeedAt w b f F) (hb0 : f.lim.b ≠ 0) (he : f.err = 0) (hol : f.out.length ≤ 4096) (hnow : f.now = .num q t) (hout : f.out ≠ []) (hq : q ≤ 8) (hw : R6.numEnd q = false) :
    Calls Try.prog 13 #[.pointer (some ⟨b, 0, none⟩)] w (EndPost w f) := by
  have h0 : (f.lim.b == 0) = false := by simpa using hb0
  obtain ⟨vo, vs, tv, tb, ps, h, hF⟩ := h
  have c2 : w.cell? ⟨b, 2, none⟩ = some (.int .i64 f.lim.b) := cellOf h.blk 2 rfl
  have c9 : w.cell? ⟨b, 9, none⟩ = some (.int .i64 f.err) := cellOf h.blk 9 rfl
  clear hb0
  rw [he] at c9
  have hne0 : (f.err != 0) = false := by simp [he]
  have HE := Px.hid (show J6.End f = ([], (f.n : Int), 9) by unfold J6.End; rw [if_neg (by rw [hne0]; simp), hnow]; simp only; rw [if_neg (by rw [hw]; simp)])
  obtain ⟨kt, vt, htv, htb, hna⟩ : TokIs w tv tb (.num q t) := by rw [← hnow]; exact h.parts.tok
  subst htv
  have HQ := Px.hid hw
  clear hw
  have HNA := Px.hid hna
  have HTB := Px.hid htb
  clear hnow hne0 hna htb
  obtain ⟨m, a, hm, ha⟩ := last_of hout
  obtain ⟨g, oc, hov, _, _, _, _, _, _⟩ := h.val ha
  have c5 : w.cell? ⟨b, 5, none⟩ = some (.slice (some ⟨g, 0, none⟩) f.out.length oc) := by rw [← hov]; exact cellOf h.blk 5 rfl
  have hpos : 0 < f.out.length := by omega
  have hown : w.ownsRow 0 64 3 (.slice (some ⟨g, 0, none⟩) f.out.length oc) f.out.length (f.out.flatMap cVal) := by have := h.parts.out; rw [hov] at this; exact this
  have HC := Px.hid (hown.cells (g := g) rfl)
  obtain ⟨i0, hi0, hz0, hz1, hz2⟩ := info_parts Try.infoVal
  have HX := Px.hid (And.intro h (And.intro hm ha))
  clear h hF hov he hown hout hm ha
  go_enter Try.func13, Try.ntmps13
  go_wp2_with (at_builtin; go_must (refine wpList_append_lies _ rfl _ _ _ rfl 0 64 i0 _ 3 32 Try.underlying32 hi0 hz0 hz1 hz2 rfl (by omega) (.slice none 0 0) 0 [] rfl (World.ownsRow_nil _ _ _ _) ⟨g, 0, none⟩ f.out.length oc (f.out.flatMap cVal) rfl (flat_len cVal_len _) HC.out (val_one _) hpos (by unfold maxLen; omega) (by omega) (by omega) w.heap.size rfl ?_))
  intro gg cap w1 hown1 hgrow hat hlt
  have hS : Same w w1 := (Fr.refl _ w).grown hgrow (fun k e => by simp [Value.ownBlock] at e)
  have hv : Owns w1 64 3 cVal (.slice (some ⟨gg, 0, none⟩) f.out.length cap) f.out := by
    unfold Owns
    simpa using hown1
  have hge : w.heap.size ≤ gg := by
    rcases hat with e | e
    · simp [Value.ownBlock] at e
    · omega
  have h := HX.out.1.same hS
  have c8 : w1.cell? ⟨b, 8, none⟩ = some (.iface 58 (.pointer (some ⟨kt, 0, none⟩))) := cellOf h.blk 8 rfl
  have c7 : w1.cell? ⟨b, 7, none⟩ = some (.int .i64 (f.next : Nat)) := cellOf h.blk 7 rfl
  have c4 : w1.cell? ⟨b, 4, none⟩ = some (.int .i64 (f.n : Nat)) := cellOf h.blk 4 rfl
  have hna : NumAt w1 kt q t vt := by
    exact ⟨HNA.out.blk |> fun x => (hS.block kt (ltOf x) (fun y => y)).trans x, Owns.same HNA.out.text hS, HNA.out.tb⟩
  have HWH := Px.hid (num_whole kt q hq w1 (cellOf hna.blk 0 rfl))
  have n1 : w1.cell? ⟨kt, 1, none⟩ = some vt := cellOf hna.blk 1 rfl
  have HT := Px.hid hna.text
  obtain ⟨sa, sc, hsv, _⟩ := h.stackLen
  have c6 : w1.cell? ⟨b, 6, none⟩ = some (.slice sa f.stack.length sc) := by rw [← hsv]; exact cellOf h.blk 6 rfl
  clear hna hsv
  have HW := Px.hid (And.intro hS (And.intro hv hge))
  clear hown1 hgrow hat hlt hS hv hge h HC c5
  go_wp2_with fail
  refine HWH.out.mono ?_
  rintro e w2 ⟨rfl, rfl⟩
  rw [HQ.out]
  go_wp2_with fail
  go_quiet (fail)
  go_wp2
  go_ret3
  exact EndPost.none HE.out (HW.out.1.drewN nq)
set_option maxRecDepth 100000 in
set_option maxHeartbeats 4000000 in
theorem end_nums (b : Nat) (f : J6.Feed) (q : Nat) (t : Bytes) (F : Nat → Prop) (w : World) (h : FeedAt w b f F) (hb0 : f.lim.b ≠ 0) (he : f.err = 0) (hol : f.out.length ≤ 4096) (hnow : f.now = .num q t) (hout : f.out ≠ []) (hq : q ≤ 8) (hw : R6.numEnd q = true) (hst : f.stack ≠ []) :
    Calls Try.prog 13 #[.pointer (some ⟨b, 0, none⟩)] w (EndPost w f) := by
  have h0 : (f.lim.b == 0) = false := by simpa using hb0
  obtain ⟨vo, vs, tv, tb, ps, h, hF⟩ := h
  have c2 : w.cell? ⟨b, 2, none⟩ = some (.int .i64 f.lim.b) := cellOf h.blk 2 rfl
  have c9 : w.cell? ⟨b, 9, none⟩ = some (.int .i64 f.err) := cellOf h.blk 9 rfl
  clear hb0
  rw [he] at c9
  have hne0 : (f.err != 0) = false := by simp [he]
  have HE := Px.hid (show J6.End f = ([], (f.n : Int), 9) by unfold J6.End; rw [if_neg (by rw [hne0]; simp), hnow]; simp only; rw [if_neg (by rw [hw]; simpa using hst)])
  obtain ⟨kt, vt, htv, htb, hna⟩ : TokIs w tv tb (.num q t) := by rw [← hnow]; exact h.parts.tok
  subst htv
  have HQ := Px.hid hw
  have hs0 : ((f.stack.length : Int) == 0) = false := by have := List.length_pos_iff.2 hst; simp; omega
  clear hw hst
  have HNA := Px.hid hna
  have HTB := Px.hid htb
  clear hnow hne0 hna htb
  obtain ⟨m, a, hm, ha⟩ := last_of hout
  obtain ⟨g, oc, hov, _, _, _, _, _, _⟩ := h.val ha
  have c5 : w.cell? ⟨b, 5, none⟩ = some (.slice (some ⟨g, 0, none⟩) f.out.length oc) := by rw [← hov]; exact cellOf h.blk 5 rfl
  have hpos : 0 < f.out.length := by omega
  have hown : w.ownsRow 0 64 3 (.slice (some ⟨g, 0, none⟩) f.out.length oc) f.out.length (f.out.flatMap cVal) := by have := h.parts.out; rw [hov] at this; exact this
  have HC := Px.hid (hown.cells (g := g) rfl)
  obtain ⟨i0, hi0, hz0, hz1, hz2⟩ := info_parts Try.infoVal
  have HX := Px.hid (And.intro h (And.intro hm ha))
  clear h hF hov he hown hout hm ha
  go_enter Try.func13, Try.ntmps13
  go_wp2_with (at_builtin; go_must (refine wpList_append_lies _ rfl _ _ _ rfl 0 64 i0 _ 3 32 Try.underlying32 hi0 hz0 hz1 hz2 rfl (by omega) (.slice none 0 0) 0 [] rfl (World.ownsRow_nil _ _ _ _) ⟨g, 0, none⟩ f.out.length oc (f.out.flatMap cVal) rfl (flat_len cVal_len _) HC.out (val_one _) hpos (by unfold maxLen; omega) (by omega) (by omega) w.heap.size rfl ?_))
  intro gg cap w1 hown1 hgrow hat hlt
  have hS : Same w w1 := (Fr.refl _ w).grown hgrow (fun k e => by simp [Value.ownBlock] at e)
  have hv : Owns w1 64 3 cVal (.slice (some ⟨gg, 0, none⟩) f.out.length cap) f.out := by
    unfold Owns
    simpa using hown1
  have hge : w.heap.size ≤ gg := by
    rcases hat with e | e
    · simp [Value.ownBlock] at e
    · omega
  have h := HX.out.1.same hS
  have c8 : w1.cell? ⟨b, 8, none⟩ = some (.iface 58 (.pointer (some ⟨kt, 0, none⟩))) := cellOf h.blk 8 rfl
  have c7 : w1.cell? ⟨b, 7, none⟩ = some (.int .i64 (f.next : Nat)) := cellOf h.blk 7 rfl
  have c4 : w1.cell? ⟨b, 4, none⟩ = some (.int .i64 (f.n : Nat)) := cellOf h.blk 4 rfl
  have hna : NumAt w1 kt q t vt := by
    exact ⟨HNA.out.blk |> fun x => (hS.block kt (ltOf x) (fun y => y)).trans x, Owns.same HNA.out.text hS, HNA.out.tb⟩
  have HWH := Px.hid (num_whole kt q hq w1 (cellOf hna.blk 0 rfl))
  have n1 : w1.cell? ⟨kt, 1, none⟩ = some vt := cellOf hna.blk 1 rfl
  have HT := Px.hid hna.text
  obtain ⟨sa, sc, hsv, _⟩ := h.stackLen
  have c6 : w1.cell? ⟨b, 6, none⟩ = some (.slice sa f.stack.length sc) := by rw [← hsv]; exact cellOf h.blk 6 rfl
  clear hna hsv
  have HW := Px.hid (And.intro hS (And.intro hv hge))
  clear hown1 hgrow hat hlt hS hv hge h HC c5
  go_wp2_with fail
  refine HWH.out.mono ?_
  rintro e w2 ⟨rfl, rfl⟩
  rw [HQ.out]
  go_wp2_with fail
  go_quiet (fail)
  go_wp2
  go_ret3
  exact EndPost.none HE.out (HW.out.1.drewN nq)
set_option maxRecDepth 100000 in
set_option maxHeartbeats 4000000 in
theorem end_numok (b : Nat) (f : J6.Feed) (q : Nat) (t : Bytes) (F : Nat → Prop) (w : World) (h : FeedAt w b f F) (hb0 : f.lim.b ≠ 0) (he : f.err = 0) (hol : f.out.length ≤ 4096) (hnow : f.now = .num q t) (hout : f.out ≠ []) (hq : q ≤ 8) (hw : R6.numEnd q = true) (hst : f.stack = []) :
    Calls Try.prog 13 #[.pointer (some ⟨b, 0, none⟩)] w (EndPost w f) := by
  have h0 : (f.lim.b == 0) = false := by simpa using hb0
  obtain ⟨vo, vs, tv, tb, ps, h, hF⟩ := h
  have c2 : w.cell? ⟨b, 2, none⟩ = some (.int .i64 f.lim.b) := cellOf h.blk 2 rfl
  have c9 : w.cell? ⟨b, 9, none⟩ = some (.int .i64 f.err) := cellOf h.blk 9 rfl
  clear hb0
  rw [he] at c9
  have hne0 : (f.err != 0) = false := by simp [he]
  have HE := Px.hid (show J6.End f = (R6.setText f.out (f.out.length - 1) t, 0, 0) by unfold J6.End; rw [if_neg (by rw [hne0]; simp), hnow]; simp only; rw [if_pos (by rw [hw, hst]; rfl)])
  obtain ⟨kt, vt, htv, htb, hna⟩ : TokIs w tv tb (.num q t) := by rw [← hnow]; exact h.parts.tok
  subst htv
  have HQ := Px.hid hw
  have HST := Px.hid hst
  clear hw hst
  have HNA := Px.hid hna
  have HTB := Px.hid htb
  clear hnow hne0 hna htb
  obtain ⟨m, a, hm, ha⟩ := last_of hout
  obtain ⟨g, oc, hov, _, _, _, _, _, _⟩ := h.val ha
  have c5 : w.cell? ⟨b, 5, none⟩ = some (.slice (some ⟨g, 0, none⟩) f.out.length oc) := by rw [← hov]; exact cellOf h.blk 5 rfl
  have hpos : 0 < f.out.length := by omega
  have hown : w.ownsRow 0 64 3 (.slice (some ⟨g, 0, none⟩) f.out.length oc) f.out.length (f.out.flatMap cVal) := by have := h.parts.out; rw [hov] at this; exact this
  have HC := Px.hid (hown.cells (g := g) rfl)
  obtain ⟨i0, hi0, hz0, hz1, hz2⟩ := info_parts Try.infoVal
  have HX := Px.hid (And.intro h (And.intro hm ha))
  clear h hF hov he hown hout hm ha
  go_enter Try.func13, Try.ntmps13
  go_wp2_with (at_builtin; go_must (refine wpList_append_lies _ rfl _ _ _ rfl 0 64 i0 _ 3 32 Try.underlying32 hi0 hz0 hz1 hz2 rfl (by omega) (.slice none 0 0) 0 [] rfl (World.ownsRow_nil _ _ _ _) ⟨g, 0, none⟩ f.out.length oc (f.out.flatMap cVal) rfl (flat_len cVal_len _) HC.out (val_one _) hpos (by unfold maxLen; omega) (by omega) (by omega) w.heap.size rfl ?_))
  intro gg cap w1 hown1 hgrow hat hlt
  have hS : Same w w1 := (Fr.refl _ w).grown hgrow (fun k e => by simp [Value.ownBlock] at e)
  have hv : Owns w1 64 3 cVal (.slice (some ⟨gg, 0, none⟩) f.out.length cap) f.out := by
    unfold Owns
    simpa using hown1
  have hge : w.heap.size ≤ gg := by
    rcases hat with e | e
    · simp [Value.ownBlock] at e
    · omega
  have h := HX.out.1.same hS
  have c8 : w1.cell? ⟨b, 8, none⟩ = some (.iface 58 (.pointer (some ⟨kt, 0, none⟩))) := cellOf h.blk 8 rfl
  have c7 : w1.cell? ⟨b, 7, none⟩ = some (.int .i64 (f.next : Nat)) := cellOf h.blk 7 rfl
  have c4 : w1.cell? ⟨b, 4, none⟩ = some (.int .i64 (f.n : Nat)) := cellOf h.blk 4 rfl
  have hna : NumAt w1 kt q t vt := by
    exact ⟨HNA.out.blk |> fun x => (hS.block kt (ltOf x) (fun y => y)).trans x, Owns.same HNA.out.text hS, HNA.out.tb⟩
  have HWH := Px.hid (num_whole kt q hq w1 (cellOf hna.blk 0 rfl))
  have n1 : w1.cell? ⟨kt, 1, none⟩ = some vt := cellOf hna.blk 1 rfl
  have HT := Px.hid hna.text
  obtain ⟨sa, sc, hsv, _⟩ := h.stackLen
  have c6 : w1.cell? ⟨b, 6, none⟩ = some (.slice sa f.stack.length sc) := by rw [← hsv]; exact cellOf h.blk 6 rfl
  clear hna hsv
  rw [HST.out] at c6
  have HW := Px.hid (And.intro hS (And.intro hv hge))
  clear hown1 hgrow hat hlt hS hv hge h HC c5
  go_wp2_with fail
  refine HWH.out.mono ?_
  rintro e w2 ⟨rfl, rfl⟩
  rw [HQ.out]
  go_upto_region 8 with fail
  have hml := HX.out.2.1
  obtain ⟨g2, cap2, hv2, hc3, hc4, hc5, hc6⟩ := Owns.at HW.out.2.1 cVal_len HX.out.2.2
  simp only [Value.slice.injEq, Option.some.injEq, Addr.mk.injEq, and_true, true_and] at hv2
  obtain ⟨hg2, hcap2⟩ := hv2
  subst hg2
  subst hcap2
  have q2 := hc5 2 (S a.text) rfl
  have qf := hc6 (m * 3 + 2)
  rw [hml] at hc3 ⊢
  have hcv : (convert 60 9 vt).run Try.prog w1 = .ok (S t) w1 := Owns.str HT.out (by kernel_rfl) (by kernel_rfl) (by kernel_rfl)
  have hset : Owns (w1.setCell ⟨gg, m * 3 + 2, none⟩ (S t)) 64 3 cVal (.slice (some ⟨gg, 0, none⟩) f.out.length cap) (f.out.set m { a with text := t }) := owns_setAt cVal_len HW.out.2.1 HX.out.2.2 2 (by decide) (S t) rfl
  have hlst : R6.setText f.out (f.out.length - 1) t = f.out.set m { a with text := t } := by
    unfold R6.setText
    rw [hml, Nat.add_sub_cancel]
    exact modify_set f.out m a _ HX.out.2.2
  have HZ := Px.hid (And.intro hset (And.intro hlst (Fr.setCell HW.out.1 (p := ⟨gg, m * 3 + 2, none⟩) (.inr HW.out.2.2) (S t))))
  have HML := Px.hid hml
  have hol' : m + 1 ≤ 4096 := by omega
  unfold maxLen at hc4
  clear hset hlst hc5 hc6 hml hol
  go_wp2
  go_ret3
  rw [← HML.out]
  refine EndPost.some HE.out ?_ HZ.out.2.2 (fun k hk => by have e : gg = k := Option.some.inj hk; have := HW.out.2.2; omega)
  rw [HZ.out.2.1]
  exact HZ.out.1
/-- End, whole, of a feed of which the invariant holds. -/
theorem end_any (b : Nat) (f : J6.Feed) (F : Nat → Prop) (w : World) (h : FeedAt w b f F) (hok : J6.Fits f) :
    Calls Try.prog 13 #[.pointer (some ⟨b, 0, none⟩)] w (EndPost w f) := by
  have hm := J6.may_parts6 hok.may
  have hb0 : f.lim.b ≠ 0 := by omega
  by_cases he : f.err = 0
  · have ho := hok.ok he
    have hol : f.out.length ≤ 4096 := by have := ho.ol; omega
    have htk := ho.tk
    have hne := ho.ne
    cases hnow : f.now with
    | none =>
      by_cases hnx : f.next = 6
      · by_cases hout : f.out = []
        · exact end_done_e b f F w h hb0 he hnow hnx hout
        · exact end_done_f b f F w h hb0 he hol hnow hnx hout
      · by_cases hout : f.out = []
        · exact end_open_e b f F w h hb0 he hnow hnx hout
        · exact end_open_f b f F w h hb0 he hol hnow hnx hout
    | word r => exact end_word b f r F w h hb0 he hol hnow (hne (by rw [hnow]; intro e; cases e))
    | str t => exact end_str b f t F w h hb0 he hol hnow (hne (by rw [hnow]; intro e; cases e))
    | num q t =>
      have hout := hne (by rw [hnow]; intro e; cases e)
      rw [hnow] at htk
      cases hw : R6.numEnd q with
      | false => exact end_numw b f q t F w h hb0 he hol hnow hout htk.1 hw
      | true =>
        by_cases hst : f.stack = []
        · exact end_numok b f q t F w h hb0 he hol hnow hout htk.1 hw hst
        · exact end_nums b f q t F w h hb0 he hol hnow hout htk.1 hw hst
  · exact end_err b f F w h hb0 he
end Go.Proofs.Ytahojodgmjmpnaa

/-! The walks over the statements' own helper wakes (layer 19), and over JsonfeedNil and JsonfeedStops (turned from layer 18 by mk_yq.py). -/
namespace Go.Proofs.Ytahojodgmjmpnaa
open Go.RowKit Go.Px

theorem Fr.toSame {F : Nat → Prop} {w w' : World} (h : Fr F w w') (hF : ∀ k, F k → w.heap.size ≤ k) : Same w w' :=
  ⟨h.os, h.tape, h.output, h.size, fun b hb _ => h.block b hb (fun x => by have := hF b x; omega)⟩
/-- The greatest limits. -/
def most : Lim := ⟨32, 4096, 262144, 4096⟩
theorem most_may : most.may = true := by decide
theorem most_any (w : World) : Calls Try.prog 17 #[] w fun e w' => e = .returned (limV most) ∧ Same w w' := by
  go_enter Try.func17, Try.ntmps17
  go_wp2
  exact bodyPost_ret (v := limV most) (by simp [results, Try.results17, go_sem, limV, most]) rfl ⟨rfl, (Fr.refl _ w).alloc _⟩
def limObj (l : Lim) : Obj := .cells #[.int .i64 l.d, .int .i64 l.i, .int .i64 l.b, .int .i64 l.r] 24 (0, 0)
def LimIn (w0 w : World) (b : Nat) (l : Lim) : Prop := Same w0 w ∧ w.heap[b]? = some (limObj l)
theorem LimIn.same {w0 w w' : World} {b : Nat} {l : Lim} (h : LimIn w0 w b l) (hs : Same w w') : LimIn w0 w' b l := ⟨h.1.trans hs, (hs.block b (ltOf h.2) (fun x => x)).trans h.2⟩
theorem LimIn.boxed (w : World) (l : Lim) : LimIn w (w.alloc (.cells #[.int .i64 l.d, .int .i64 l.i, .int .i64 l.b, .int .i64 l.r] 24 (0, 0))) w.heap.size l := ⟨(Fr.refl _ w).alloc _, heap_alloc_new w _⟩
theorem LimIn.cells {w0 w : World} {b : Nat} {l : Lim} (h : LimIn w0 w b l) : w.cell? ⟨b, 0, none⟩ = some (.int .i64 l.d) ∧ w.cell? ⟨b, 1, none⟩ = some (.int .i64 l.i) ∧ w.cell? ⟨b, 2, none⟩ = some (.int .i64 l.b) ∧ w.cell? ⟨b, 3, none⟩ = some (.int .i64 l.r) :=
  ⟨cellOf h.2 0 rfl, cellOf h.2 1 rfl, cellOf h.2 2 rfl, cellOf h.2 3 rfl⟩
/-- A feed of the call's own: it lies in blocks that are newer than w. -/
def Own (w w' : World) (b : Nat) (f : J6.Feed) : Prop := ∃ F, FeedAt w' b f F ∧ J6.Fits f ∧ Same w w' ∧ (∀ k, F k → w.heap.size ≤ k)
theorem Own.write {w w1 : World} {b : Nat} {f : J6.Feed} (h : Own w w1 b f) (s : List UInt8) (hs : s.length ≤ maxLen) :
    Calls Try.prog 11 #[.pointer (some ⟨b, 0, none⟩), S s] w1 fun r w' => r = .returned (.int .i64 (J6.write f s).err) ∧ Own w w' b (J6.write f s) := by
  obtain ⟨F, h1, h2, h3, h4⟩ := h
  refine (write_any b f s F w1 h1 h2 hs).mono ?_
  rintro e w' ⟨rfl, F', g1, g2, g3⟩
  have hf : ∀ k, F' k → w.heap.size ≤ k := fun k hk => by rcases g3 k hk with x | x; exact h4 k x; exact Nat.le_trans h3.size x
  exact ⟨rfl, F', g1, h2.write s f, Fr.toSame ((h3.fr F).trans g2 (fun _ _ x => x)) h4, hf⟩
theorem Own.ends {w w1 : World} {b : Nat} {f : J6.Feed} (h : Own w w1 b f) :
    Calls Try.prog 13 #[.pointer (some ⟨b, 0, none⟩)] w1 fun e w' => ∃ v, e = .returned (.tuple #[v, .int .i64 (J6.End f).2.1, .int .i64 (J6.End f).2.2]) ∧ Owns w' 64 3 cVal v (J6.End f).1 ∧ Same w1 w' ∧ (∀ k, v.ownBlock = some k → w1.heap.size ≤ k) := by
  obtain ⟨F, h1, h2, h3, h4⟩ := h
  exact end_any b f F w1 h1 h2
theorem Own.same {w w1 w2 : World} {b : Nat} {f : J6.Feed} (h : Own w w1 b f) (hs : Same w1 w2) : Own w w2 b f := by
  obtain ⟨F, h1, h2, h3, h4⟩ := h
  exact ⟨F, h1.same hs, h2, h3.trans hs, h4⟩
theorem Own.state {w w1 : World} {b : Nat} {f : J6.Feed} (h : Own w w1 b f) :
    Calls Try.prog 15 #[.pointer (some ⟨b, 0, none⟩)] w1 fun e w' => e = .returned (.tuple #[.int .i64 (f.n : Nat), .int .i64 f.stack.length]) ∧ Same w1 w' := by
  obtain ⟨F, h1, h2, h3, h4⟩ := h
  exact state_any b f F w1 h1
theorem Own.new {w w1 : World} {l : Lim} (hs : Same w w1) (hm : l.may = true) :
    Calls Try.prog 9 #[limV l] w1 fun e w' => ∃ b, e = .returned (.tuple #[.pointer (some ⟨b, 0, none⟩), .int .i64 0]) ∧ Own w w' b (J6.init l) ∧ Same w1 w' ∧ w1.heap.size ≤ b := by
  refine (new_yes l w1 hm).mono ?_
  rintro e w' ⟨b, rfl, h1, h2, h3⟩
  exact ⟨b, rfl, ⟨_, h3, J6.fits0 hm, hs.trans h1, fun k hk => by subst hk; exact Nat.le_trans hs.size h2⟩, h1, h2⟩

def wakeS : List UInt8 := [91, 116, 114, 117, 101, 93]
theorem wake_slice (k : Nat) (c : UInt8) (hc : wakeS[k]? = some c) (w : World) :
    (Instr.slice 9 (.string ⟨#[91, 116, 114, 117, 101, 93]⟩) (some (.int .i64 (k : Int))) (some (.int .i64 ((k : Int) + 1))) none).run Try.prog w = .ok (S [c]) w := by
  have hk : k < 6 := (List.getElem?_eq_some_iff.1 hc).1
  have e : (⟨#[91, 116, 114, 117, 101, 93]⟩ : ByteArray) = ⟨wakeS.toArray⟩ := rfl
  rw [e, run_slice_string w _ _ _ _ _ _ Try.underlying9 (by omega) (by omega) (by rw [size_S]; show _ ≤ ((6 : Nat) : Int); omega), ByteArray.extract_mk]
  have e1 : ((k : Int)).toNat = k := by omega
  have e2 : ((k : Int) + 1).toNat = k + 1 := by omega
  rw [e1, e2]
  have : (wakeS.drop k).take (k + 1 - k) = [c] := by
    have h4 : k = 0 ∨ k = 1 ∨ k = 2 ∨ k = 3 ∨ k = 4 ∨ k = 5 := by omega
    rcases h4 with rfl | rfl | rfl | rfl | rfl | rfl <;> (cases hc; rfl)
  rw [this]
theorem wake_err : ∀ k, k ≤ 6 → (J6.write (J6.init most) (wakeS.take k)).err = 0 := by
  intro k hk
  have h4 : k = 0 ∨ k = 1 ∨ k = 2 ∨ k = 3 ∨ k = 4 ∨ k = 5 ∨ k = 6 := by omega
  rcases h4 with rfl | rfl | rfl | rfl | rfl | rfl | rfl <;> decide +kernel
theorem wake_end : (J6.End (J6.write (J6.init most) wakeS)).2 = (0, 0) ∧ (J6.End (J6.write (J6.init most) wakeS)).1.length = 2 ∧ (J6.write (J6.init most) wakeS).n = 6 ∧ (J6.write (J6.init most) wakeS).stack.length = 0 := by
  decide +kernel
set_option maxRecDepth 100000 in
set_option maxHeartbeats 2000000 in
theorem wakes_any (w : World) : Calls Try.prog 8 #[] w fun e w' => e = .returned (.bool true) ∧ Same w w' := by
  go_enter Try.func8, Try.ntmps8
  go_wp2_with fail
  refine (most_any _).mono ?_
  rintro e w1 ⟨rfl, hs1⟩
  have H1 := Px.hid hs1
  clear hs1
  go_wp2_with fail
  refine (Own.new H1.out most_may).mono ?_
  rintro e w2 ⟨b, rfl, ho, hs, hb⟩
  have H2 := Px.hid ho
  clear ho hs
  go_wp2
  go_loopw [23] (fun i wr => ∃ k : Nat, k ≤ 6 ∧ i = .int .i64 k ∧ Own w wr b (J6.write (J6.init most) (wakeS.take k))) (fun i _ => 6 - (intOf i).toNat)
  case atStart => exact ⟨0, by omega, rfl, H2.out⟩
  case round =>
    obtain ⟨k, hk, rfl, ho⟩ := hrel
    have HO := Px.hid ho
    clear ho H1 H2
    by_cases hlt : k < 6
    · have hlt' : (k : Int) < 6 := by omega
      obtain ⟨c, hc⟩ : ∃ c, wakeS[k]? = some c := ⟨_, List.getElem?_eq_getElem (show k < wakeS.length from hlt)⟩
      have hsl := wake_slice k c hc
      have HC := Px.hid (And.intro hc hlt)
      clear hc hlt
      go_wp2_with fail
      refine (HO.out.write [c] (by unfold maxLen; simp)).mono ?_
      rintro e w' ⟨rfl, ho⟩
      have e1 : J6.write (J6.write (J6.init most) (wakeS.take k)) [c] = J6.write (J6.init most) (wakeS.take (k + 1)) := by
        rw [← J6.write_app, List.take_add_one, HC.out.1]; rfl
      rw [e1] at ho ⊢
      rw [wake_err (k + 1) (by have := HC.out.2; omega)]
      have HO2 := Px.hid ho
      clear ho e1
      go_wp2
      go_roundw
      case rel => exact ⟨k + 1, by have := HC.out.2; omega, by go_num, HO2.out⟩
      case measure => simp [intOf]; have := HC.out.2; omega
    · have hlt' : ¬ (k : Int) < 6 := by omega
      have hk4 : k = 6 := by omega
      subst hk4
      obtain ⟨we, wl, wt, wk⟩ := wake_end
      have ets : wakeS.take 6 = wakeS := rfl
      have HO3 := Px.hid HO.out
      rw [ets] at HO3
      have HW := Px.hid (And.intro we (And.intro wl (And.intro wt wk)))
      clear we wl wt wk ets hlt hlt' HO hk
      go_wp2_with fail
      refine HO3.out.ends.mono ?_
      rintro e w3 ⟨v, rfl, hv, hs3, hvf⟩
      obtain ⟨va, vc, hvl, _⟩ := hv.len
      have HO4 := Px.hid (HO3.out.same hs3)
      rw [HW.out.2.1] at hvl
      subst hvl
      rw [HW.out.1]
      clear hv hs3 hvf HO3
      go_wp2_with fail
      refine HO4.out.state.mono ?_
      rintro e w4 ⟨rfl, hs4⟩
      have HO5 := Px.hid (HO4.out.same hs4)
      clear hs4
      rw [HW.out.2.2.1, HW.out.2.2.2]
      go_wp2
      go_ret
      obtain ⟨_, _, _, hs, _⟩ := HO5.out
      exact ⟨rfl, hs⟩
def zeroF : J6.Feed := J6.init ⟨0, 0, 0, 0⟩
/-- What a feed made of nothing reads as, as long as nothing of it has changed. -/
def Zero (w0 w : World) (b : Nat) : Prop := Same w0 w ∧ w.heap[b]? = some (.cells (feedCells zeroF (.slice none 0 0) (.slice none 0 0) .nilIface) 46 (0, 0))
theorem Zero.same {w0 w w' : World} {b : Nat} (h : Zero w0 w b) (hs : Same w w') : Zero w0 w' b := ⟨h.1.trans hs, (hs.block b (ltOf h.2) (fun x => x)).trans h.2⟩
theorem Zero.cell {w0 w : World} {b : Nat} (h : Zero w0 w b) : w.cell? ⟨b, 2, none⟩ = some (.int .i64 0) := cellOf h.2 2 rfl
theorem Zero.at {w0 w : World} {b : Nat} (h : Zero w0 w b) : FeedAt w b zeroF (fun k => k = b) := by
  refine ⟨.slice none 0 0, .slice none 0 0, .nilIface, [], [], ⟨h.2, ⟨owns_nil _ _ _ _, owns_nil _ _ _ _, rfl, (fun p hp => by cases hp), ⟨rfl, rfl⟩, ?_⟩, ?_⟩, ?_⟩
  · simp [blocks, nmBlocks, Value.ownBlock, Apart]
  · simp [blocks, nmBlocks, Value.ownBlock]
  · funext k; simp [foot, blocks, nmBlocks, Value.ownBlock]
theorem state_zero {w0 : World} (b : Nat) (w : World) (h : Zero w0 w b) : Calls Try.prog 15 #[.pointer (some ⟨b, 0, none⟩)] w fun e w' => e = .returned (.tuple #[.int .i64 0, .int .i64 0]) ∧ Same w w' := state_any b _ _ w h.at
set_option maxRecDepth 100000 in
set_option maxHeartbeats 2000000 in
theorem law_JsonfeedNil (s : List UInt8) (w : World) (_ : s.length ≤ maxLen) :
    Calls Try.prog 6 #[S s] w fun e w' => e = .returned (.bool true) ∧ Below w.heap.size w w' := by
  go_enter Try.func6, Try.ntmps6
  go_wp2_with fail
  have HZ := Px.hid (show Zero w (w.alloc _) w.heap.size from ⟨(Fr.refl _ w).alloc _, heap_alloc_new w _⟩)
  refine (end_nil _).mono ?_
  rintro e w1 ⟨rfl, hs⟩
  have HZ := Px.hid (HZ.out.same hs)
  clear hs
  go_wp2_with fail
  refine (end_zero _ _ HZ.out.cell).mono ?_
  rintro e w2 ⟨rfl, hs⟩
  have HZ := Px.hid (HZ.out.same hs)
  clear hs
  go_wp2_with fail
  refine (state_nil _).mono ?_
  rintro e w3 ⟨rfl, hs⟩
  have HZ := Px.hid (HZ.out.same hs)
  clear hs
  go_wp2_with fail
  refine (state_zero _ _ HZ.out).mono ?_
  rintro e w4 ⟨rfl, hs⟩
  have HZ := Px.hid (HZ.out.same hs)
  clear hs
  go_wp2_with fail
  refine (wakes_any _).mono ?_
  rintro e w5 ⟨rfl, hs⟩
  have HZ := Px.hid (HZ.out.same hs)
  clear hs
  go_wp2_with fail
  refine (write_nil s _).mono ?_
  rintro e w6 ⟨rfl, hs⟩
  have HZ := Px.hid (HZ.out.same hs)
  clear hs
  go_wp2_with fail
  refine (write_zero _ s _ HZ.out.cell).mono ?_
  rintro e w7 ⟨rfl, hs⟩
  have HZ := Px.hid (HZ.out.same hs)
  clear hs
  go_wp2
  go_ret
  exact ⟨rfl, HZ.out.1.below⟩

theorem end_told (f : J6.Feed) (h : f.err ≠ 0) : J6.End f = ([], f.at_, f.err) := by simp [J6.End, h]

set_option maxRecDepth 100000 in
set_option maxHeartbeats 2000000 in
theorem law_JsonfeedStops (s more : List UInt8) (l : Lim) (w : World) (hs : s.length ≤ maxLen) (hm : more.length ≤ maxLen) :
    Calls Try.prog 5 #[S s, S more, limV l] w fun e w' => e = .returned (.bool true) ∧ Below w.heap.size w w' := by
  have HS := Px.hid (And.intro hs hm)
  clear hs hm
  unfold limV
  go_enter Try.func5, Try.ntmps5
  go_wp2_with fail
  have HL := Px.hid (LimIn.boxed w l)
  refine (wakes_any _).mono ?_
  rintro e w1 ⟨rfl, hs⟩
  have HL := Px.hid (HL.out.same hs)
  clear hs
  obtain ⟨c0, c1, c2, c3⟩ := HL.out.cells
  cases hm : l.may
  · have HM := Px.hid hm
    clear hm
    go_wp2_with fail
    refine (new_no l _ HM.out).mono ?_
    rintro e w2 ⟨rfl, hs⟩
    have HL := Px.hid (HL.out.same hs)
    clear hs c0 c1 c2 c3
    obtain ⟨c0, c1, c2, c3⟩ := HL.out.cells
    go_wp2_with fail
    refine (refMay_any l _).mono ?_
    rintro e w3 ⟨rfl, hs⟩
    have HL := Px.hid (HL.out.same hs)
    clear hs
    rw [HM.out]
    go_wp2
    go_ret
    exact ⟨rfl, HL.out.1.below⟩
  · have HM := Px.hid hm
    clear hm
    go_wp2_with fail
    refine (Own.new HL.out.1 HM.out).mono ?_
    rintro e w2 ⟨b, rfl, ho, hs, hb⟩
    have HO := Px.hid ho
    clear ho hs hb
    go_wp2_with fail
    refine (HO.out.write s HS.out.1).mono ?_
    rintro e w3 ⟨rfl, ho⟩
    have HO := Px.hid ho
    clear ho
    by_cases he : (J6.write (J6.init l) s).err = 0
    · have hw : J6.write (J6.write (J6.init l) s) [] = J6.write (J6.init l) s := rfl
      rw [he]
      have HE := Px.hid (And.intro he hw)
      clear he hw
      go_wp2_with fail
      refine (HO.out.write [] (Nat.zero_le _)).mono ?_
      rintro e w4 ⟨rfl, ho⟩
      rw [HE.out.2] at ho ⊢
      rw [HE.out.1]
      have HO := Px.hid ho
      clear ho
      go_wp2
      go_ret
      obtain ⟨_, _, _, hs, _⟩ := HO.out
      exact ⟨rfl, hs.below⟩
    · obtain ⟨g, hg⟩ : ∃ g, g = J6.write (J6.init l) s := ⟨_, rfl⟩
      have he' : (g.err == 0) = false := by rw [hg]; simpa using he
      rw [← hg] at HO he ⊢
      have HE := Px.hid he
      clear he hg
      go_wp2_with fail
      refine HO.out.ends.mono ?_
      rintro e w4 ⟨v, rfl, hv, hs, hvf⟩
      rw [end_told g HE.out]
      have HO := Px.hid (HO.out.same hs)
      clear hv hs hvf
      go_wp2_with fail
      refine HO.out.state.mono ?_
      rintro e w5 ⟨rfl, hs⟩
      have HO := Px.hid (HO.out.same hs)
      clear hs
      go_wp2_with fail
      refine (HO.out.write more HS.out.2).mono ?_
      rintro e w6 ⟨rfl, ho⟩
      rw [write_err _ HE.out] at ho ⊢
      have HO := Px.hid ho
      clear ho
      go_wp2_with fail
      refine HO.out.ends.mono ?_
      rintro e w7 ⟨v2, rfl, hv, hs, hvf⟩
      rw [end_told g HE.out] at hv ⊢
      obtain ⟨va, vc, hvl, _⟩ := hv.len
      simp only [List.length_nil] at hvl
      subst hvl
      have HO := Px.hid (HO.out.same hs)
      clear hv hs hvf
      go_wp2_with fail
      refine HO.out.state.mono ?_
      rintro e w8 ⟨rfl, hs⟩
      have HO := Px.hid (HO.out.same hs)
      clear hs
      go_wp2
      go_ret
      obtain ⟨_, _, _, hs, _⟩ := HO.out
      exact ⟨rfl, hs.below⟩
end Go.Proofs.Ytahojodgmjmpnaa

/-! The walk over the reference's Same (layer 16). -/
namespace Go.Proofs.Ytahojodgmjmpnaa
open Go.RowKit Go.Px

set_option maxRecDepth 100000 in
set_option maxHeartbeats 2000000 in
theorem same_any (w : World) (va vb : Value) (l : List Val) (ha : Owns w 64 3 cVal va l) (hb : Owns w 64 3 cVal vb l) :
    Calls Try.prog 14 #[va, vb] w fun r w' => r = .returned (.bool true) ∧ Same w w' := by
  obtain ⟨aa, ac, hva, hac1, hac2, _⟩ := ha.len
  obtain ⟨ba, bc, hvb, _, _, _⟩ := hb.len
  subst hva hvb
  have HA := Px.hid (And.intro ha hb)
  have hlm : l.length ≤ maxLen := Nat.le_trans hac1 hac2
  unfold maxLen at hlm
  clear ha hb hac1 hac2
  go_enter Try.func14, Try.ntmps14
  go_wp2
  go_loopw [5] (fun i wr => ∃ k : Nat, k ≤ l.length ∧ i = .int .i64 (k : Nat) ∧ Same w wr) (fun i _ => l.length - (intOf i).toNat)
  case atStart => exact ⟨0, Nat.zero_le _, rfl, Same.refl w⟩
  case round =>
    obtain ⟨k, hk, rfl, hs⟩ := hrel
    by_cases hlt : k < l.length
    · have hltz : (k : Int) < (l.length : Int) := by omega
      obtain ⟨g1, p1, e1, _, _, c1, _⟩ := (Owns.same HA.out.1 hs).at cVal_len (j := k) (a := l[k]) (by simp [hlt])
      obtain ⟨g2, p2, e2, _, _, c2, _⟩ := (Owns.same HA.out.2 hs).at cVal_len (j := k) (a := l[k]) (by simp [hlt])
      simp only [Value.slice.injEq, true_and] at e1 e2
      obtain ⟨rfl, rfl⟩ := e1
      obtain ⟨rfl, rfl⟩ := e2
      have x0 := c1 0 _ rfl
      have x1 := c1 1 _ rfl
      have x2 := c1 2 _ rfl
      have y0 := c2 0 _ rfl
      have y1 := c2 1 _ rfl
      have y2 := c2 2 _ rfl
      have HS := Px.hid hs
      clear c1 c2 hs HA
      obtain ⟨kd, hkd⟩ : ∃ kd, kd = l[k].kind := ⟨_, rfl⟩
      obtain ⟨nm, hnm⟩ : ∃ nm, nm = l[k].kids := ⟨_, rfl⟩
      obtain ⟨tx, htx⟩ : ∃ tx, tx = l[k].text := ⟨_, rfl⟩
      rw [← hkd] at x0 y0
      rw [← hnm] at x1 y1
      rw [← htx] at x2 y2
      clear hkd hnm htx
      rw [Nat.add_zero] at x0 y0
      go_wp2_with fail
      go_quiet (fail)
      go_wp2
      go_roundw
      case rel => exact ⟨k + 1, by omega, by go_num, (HS.out.drewN nq)⟩
      case measure => simp [intOf]; omega
    · have hltz : ¬ (k : Int) < (l.length : Int) := by omega
      have HS := Px.hid hs
      clear hs
      go_wp2
      go_ret
      exact ⟨rfl, HS.out⟩
end Go.Proofs.Ytahojodgmjmpnaa
