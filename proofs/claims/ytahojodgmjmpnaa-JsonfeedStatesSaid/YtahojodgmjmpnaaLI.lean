/-
  Several texts in one: The walk over the reference's value, layer 16, at every level. The walk over the reference's Read, layer 16. The walks over the reference's Same (layer 16) and the statements' read (layer 19) (turned from layer 17 and 20 by mk_sm6.py). The walks over the statements JsonfeedPieces and JsonfeedStates.
-/
import Derived.Test.YtahojodgmjmpnaaLG
import Derived.Test.YtahojodgmjmpnaaLH
import Derived.Test.YtahojodgmjmpnaaLH
import Derived.Test.YtahojodgmjmpnaaLH
import Derived.Test.YtahojodgmjmpnaaLH
import Derived.Test.YtahojodgmjmpnaaLJ
import Derived.Deep.DeepCutAuto
import Derived.Test.YtahojodgmjmpnaaLW
import Derived.Test.YtahojodgmjmpnaaLA
/-! The walk over the reference's value, layer 16, at every level. -/
namespace Go.Proofs.Ytahojodgmjmpnaa
open Go.RowKit Go.Px

theorem rvalue_any (s : Bytes) (lim : Lim) (hc : Ctx s lim) : ∀ d, ValueC s lim d := by
  have main : ∀ d, (∀ e, d = e + 1 → ObjectC s lim e ∧ ArrayC s lim e) → ValueC s lim d := by
    intro d hd b p dp x vo w h hp hfr hdl
    obtain ⟨⟨q, y⟩, hw⟩ : ∃ r, R6.want s lim x p = r := ⟨_, rfl⟩
    cases q with
    | false => exact val_no b p dp d s lim x y vo hc hp hw w h
    | true =>
      obtain ⟨c, hcc⟩ : ∃ c, R6.at_ s p = c := ⟨_, rfl⟩
      cases hf : R6.firsts c with
      | false => exact val_bad b p dp d c s lim x y vo hc hw hcc hf w h
      | true =>
        have hcs : c = 123 ∨ c = 91 ∨ c = 34 ∨ c = 45 ∨ c = 116 ∨ c = 102 ∨ c = 110 ∨ R6.digit c = true := by
          unfold R6.firsts at hf
          simp only [Bool.or_eq_true, beq_iff_eq] at hf
          rcases hf with ((((((w | w) | w) | w) | w) | w) | w) | w
          · exact .inl w
          · exact .inr (.inl w)
          · exact .inr (.inr (.inl w))
          · exact .inr (.inr (.inr (.inl w)))
          · exact .inr (.inr (.inr (.inr (.inl w))))
          · exact .inr (.inr (.inr (.inr (.inr (.inl w)))))
          · exact .inr (.inr (.inr (.inr (.inr (.inr (.inl w))))))
          · exact .inr (.inr (.inr (.inr (.inr (.inr (.inr w))))))
        by_cases hl : lim.i ≤ (y.out.length : Int)
        · rcases hcs with rfl | rfl | rfl | rfl | rfl | rfl | rfl | hdc
          · exact full_obj b p dp d s lim x y vo hc hw hcc hl w h
          · exact full_arr b p dp d s lim x y vo hc hw hcc hl w h
          · exact full_str b p dp d s lim x y vo hc hw hcc hl w h
          · exact full_min b p dp d s lim x y vo hc hw hcc hl w h
          · exact full_true b p dp d s lim x y vo hc hw hcc hl w h
          · exact full_false b p dp d s lim x y vo hc hw hcc hl w h
          · exact full_null b p dp d s lim x y vo hc hw hcc hl w h
          · exact full_dig b p dp d c s lim x y vo hc hw hcc hl hdc w h
        · rcases hcs with rfl | rfl | rfl | rfl | rfl | rfl | rfl | hdc
          · cases d with
            | zero => exact deep_obj b p dp 0 s lim x y vo hc hw hcc hl rfl hdl w h
            | succ d => exact val_obj b p dp d s lim x y vo hc hw hcc hl hfr hdl (hd d rfl).1 w h
          · cases d with
            | zero => exact deep_arr b p dp 0 s lim x y vo hc hw hcc hl rfl hdl w h
            | succ d => exact val_arr b p dp d s lim x y vo hc hw hcc hl hfr hdl (hd d rfl).2 w h
          · exact val_str b p dp d s lim x y vo hc hw hcc hl hfr hdl w h
          · exact val_min b p dp d s lim x y vo hc hw hcc hl hfr hdl w h
          · exact val_true b p dp d s lim x y vo hc hw hcc hl hfr hdl w h
          · exact val_false b p dp d s lim x y vo hc hw hcc hl hfr hdl w h
          · exact val_null b p dp d s lim x y vo hc hw hcc hl hfr hdl w h
          · exact val_dig b p dp d c s lim x y vo hc hw hcc hl hfr hdl hdc w h
  intro d
  induction d with
  | zero => exact main 0 (fun e he => by omega)
  | succ d ih =>
    refine main (d + 1) (fun e he => ?_)
    obtain rfl : e = d := by omega
    exact ⟨robject_any s lim hc e ih, array_any s lim hc e ih⟩
end Go.Proofs.Ytahojodgmjmpnaa

/-! The walk over the reference's Read, layer 16. -/
namespace Go.Proofs.Ytahojodgmjmpnaa
open Go.RowKit Go.Px

/-- A reader of layer 15, as a value. -/
def rdV (s : Bytes) (lim : Lim) (x : R5.St) : Value :=
  .agg #[S s, .int .i64 lim.d, .int .i64 lim.i, .int .i64 lim.b, .int .i64 lim.r, .slice none 0 0, .int .i64 x.err, .int .i64 x.place, .int .i64 (x.taken : Nat), .int .i64 (x.frames : Nat), .bool x.ended]
theorem rd_cells2 {w : World} {b T : Nat} {s : Bytes} {lim : Lim} {x : R5.St} {vn : Value} {tl : List Value} (h : Rd w b T s lim x vn tl) :
    w.cell? ⟨b, 4, none⟩ = some (.int .i64 lim.r) ∧ w.cell? ⟨b, 5, none⟩ = some vn := ⟨cellOf h.blk 4 (by simp [rdCells]), cellOf h.blk 5 (by simp [rdCells])⟩
def zero55 : Array Value := #[.string ByteArray.empty, .int .i64 0, .int .i64 0, .int .i64 0, .int .i64 0, .slice none 0 0, .int .i64 0, .int .i64 0, .int .i64 0, .int .i64 0, .bool false]
/-- While it is read: the reader and the block of the result are the call's own. -/
def RFin (w w4 : World) (s : Bytes) (lim : Lim) (y : R6.St) : Prop := ∃ vo, X6 w4 (w.heap.size + 1 + 1) s lim y vo ∧ Same w w4 ∧ w4.heap[w.heap.size + 1]? = some (.cells zero55 55 (0, 0)) ∧ (∀ k, foot6 (w.heap.size + 1 + 1) vo k → w.heap.size + 2 ≤ k)
theorem RFin.run {w w4 w5 : World} {s : Bytes} {lim : Lim} {z : R6.St} {vo vo' : Value} (h2 : Same w w4) (h3 : w4.heap[w.heap.size + 1]? = some (.cells zero55 55 (0, 0))) (h4 : ∀ k, foot6 (w.heap.size + 1 + 1) vo k → w.heap.size + 2 ≤ k)
    (hd : Run6 w4 (w.heap.size + 1 + 1) s lim vo z w5 vo') : RFin w w5 s lim z := by
  have hlt := ltOf h3
  refine ⟨vo', hd.x, ?_, ?_, ?_⟩
  · exact Fr.toSame ((h2.fr _).trans hd.fr (fun _ _ x => x)) (fun k hk => by have := h4 k hk; omega)
  · exact (hd.fr.block _ hlt (fun e => by have := h4 _ e; omega)).trans h3
  · intro k hk
    rcases hd.fresh k hk with e | e
    · exact h4 k e
    · omega
theorem RFin.it {w w4 w5 : World} {s : Bytes} {lim : Lim} {y z : R6.St} {vo : Value} (hx : X6 w4 (w.heap.size + 1 + 1) s lim y vo) (h2 : Same w w4) (h3 : w4.heap[w.heap.size + 1]? = some (.cells zero55 55 (0, 0))) (h4 : ∀ k, foot6 (w.heap.size + 1 + 1) vo k → w.heap.size + 2 ≤ k)
    (k1 : X6 w5 (w.heap.size + 1 + 1) s lim z vo) (k2 : Fr (It (w.heap.size + 1 + 1)) w4 w5) : RFin w w5 s lim z := RFin.run h2 h3 h4 ((Run6.refl hx).it k1 k2)
theorem RFin.begin (w : World) (s : Bytes) (lim : Lim) : RFin w (((w.alloc (.cells #[.int .i64 lim.d, .int .i64 lim.i, .int .i64 lim.b, .int .i64 lim.r] 24 (0, 0))).alloc (.cells zero55 55 (0, 0))).alloc (.cells #[S s, .int .i64 lim.d, .int .i64 lim.i, .int .i64 lim.b, .int .i64 lim.r, .slice none 0 0, .int .i64 0, .int .i64 0, .int .i64 0, .int .i64 0, .bool false, .slice none 0 0] 76 (0, 0))) s lim R6.start := by
  have hcs : rdCells s lim R6.start.r (.slice none 0 0) [.slice none 0 0] = #[S s, .int .i64 lim.d, .int .i64 lim.i, .int .i64 lim.b, .int .i64 lim.r, .slice none 0 0, .int .i64 0, .int .i64 0, .int .i64 0, .int .i64 0, .bool false, .slice none 0 0] := rfl
  refine ⟨.slice none 0 0, ⟨⟨?_⟩, owns_nil _ _ _ _, fun k hk => by simp [Value.ownBlock] at hk⟩, (((Fr.refl _ w).alloc _).alloc _).alloc _, ?_, ?_⟩
  · rw [hcs]
    have := heap_alloc_new ((w.alloc (.cells #[.int .i64 lim.d, .int .i64 lim.i, .int .i64 lim.b, .int .i64 lim.r] 24 (0, 0))).alloc (.cells zero55 55 (0, 0))) (.cells #[S s, .int .i64 lim.d, .int .i64 lim.i, .int .i64 lim.b, .int .i64 lim.r, .slice none 0 0, .int .i64 0, .int .i64 0, .int .i64 0, .int .i64 0, .bool false, .slice none 0 0] 76 (0, 0))
    simpa using this
  · rw [Below.heap_alloc _ _ _ (by simp)]
    have := heap_alloc_new (w.alloc (.cells #[.int .i64 lim.d, .int .i64 lim.i, .int .i64 lim.b, .int .i64 lim.r] 24 (0, 0))) (.cells zero55 55 (0, 0))
    simpa using this
  · rintro k (rfl | hk)
    · omega
    · simp [Value.ownBlock] at hk
theorem chain11 (w : World) (b : Nat) (v0 v1 v2 v3 v4 v5 v6 v7 v8 v9 v10 : Value) : Fr (fun k => k = b) w (((((((((((w.setCell ⟨b, 0, none⟩ v0).setCell ⟨b, 1, none⟩ v1).setCell ⟨b, 2, none⟩ v2).setCell ⟨b, 3, none⟩ v3).setCell ⟨b, 4, none⟩ v4).setCell ⟨b, 5, none⟩ v5).setCell ⟨b, 6, none⟩ v6).setCell ⟨b, 7, none⟩ v7).setCell ⟨b, 8, none⟩ v8).setCell ⟨b, 9, none⟩ v9).setCell ⟨b, 10, none⟩ v10).drew := ((((((((((((Fr.refl (fun k => k = b) w).setCell (p := ⟨b, 0, none⟩) (.inl rfl) v0).setCell (p := ⟨b, 1, none⟩) (.inl rfl) v1).setCell (p := ⟨b, 2, none⟩) (.inl rfl) v2).setCell (p := ⟨b, 3, none⟩) (.inl rfl) v3).setCell (p := ⟨b, 4, none⟩) (.inl rfl) v4).setCell (p := ⟨b, 5, none⟩) (.inl rfl) v5).setCell (p := ⟨b, 6, none⟩) (.inl rfl) v6).setCell (p := ⟨b, 7, none⟩) (.inl rfl) v7).setCell (p := ⟨b, 8, none⟩) (.inl rfl) v8).setCell (p := ⟨b, 9, none⟩) (.inl rfl) v9).setCell (p := ⟨b, 10, none⟩) (.inl rfl) v10).drew
theorem rfin_same {w w4 w5 : World} (h : Same w w4) (hc : Fr (fun k => k = w.heap.size + 1) w4 w5) : Same w w5 :=
  Fr.toSame ((h.fr (fun k => k = w.heap.size + 1)).trans hc (fun _ _ x => x)) (fun k hk => by omega)
/-- How the reading ends. -/
def Ends (s : Bytes) (lim : Lim) (r : Bool × R6.St) : Prop := R6.read s lim = (if r.1 then r.2.out else [], r.2.r)
/-- Behind the value. -/
def Rest (s : Bytes) (lim : Lim) (RR : Bool × R6.St) (ok : Bool) (k : Nat) (y : R6.St) : Prop := if ok then ∃ m, s.length + 1 ≤ m + k ∧ R6.restN s lim m y k = RR else RR = (false, y)
theorem Rest.no {s : Bytes} {lim : Lim} {RR : Bool × R6.St} {k : Nat} {y : R6.St} (h : RR = (false, y)) : Rest s lim RR false k y := h
theorem Rest.end_ {s : Bytes} {lim : Lim} {RR : Bool × R6.St} {k : Nat} {y : R6.St} (h : Rest s lim RR true k y) (hk : ¬ k < s.length) : RR = (true, y) := by
  obtain ⟨m, _, h⟩ := h
  rw [← h]
  cases m with
  | zero => rfl
  | succ m => unfold R6.restN; rw [if_neg hk]
theorem Rest.on {s : Bytes} {lim : Lim} {RR : Bool × R6.St} {k : Nat} {y : R6.St} (h : Rest s lim RR true k y) (hk : k < s.length) : match R6.want s lim y k with
    | (false, z) => Rest s lim RR false (k + 1) z
    | (true, z) => if R6.blank (R6.at_ s k) then Rest s lim RR true (k + 1) z else Rest s lim RR false (k + 1) (R6.fault z k 9) := by
  obtain ⟨m, hm, h⟩ := h
  obtain ⟨m, rfl⟩ : ∃ n, m = n + 1 := ⟨m - 1, by omega⟩
  unfold R6.restN at h
  rw [if_pos hk] at h
  cases hw : R6.want s lim y k with
  | mk q z =>
    rw [hw] at h
    cases q with
    | false => exact h.symm
    | true =>
      simp only at h ⊢
      by_cases hb : R6.blank (R6.at_ s k) = true
      · rw [if_pos hb] at h ⊢
        exact ⟨m, by omega, h⟩
      · rw [if_neg hb] at h ⊢
        exact h.symm
theorem tup_parts (o : Option Nat) : ∃ (a : Nat) (k : Bool), tupV o = .tuple #[.int .i64 (a : Nat), .bool k] ∧ o = if k then some a else none := by
  cases o with
  | none => exact ⟨0, false, rfl, rfl⟩
  | some q => exact ⟨q, true, rfl, rfl⟩
def RdSt (w : World) (s : Bytes) (lim : Lim) (RR : Bool × R6.St) (a ok : Value) (wr : World) : Prop := ∃ (k : Nat) (okb : Bool) (y : R6.St), a = .int .i64 (k : Nat) ∧ ok = .bool okb ∧ k ≤ s.length ∧ Hid (RFin w wr s lim y) ∧ Hid (Rest s lim RR okb k y)
set_option maxRecDepth 100000 in
set_option maxHeartbeats 8000000 in
theorem read16_any (s : Bytes) (lim : Lim) (w : World) (hc : Ctx s lim) :
    Calls Try.prog 21 #[S s, limV lim] w fun r w' => ∃ v, r = .returned (.tuple #[v, rdV s lim (R6.read s lim).2]) ∧ Owns w' 64 3 cVal v (R6.read s lim).1 ∧ Same w w' ∧ (∀ g, v.ownBlock = some g → w.heap.size ≤ g) := by
  have hmay := J6.may_of hc.may
  have hlen := hc.len
  have HM := Px.hid (And.intro hc hmay)
  have hsz : (ByteArray.mk s.toArray).size = s.length := size_S s
  have HF := Px.hid (RFin.begin w s lim)
  obtain ⟨RR, hRR⟩ : ∃ RR : Bool × R6.St, RR = (match R6.pass s lim R6.start 0 with
    | (none, y) => (false, y)
    | (some p, y) => match R6.value s lim lim.d.toNat y p with
      | (none, z) => (false, z)
      | (some q, z) => R6.restN s lim (s.length + 1 - q) z q) := ⟨_, rfl⟩
  have hE : Ends s lim RR := by
    rw [hRR]
    unfold Ends R6.read
    cases R6.pass s lim R6.start 0 with
    | mk o y =>
      cases o with
      | none => rfl
      | some p =>
        simp only
        cases R6.value s lim lim.d.toNat y p with
        | mk o z =>
          cases o with
          | none => rfl
          | some q =>
            simp only
            cases R6.restN s lim (s.length + 1 - q) z q with
            | mk o u => cases o <;> rfl
  have HE := Px.hid hE
  have HCP := Px.hid (fun (w : World) (b : Nat) (vo : Value) (h : X6 w b s lim R6.start vo) => pass6 b 0 s lim R6.start vo hc (Nat.zero_le _) w h)
  have hpo := fun y q => R6.pass_ok (s := s) (lim := lim) (x := R6.start) (p := 0) (q := q) (y := y)
  obtain ⟨⟨o, y⟩, hres⟩ : ∃ r, R6.pass s lim R6.start 0 = r := ⟨_, rfl⟩
  have hpo := hpo y
  rw [hres] at hRR hpo
  simp only [hres] at HCP
  have HO := Px.hid hpo
  have HRR := Px.hid hRR
  clear hE hRR hres hpo hc hmay
  unfold limV
  go_enter Try.func21, Try.ntmps21
  go_wp2_with fail
  obtain ⟨vo0, h1, h2, h3, h4⟩ := HF.out
  have H0 := Px.hid (And.intro h1 (And.intro h2 (And.intro h3 h4)))
  clear h1 h2 h3 h4 HF
  refine (HCP.out _ _ _ H0.out.1).mono ?_
  rintro e w1 ⟨rfl, h1, h2, _⟩
  have HR1 := Px.hid (RFin.it H0.out.1 H0.out.2.1 H0.out.2.2.1 H0.out.2.2.2 h1 h2)
  have HX1 := Px.hid h1
  clear h1 h2 H0 HCP
  obtain ⟨a0, okb, htv, ho⟩ := tup_parts o
  rw [htv]
  have HTV := Px.hid (And.intro htv ho)
  clear htv ho
  go_upto_if 19 with fail
  go_cut [7, 8] (fun a ok wx => RdSt w s lim RR a ok wx)
  case first =>
    cases okb with
    | false =>
      have ho : o = none := HTV.out.2
      subst ho
      go_wp2_with fail
      go_meet
      exact ⟨a0, false, y, rfl, rfl, by have := HTV.out.1; unfold tupV at this; simp at this; omega, HR1, Px.hid (Rest.no HRR.out)⟩
    | true =>
      have ho : o = some a0 := HTV.out.2
      subst ho
      obtain ⟨k1, k2, k3⟩ := HO.out a0 rfl
      have hyo : y.out = [] := k1.1
      have hyf : y.r.frames = 0 := k1.2
      have HCV := Px.hid (rvalue_any s lim HM.out.1 lim.d.toNat (w.heap.size + 1 + 1) a0 0 y vo0 w1 HX1.out (Nat.le_of_lt k3) hyf (by have := HM.out.2; omega))
      have hrr := HRR.out
      simp only at hrr
      have hvo := fun q z => R6.value_ok s lim lim.d.toNat y a0 q z
      obtain ⟨⟨o2, z⟩, hres⟩ : ∃ r, R6.value s lim lim.d.toNat y a0 = r := ⟨_, rfl⟩
      rw [hres] at hrr HCV
      have hvo := fun q => hvo q z
      have HRR2 := Px.hid hrr
      have HVO := Px.hid (fun q (h : o2 = some q) => hvo q (by rw [hres, h]))
      clear hrr hres hvo hyo hyf k1 k2 HRR HO HTV
      go_wp2_with fail
      refine HCV.out.mono ?_
      rintro e w2 ⟨rfl, hd⟩
      obtain ⟨vo2, hd⟩ := hd
      have HR2 := Px.hid (show RFin w w2 s lim z from by
        obtain ⟨vo, h1, h2, h3, h4⟩ := HR1.out
        have e : vo = vo0 := Option.some.inj (h1.cell11.symm.trans HX1.out.cell11)
        subst e
        exact RFin.run h2 h3 h4 hd)
      clear hd k3
      cases o2 with
      | none =>
        unfold tupV
        go_wp2_with fail
        go_meet
        exact ⟨0, false, z, rfl, rfl, Nat.zero_le _, HR2, Px.hid (Rest.no HRR2.out)⟩
      | some q =>
        unfold tupV
        go_wp2_with fail
        go_meet
        exact ⟨q, true, z, rfl, rfl, (HVO.out q rfl).ps, HR2, Px.hid ⟨s.length + 1 - q, by have := (HVO.out q rfl).ps; omega, HRR2.out.symm⟩⟩
  case rest =>
    have HC := Px.hid hcut
    clear hcut HR1 HX1 HTV HRR HO
    obtain ⟨wo, hwo⟩ : ∃ wo : World, wo = wc := ⟨_, rfl⟩
    subst hwo
    go_wp2
    go_loopw [7, 8] (fun a ok wr => RdSt w s lim RR a ok wr) (fun a _ _ => s.length + 1 - (intOf a).toNat)
    case atStart => exact HC.out
    case round =>
      clear HC
      obtain ⟨k, okb, y, rfl, rfl, hk, HR, HT⟩ := hrel
      cases okb with
      | false =>
        have HS := Px.hid (show R6.read s lim = ([], y.r) by have := HE.out; rw [show RR = (false, y) from HT.out] at this; exact this)
        clear HT HE
        obtain ⟨vo, h1, h2, h3, h4⟩ := HR.out
        obtain ⟨c0, c1, c2, c3, c6, c7, c8, c9, c10⟩ := h1.rd.cells
        obtain ⟨c4, c5⟩ := rd_cells2 h1.rd
        have c11 := h1.cell11
        have hz : ∀ i v, zero55[i]? = some v → wr.cell? ⟨w.heap.size + 1, i, none⟩ = some v := fun i v e => cellOf h3 i e
        have z0 := hz 0 _ rfl
        have z1 := hz 1 _ rfl
        have z2 := hz 2 _ rfl
        have z3 := hz 3 _ rfl
        have z4 := hz 4 _ rfl
        have z5 := hz 5 _ rfl
        have z6 := hz 6 _ rfl
        have z7 := hz 7 _ rfl
        have z8 := hz 8 _ rfl
        have z9 := hz 9 _ rfl
        have z10 := hz 10 _ rfl
        have zf : ∀ i, wr.frozen? ⟨w.heap.size + 1, i, none⟩ = false := freeOf h3
        have f0 := zf 0
        have f1 := zf 1
        have f2 := zf 2
        have f3 := zf 3
        have f4 := zf 4
        have f5 := zf 5
        have f6 := zf 6
        have f7 := zf 7
        have f8 := zf 8
        have f9 := zf 9
        have f10 := zf 10
        have HK := Px.hid (And.intro h1 (And.intro h2 (And.intro h3 h4)))
        clear h1 h2 h3 h4 hz zf HR
        go_wp2_with fail
        go_region
        all_goals
          go_wp2
          refine bodyPost_ret (v := .tuple #[.slice none 0 0, rdV s lim y.r]) (by simp [results, Try.results21, go_sem, rdV, z0, z1, z2, z3, z4, z5, z6, z7, z8, z9, z10]) rfl ?_
          rw [HS.out]
          refine ⟨_, rfl, owns_nil _ _ _ _, ?_, fun g hg => by simp [Value.ownBlock] at hg⟩
          exact rfin_same HK.out.2.1 (chain11 _ _ _ _ _ _ _ _ _ _ _ _ _)
      | true =>
        by_cases hlt : k < s.length
        · have hltz : (k : Int) < (s.length : Int) := by omega
          have hon := HT.out.on hlt
          have hk2 : k ≤ 1000000 := by omega
          have hwk := wrap1 k hk2
          have hix := idx6 s k hlt
          obtain ⟨vo, h1, h2, h3, h4⟩ := HR.out
          have HW := Px.hid (want6 (w.heap.size + 1 + 1) k s lim y vo HM.out.1 (by omega) wr h1)
          have HX := Px.hid (And.intro h1 (And.intro h2 (And.intro h3 h4)))
          obtain ⟨⟨q, z⟩, hres⟩ : ∃ r, R6.want s lim y k = r := ⟨_, rfl⟩
          rw [hres] at hon HW
          clear h1 h2 h3 h4 hres HT HR
          cases q with
          | false =>
            have HT2 := Px.hid (show Rest s lim RR false (k + 1) z from hon)
            have HLT := Px.hid hlt
            clear hon hix hlt
            go_wp2_with fail
            refine HW.out.mono ?_
            rintro e w3 ⟨rfl, h1, h2⟩
            have HR3 := Px.hid (RFin.it HX.out.1 HX.out.2.1 HX.out.2.2.1 HX.out.2.2.2 h1 h2)
            clear h1 h2
            go_wp2
            go_roundw
            case rel => exact ⟨k + 1, false, z, by go_num, rfl, HLT.out, HR3, HT2⟩
            case measure => have := HLT.out; simp [intOf]; omega
          | true =>
            obtain ⟨c, hcc⟩ : ∃ c, R6.at_ s k = c := ⟨_, rfl⟩
            simp only at hon
            rw [hcc] at hon
            simp only [hcc] at hix
            have HB := Px.hid (fun w => blank6 c w)
            obtain ⟨bb, hbb⟩ : ∃ bb, R6.blank c = bb := ⟨_, rfl⟩
            rw [hbb] at hon
            simp only [hbb] at HB
            have HON := Px.hid hon
            have HLT := Px.hid hlt
            clear hon hcc hbb hlt
            go_wp2_with fail
            refine HW.out.mono ?_
            rintro e w3 ⟨rfl, h1, h2⟩
            have HX3 := Px.hid h1
            have HR3 := Px.hid (RFin.it HX.out.1 HX.out.2.1 HX.out.2.2.1 HX.out.2.2.2 h1 h2)
            clear h1 h2
            go_wp2_with fail
            refine (HB.out _).mono ?_
            rintro e w3b ⟨rfl, rfl⟩
            cases bb with
            | true =>
              go_wp2
              go_roundw
              case rel => exact ⟨k + 1, true, z, by go_num, rfl, HLT.out, HR3, Px.hid (by simpa using HON.out)⟩
              case measure => have := HLT.out; simp [intOf]; omega
            | false =>
              go_wp2_with fail
              refine (fault6 (w.heap.size + 1 + 1) k 9 s lim z vo _ HX3.out).mono ?_
              rintro e w4 ⟨rfl, h1, h2⟩
              have HR4 := Px.hid (show RFin w w4 s lim (R6.fault z k 9) from by
                obtain ⟨vo1, k1, k2, k3, k4⟩ := HR3.out
                have e : vo1 = vo := Option.some.inj (k1.cell11.symm.trans HX3.out.cell11)
                subst e
                exact RFin.it k1 k2 k3 k4 h1 h2)
              clear h1 h2
              go_wp2
              go_roundw
              case rel => exact ⟨k + 1, false, R6.fault z k 9, by go_num, rfl, HLT.out, HR4, Px.hid (by simpa using HON.out)⟩
              case measure => have := HLT.out; simp [intOf]; omega
        · have hltz : ¬ (k : Int) < (s.length : Int) := by omega
          have HS := Px.hid (show R6.read s lim = (y.out, y.r) by have := HE.out; rw [HT.out.end_ hlt] at this; exact this)
          clear HT HE hlt
          obtain ⟨vo, h1, h2, h3, h4⟩ := HR.out
          obtain ⟨c0, c1, c2, c3, c6, c7, c8, c9, c10⟩ := h1.rd.cells
          obtain ⟨c4, c5⟩ := rd_cells2 h1.rd
          have c11 := h1.cell11
          have hz : ∀ i v, zero55[i]? = some v → wr.cell? ⟨w.heap.size + 1, i, none⟩ = some v := fun i v e => cellOf h3 i e
          have z0 := hz 0 _ rfl
          have z1 := hz 1 _ rfl
          have z2 := hz 2 _ rfl
          have z3 := hz 3 _ rfl
          have z4 := hz 4 _ rfl
          have z5 := hz 5 _ rfl
          have z6 := hz 6 _ rfl
          have z7 := hz 7 _ rfl
          have z8 := hz 8 _ rfl
          have z9 := hz 9 _ rfl
          have z10 := hz 10 _ rfl
          have zf : ∀ i, wr.frozen? ⟨w.heap.size + 1, i, none⟩ = false := freeOf h3
          have f0 := zf 0
          have f1 := zf 1
          have f2 := zf 2
          have f3 := zf 3
          have f4 := zf 4
          have f5 := zf 5
          have f6 := zf 6
          have f7 := zf 7
          have f8 := zf 8
          have f9 := zf 9
          have f10 := zf 10
          have HK := Px.hid (And.intro h1 (And.intro h2 (And.intro h3 h4)))
          clear h1 h2 h3 h4 hz zf HR
          go_wp2_with fail
          go_region
          all_goals
            go_wp2
            refine bodyPost_ret (v := .tuple #[vo, rdV s lim y.r]) (by simp [results, Try.results21, go_sem, rdV, z0, z1, z2, z3, z4, z5, z6, z7, z8, z9, z10]) rfl ?_
            rw [HS.out]
            have hch := chain11 wr (w.heap.size + 1) (S s) (.int .i64 lim.d) (.int .i64 lim.i) (.int .i64 lim.b) (.int .i64 lim.r) (.slice none 0 0) (.int .i64 y.r.err) (.int .i64 y.r.place) (.int .i64 (y.r.taken : Nat)) (.int .i64 (y.r.frames : Nat)) (.bool y.r.ended)
            refine ⟨vo, rfl, Owns.fr HK.out.1.out hch (fun k hk e => by have := HK.out.2.2.2 k (.inr hk); omega), rfin_same HK.out.2.1 hch, fun g hg => by have := HK.out.2.2.2 g (.inr hg); omega⟩
end Go.Proofs.Ytahojodgmjmpnaa

/-! The walks over the reference's Same (layer 16) and the statements' read (layer 19) (turned from layer 17 and 20 by mk_sm6.py). -/
namespace Go.Proofs.Ytahojodgmjmpnaa
open Go.RowKit Go.Px

set_option maxRecDepth 100000 in
set_option maxHeartbeats 2000000 in
theorem same_any (w : World) (va vb : Value) (l : List Val) (ha : Owns w 64 3 cVal va l) (hb : Owns w 64 3 cVal vb l) :
    Calls Try.prog 14 #[va, vb] w fun r w' => r = .returned (.bool true) ∧ Same w w' := by
  obtain ⟨aa, ac, hva, hac1, hac2, _⟩ := ha.len
  obtain ⟨ba, bc, hvb, _, _, _⟩ := hb.len
  subst hva hvb
  have HA := Px.hid (And.intro ha hb)
  have hlm : l.length ≤ maxLen := Nat.le_trans hac1 hac2
  unfold maxLen at hlm
  clear ha hb hac1 hac2
  go_enter Try.func14, Try.ntmps14
  go_wp2
  go_loopw [5] (fun i wr => ∃ k : Nat, k ≤ l.length ∧ i = .int .i64 (k : Nat) ∧ Same w wr) (fun i _ => l.length - (intOf i).toNat)
  case atStart => exact ⟨0, Nat.zero_le _, rfl, Same.refl w⟩
  case round =>
    obtain ⟨k, hk, rfl, hs⟩ := hrel
    by_cases hlt : k < l.length
    · have hltz : (k : Int) < (l.length : Int) := by omega
      obtain ⟨g1, p1, e1, _, _, c1, _⟩ := (Owns.same HA.out.1 hs).at cVal_len (j := k) (a := l[k]) (by simp [hlt])
      obtain ⟨g2, p2, e2, _, _, c2, _⟩ := (Owns.same HA.out.2 hs).at cVal_len (j := k) (a := l[k]) (by simp [hlt])
      simp only [Value.slice.injEq, true_and] at e1 e2
      obtain ⟨rfl, rfl⟩ := e1
      obtain ⟨rfl, rfl⟩ := e2
      have x0 := c1 0 _ rfl
      have x1 := c1 1 _ rfl
      have x2 := c1 2 _ rfl
      have y0 := c2 0 _ rfl
      have y1 := c2 1 _ rfl
      have y2 := c2 2 _ rfl
      have HS := Px.hid hs
      clear c1 c2 hs HA
      obtain ⟨kd, hkd⟩ : ∃ kd, kd = l[k].kind := ⟨_, rfl⟩
      obtain ⟨nm, hnm⟩ : ∃ nm, nm = l[k].kids := ⟨_, rfl⟩
      obtain ⟨tx, htx⟩ : ∃ tx, tx = l[k].text := ⟨_, rfl⟩
      rw [← hkd] at x0 y0
      rw [← hnm] at x1 y1
      rw [← htx] at x2 y2
      clear hkd hnm htx
      rw [Nat.add_zero] at x0 y0
      go_wp2_with fail
      go_quiet (fail)
      go_wp2
      go_roundw
      case rel => exact ⟨k + 1, by omega, by go_num, (HS.out.drewN nq)⟩
      case measure => simp [intOf]; omega
    · have hltz : ¬ (k : Int) < (l.length : Int) := by omega
      have HS := Px.hid hs
      clear hs
      go_wp2
      go_ret
      exact ⟨rfl, HS.out⟩

/-- What the statements' read hands back. -/
def readV (v : Value) (x : R5.St) : Value := .tuple #[v, .int .i64 x.place, .int .i64 x.err, .int .i64 (x.taken : Nat), .int .i64 (x.frames : Nat), .int .i64 (if x.ended then 0 else x.err)]
set_option maxRecDepth 100000 in
set_option maxHeartbeats 2000000 in
theorem lawread_any (s : Bytes) (lim : Lim) (w : World) (hc : Ctx s lim) :
    Calls Try.prog 12 #[S s, limV lim] w fun r w' => ∃ v, r = .returned (readV v (R6.read s lim).2) ∧ Owns w' 64 3 cVal v (R6.read s lim).1 ∧ Same w w' := by
  have HM := Px.hid hc
  clear hc
  unfold limV
  go_enter Try.func12, Try.ntmps12
  go_wp2_with fail
  refine (read16_any s lim _ HM.out).mono ?_
  rintro e w1 ⟨v, rfl, hv, hs, hvf⟩
  have HV := Px.hid (And.intro hv (And.intro (Same.trans ((Fr.refl (fun _ => False) w).alloc _) hs) hvf))
  clear hv hs hvf
  obtain ⟨x, hx⟩ : ∃ x, x = (R6.read s lim).2 := ⟨_, rfl⟩
  rw [← hx]
  have HX := Px.hid hx
  clear hx
  unfold rdV
  cases he : x.ended
  · have HR := Px.hid (show readV v x = .tuple #[v, .int .i64 x.place, .int .i64 x.err, .int .i64 (x.taken : Nat), .int .i64 (x.frames : Nat), .int .i64 x.err] by unfold readV; rw [he]; rfl)
    clear he
    go_wp2_with fail
    go_quiet (fail)
    go_wp2
    refine bodyPost_ret (v := .tuple #[v, .int .i64 x.place, .int .i64 x.err, .int .i64 (x.taken : Nat), .int .i64 (x.frames : Nat), .int .i64 x.err]) (by simp [results, Try.results12, go_sem]) rfl ?_
    rw [← HX.out]
    refine ⟨v, congrArg Ending.returned HR.out.symm, ?_⟩
    exact ⟨(HV.out.1.alloc _).drewN nq, (HV.out.2.1.alloc _).drewN nq⟩
  · have HR := Px.hid (show readV v x = .tuple #[v, .int .i64 x.place, .int .i64 x.err, .int .i64 (x.taken : Nat), .int .i64 (x.frames : Nat), .int .i64 0] by unfold readV; rw [he]; rfl)
    clear he
    go_wp2_with fail
    go_quiet (fail)
    go_wp2
    refine bodyPost_ret (v := .tuple #[v, .int .i64 x.place, .int .i64 x.err, .int .i64 (x.taken : Nat), .int .i64 (x.frames : Nat), .int .i64 0]) (by simp [results, Try.results12, go_sem]) rfl ?_
    rw [← HX.out]
    refine ⟨v, congrArg Ending.returned HR.out.symm, ?_⟩
    exact ⟨(HV.out.1.alloc _).drewN nq, (HV.out.2.1.alloc _).drewN nq⟩
end Go.Proofs.Ytahojodgmjmpnaa

/-! The walks over the statements JsonfeedPieces and JsonfeedStates. -/
namespace Go.Proofs.Ytahojodgmjmpnaa
open Go.RowKit Go.Px

/-- A slice that reads as these strings. -/
structure StrsAt (w : World) (v : Value) (ss : List Bytes) : Prop where
  slice : ∃ a cap, v = .slice a ss.length cap
  len : ss.length ≤ maxLen
  each : ∀ i (h : i < ss.length), ss[i].length ≤ maxLen
  cell : ∀ i (h : i < ss.length), ∃ b off cap, v = .slice (some ⟨b, off, none⟩) ss.length cap ∧ b < w.heap.size ∧ w.cell? ⟨b, off + i, none⟩ = some (S ss[i])
theorem StrsAt.same {w w' : World} {v : Value} {ss : List Bytes} (h : StrsAt w v ss) (hs : Same w w') : StrsAt w' v ss :=
  ⟨h.slice, h.len, h.each, fun i hi => by
    obtain ⟨b, off, cap, h1, h2, h3⟩ := h.cell i hi
    exact ⟨b, off, cap, h1, Nat.lt_of_lt_of_le h2 hs.size, (hs.cell (p := ⟨b, off + i, none⟩) h2 (fun x => x)).trans h3⟩⟩
theorem app_S (a b : List UInt8) : (ByteArray.mk a.toArray) ++ (ByteArray.mk b.toArray) = ⟨(a ++ b).toArray⟩ := by
  apply ByteArray.ext
  simp
/-- The pieces so far. -/
def upto (ss : List Bytes) (k : Nat) : Bytes := (ss.take k).flatten
theorem Own.sm {w w' : World} {b : Nat} {f : J6.Feed} (h : Own w w' b f) : Same w w' := by
  obtain ⟨_, _, _, h, _⟩ := h
  exact h
theorem upto_succ (ss : List Bytes) (k : Nat) (h : k < ss.length) : upto ss (k + 1) = upto ss k ++ ss[k] := by
  unfold upto
  rw [List.take_succ_eq_append_getElem h, List.flatten_append]
  simp

/-- What the feed tells, by the reference. -/
theorem feed_parts (s : Bytes) (lim : Lim) (hm : lim.may = true) : (if (R6.read s lim).2.ended then 0 else (R6.read s lim).2.err) = (J6.write (J6.init lim) s).err ∧
    J6.End (J6.write (J6.init lim) s) = ((R6.read s lim).1, (R6.read s lim).2.place, (R6.read s lim).2.err) ∧ (J6.write (J6.init lim) s).n = (R6.read s lim).2.taken ∧ (J6.write (J6.init lim) s).stack.length = (R6.read s lim).2.frames := by
  have h := J6.feed_ref s lim hm
  unfold J6.obs at h
  simp only [Prod.mk.injEq] at h
  obtain ⟨h1, h2, h3, h4⟩ := h
  exact ⟨h1.symm, h4, h2, h3⟩
theorem feed_now (s : Bytes) (lim : Lim) (hm : lim.may = true) : (if (R6.read s lim).2.ended then 0 else (R6.read s lim).2.err) = (J6.write (J6.init lim) s).err := (feed_parts s lim hm).1

set_option maxRecDepth 100000 in
set_option maxHeartbeats 4000000 in
theorem law_JsonfeedPieces {v : Value} (ss : List Bytes) (l : Lim) (w : World) (hv : StrsAt w v ss) :
    Calls Try.prog 3 #[v, limV l] w fun e w' => e = .returned (.bool true) ∧ Below w.heap.size w w' := by
  have HV := Px.hid hv
  obtain ⟨va, vc, hvs⟩ := hv.slice
  have hlm := hv.len
  unfold maxLen at hlm
  subst hvs
  clear hv
  unfold limV
  go_enter Try.func3, Try.ntmps3
  go_wp2_with fail
  have HL := Px.hid (LimIn.boxed w l)
  refine (wakes_any _).mono ?_
  rintro e w1 ⟨rfl, hs⟩
  have HL := Px.hid (HL.out.same hs)
  have HL1 := HL
  have HV := Px.hid (HV.out.same HL.out.1)
  clear hs
  obtain ⟨c0, c1, c2, c3⟩ := HL.out.cells
  cases hm : l.may
  · have HM := Px.hid hm
    clear hm
    go_wp2_with fail
    refine (new_no l _ HM.out).mono ?_
    rintro e w2 ⟨rfl, hs⟩
    have HL := Px.hid (HL.out.same hs)
    clear hs c0 c1 c2 c3
    obtain ⟨c0, c1, c2, c3⟩ := HL.out.cells
    go_wp2_with fail
    refine (refMay_any l _).mono ?_
    rintro e w3 ⟨rfl, hs⟩
    have HL := Px.hid (HL.out.same hs)
    clear hs
    rw [HM.out]
    go_wp2
    go_ret
    exact ⟨rfl, HL.out.1.below⟩
  · have HM := Px.hid hm
    clear hm
    go_wp2_with fail
    refine (Own.new (Same.refl w1) HM.out).mono ?_
    rintro e w2 ⟨b, rfl, ho, hs, hb⟩
    have HO := Px.hid ho
    have HL := Px.hid (HL.out.same hs)
    clear ho hs hb c0 c1 c2 c3
    obtain ⟨c0, c1, c2, c3⟩ := HL.out.cells
    go_wp2_with fail
    refine (refMay_any l _).mono ?_
    rintro e w3 ⟨rfl, hs⟩
    have HO := Px.hid (HO.out.same hs)
    have HL := Px.hid (HL.out.same hs)
    clear hs c0 c1 c2 c3
    rw [HM.out]
    by_cases h100 : 100 < ss.length
    · have hz : (100 : Int) < (ss.length : Int) := by omega
      clear h100
      go_wp2
      go_ret
      exact ⟨rfl, HL.out.1.below⟩
    · have hz : ¬ (100 : Int) < (ss.length : Int) := by omega
      go_wp2
      go_loopw [7, 60] (fun al i wr => ∃ k : Nat, k ≤ ss.length ∧ i = .int .i64 (k : Nat) ∧ al = S (upto ss k) ∧ Hid ((upto ss k).length ≤ 4000 ∧ Own w1 wr b (J6.write (J6.init l) (upto ss k)))) (fun _ i _ => ss.length - (intOf i).toNat)
      case atStart => exact ⟨0, Nat.zero_le _, rfl, rfl, Px.hid ⟨by simp [upto], HO.out⟩⟩
      case round =>
        clear HO HL
        obtain ⟨k, hk, rfl, rfl, HR⟩ := hrel
        obtain ⟨hl4, ho⟩ := HR.out
        obtain ⟨c0, c1, c2, c3⟩ := (HL1.out.same ho.sm).cells
        have hsz : (ByteArray.mk (upto ss k).toArray).size = (upto ss k).length := size_S _
        by_cases hlt : k < ss.length
        · have hltz : (k : Int) < (ss.length : Int) := by omega
          obtain ⟨vb, voff, vc2, hve, hvb, hcell⟩ := HV.out.cell k hlt
          simp only [Value.slice.injEq, true_and] at hve
          obtain ⟨rfl, rfl⟩ := hve
          have hcell := (ho.sm.cell (p := ⟨vb, voff + k, none⟩) hvb (fun x => x)).trans hcell
          have HUP := Px.hid (upto_succ ss k hlt)
          have hpl := HV.out.each k hlt
          unfold maxLen at hpl
          obtain ⟨pc, hpc⟩ : ∃ pc, pc = ss[k] := ⟨_, rfl⟩
          rw [← hpc] at hcell HUP hpl
          have hpsz : (ByteArray.mk pc.toArray).size = pc.length := size_S _
          clear hpc ho
          by_cases h2000 : 2000 < (upto ss k).length
          · have z1 : (2000 : Int) < ((upto ss k).length : Int) := by omega
            clear h2000
            go_wp2
            go_ret
            exact ⟨rfl, (HL1.out.1.trans HR.out.2.sm).below⟩
          · have z1 : ¬ (2000 : Int) < ((upto ss k).length : Int) := by omega
            by_cases hp2000 : 2000 < pc.length
            · have z2 : (2000 : Int) < (pc.length : Int) := by omega
              clear h2000 hp2000
              go_wp2
              go_ret
              exact ⟨rfl, (HL1.out.1.trans HR.out.2.sm).below⟩
            · have z2 : ¬ (2000 : Int) < (pc.length : Int) := by omega
              have happ := app_S (upto ss k) pc
              have HLL := Px.hid (show (upto ss k ++ pc).length ≤ 4000 by rw [List.length_append]; omega)
              have HPL := Px.hid (show pc.length ≤ maxLen by unfold maxLen; omega)
              clear h2000 hp2000
              go_wp2_with fail
              refine (HR.out.2.write pc HPL.out).mono ?_
              rintro e w4 ⟨rfl, ho⟩
              rw [← J6.write_app, ← HUP.out] at ho ⊢
              have hnow := feed_now (upto ss (k + 1)) l HM.out
              rw [← HUP.out] at HLL
              have HO := Px.hid ho
              clear c0 c1 c2 c3 hcell happ hpsz hsz
              obtain ⟨c0, c1, c2, c3⟩ := (HL1.out.same ho.sm).cells
              have HN := Px.hid hnow
              clear ho hnow
              go_wp2_with fail
              refine (lawread_any (upto ss (k + 1)) l _ ⟨by have := HLL.out; omega, HM.out⟩).mono ?_
              rintro e w5 ⟨vr, rfl, hvr, hs⟩
              unfold readV
              rw [HN.out]
              have HO := Px.hid (HO.out.same hs)
              clear hvr hs c0 c1 c2 c3
              go_wp2
              go_roundw
              case rel => exact ⟨k + 1, by omega, by go_num, rfl, Px.hid ⟨HLL.out, HO.out⟩⟩
              case measure => simp [intOf]; omega
        · have hltz : ¬ (k : Int) < (ss.length : Int) := by omega
          have hke : k = ss.length := by omega
          have hfr := feed_parts (upto ss k) l HM.out
          have HF := Px.hid (show J6.End (J6.write (J6.init l) (upto ss k)) = ((R6.read (upto ss k) l).1, (R6.read (upto ss k) l).2.place, (R6.read (upto ss k) l).2.err) from hfr.2.1)
          have HK := Px.hid hke
          clear hfr ho c0 c1 c2 c3 hke hk
          go_wp2_with fail
          refine HR.out.2.ends.mono ?_
          rintro e w4 ⟨ve, rfl, hve, hs, hvf⟩
          rw [HF.out] at hve ⊢
          have HO := Px.hid (HR.out.2.same hs)
          have HE := Px.hid hve
          clear hve hs hvf
          obtain ⟨c0, c1, c2, c3⟩ := (HL1.out.same HO.out.sm).cells
          go_wp2_with fail
          refine (lawread_any (upto ss k) l _ ⟨by have := HR.out.1; omega, HM.out⟩).mono ?_
          rintro e w5 ⟨vr, rfl, hvr, hs⟩
          unfold readV
          obtain ⟨nw, hnw⟩ : ∃ nw, nw = (if (R6.read (upto ss k) l).2.ended then 0 else (R6.read (upto ss k) l).2.err) := ⟨_, rfl⟩
          rw [← hnw]
          clear hnw
          have HO := Px.hid (HO.out.same hs)
          have HE := Px.hid (And.intro (Owns.same HE.out hs) hvr)
          clear hvr hs c0 c1 c2 c3
          go_wp2_with fail
          refine (same_any _ ve vr _ HE.out.1 HE.out.2).mono ?_
          rintro e w6 ⟨rfl, hs⟩
          have HO := Px.hid (HO.out.same hs)
          clear hs
          go_wp2
          go_ret
          exact ⟨rfl, (HL1.out.1.trans HO.out.sm).below⟩
set_option maxRecDepth 100000 in
set_option maxHeartbeats 4000000 in
theorem law_JsonfeedStates {v : Value} (ss : List Bytes) (l : Lim) (w : World) (hv : StrsAt w v ss) :
    Calls Try.prog 4 #[v, limV l] w fun e w' => e = .returned (.bool true) ∧ Below w.heap.size w w' := by
  have HV := Px.hid hv
  obtain ⟨va, vc, hvs⟩ := hv.slice
  have hlm := hv.len
  unfold maxLen at hlm
  subst hvs
  clear hv
  unfold limV
  go_enter Try.func4, Try.ntmps4
  go_wp2_with fail
  have HL := Px.hid (LimIn.boxed w l)
  refine (wakes_any _).mono ?_
  rintro e w1 ⟨rfl, hs⟩
  have HL := Px.hid (HL.out.same hs)
  have HL1 := HL
  have HV := Px.hid (HV.out.same HL.out.1)
  clear hs
  obtain ⟨c0, c1, c2, c3⟩ := HL.out.cells
  cases hm : l.may
  · have HM := Px.hid hm
    clear hm
    go_wp2_with fail
    refine (new_no l _ HM.out).mono ?_
    rintro e w2 ⟨rfl, hs⟩
    have HL := Px.hid (HL.out.same hs)
    clear hs c0 c1 c2 c3
    obtain ⟨c0, c1, c2, c3⟩ := HL.out.cells
    go_wp2_with fail
    refine (refMay_any l _).mono ?_
    rintro e w3 ⟨rfl, hs⟩
    have HL := Px.hid (HL.out.same hs)
    clear hs
    rw [HM.out]
    go_wp2
    go_ret
    exact ⟨rfl, HL.out.1.below⟩
  · have HM := Px.hid hm
    clear hm
    go_wp2_with fail
    refine (Own.new (Same.refl w1) HM.out).mono ?_
    rintro e w2 ⟨b, rfl, ho, hs, hb⟩
    have HO := Px.hid ho
    have HL := Px.hid (HL.out.same hs)
    clear ho hs hb c0 c1 c2 c3
    by_cases h100 : 100 < ss.length
    · have hz : (100 : Int) < (ss.length : Int) := by omega
      clear h100
      go_wp2
      go_ret
      exact ⟨rfl, HL.out.1.below⟩
    · have hz : ¬ (100 : Int) < (ss.length : Int) := by omega
      go_wp2
      go_loopw [7, 40] (fun al i wr => ∃ k : Nat, k ≤ ss.length ∧ i = .int .i64 (k : Nat) ∧ al = S (upto ss k) ∧ Hid ((upto ss k).length ≤ 4000 ∧ Own w1 wr b (J6.write (J6.init l) (upto ss k)))) (fun _ i _ => ss.length - (intOf i).toNat)
      case atStart => exact ⟨0, Nat.zero_le _, rfl, rfl, Px.hid ⟨by simp [upto], HO.out⟩⟩
      case round =>
        clear HO HL
        obtain ⟨k, hk, rfl, rfl, HR⟩ := hrel
        obtain ⟨hl4, ho⟩ := HR.out
        obtain ⟨c0, c1, c2, c3⟩ := (HL1.out.same ho.sm).cells
        have hsz : (ByteArray.mk (upto ss k).toArray).size = (upto ss k).length := size_S _
        by_cases hlt : k < ss.length
        · have hltz : (k : Int) < (ss.length : Int) := by omega
          obtain ⟨vb, voff, vc2, hve, hvb, hcell⟩ := HV.out.cell k hlt
          simp only [Value.slice.injEq, true_and] at hve
          obtain ⟨rfl, rfl⟩ := hve
          have hcell := (ho.sm.cell (p := ⟨vb, voff + k, none⟩) hvb (fun x => x)).trans hcell
          have HUP := Px.hid (upto_succ ss k hlt)
          have hpl := HV.out.each k hlt
          unfold maxLen at hpl
          obtain ⟨pc, hpc⟩ : ∃ pc, pc = ss[k] := ⟨_, rfl⟩
          rw [← hpc] at hcell HUP hpl
          have hpsz : (ByteArray.mk pc.toArray).size = pc.length := size_S _
          clear hpc ho
          by_cases h2000 : 2000 < (upto ss k).length
          · have z1 : (2000 : Int) < ((upto ss k).length : Int) := by omega
            clear h2000
            go_wp2
            go_ret
            exact ⟨rfl, (HL1.out.1.trans HR.out.2.sm).below⟩
          · have z1 : ¬ (2000 : Int) < ((upto ss k).length : Int) := by omega
            by_cases hp2000 : 2000 < pc.length
            · have z2 : (2000 : Int) < (pc.length : Int) := by omega
              clear h2000 hp2000
              go_wp2
              go_ret
              exact ⟨rfl, (HL1.out.1.trans HR.out.2.sm).below⟩
            · have z2 : ¬ (2000 : Int) < (pc.length : Int) := by omega
              have happ := app_S (upto ss k) pc
              have HLL := Px.hid (show (upto ss k ++ pc).length ≤ 4000 by rw [List.length_append]; omega)
              have HPL := Px.hid (show pc.length ≤ maxLen by unfold maxLen; omega)
              clear h2000 hp2000
              go_wp2_with fail
              refine (HR.out.2.write pc HPL.out).mono ?_
              rintro e w4 ⟨rfl, ho⟩
              rw [← J6.write_app, ← HUP.out] at ho ⊢
              have hfr := feed_parts (upto ss (k + 1)) l HM.out
              have hwi := J6.write_within (upto ss (k + 1)) l HM.out
              rw [← HUP.out] at HLL
              have HO := Px.hid ho
              clear c0 c1 c2 c3 hcell happ hpsz hsz
              have HFR := Px.hid (And.intro hfr.2.2.1 (And.intro hfr.2.2.2 hwi))
              clear ho hfr hwi
              go_wp2_with fail
              refine HO.out.ends.mono ?_
              rintro e w5 ⟨ve, rfl, hve, hs, hvf⟩
              have HO := Px.hid (HO.out.same hs)
              clear hve hs hvf
              go_wp2_with fail
              refine HO.out.state.mono ?_
              rintro e w6 ⟨rfl, hs⟩
              have HO := Px.hid (HO.out.same hs)
              clear hs
              rw [HFR.out.1, HFR.out.2.1]
              have hw1 := HFR.out.2.2.1
              have hw2 := HFR.out.2.2.2
              rw [HFR.out.1] at hw1
              rw [HFR.out.2.1] at hw2
              obtain ⟨c0, c1, c2, c3⟩ := (HL1.out.same HO.out.sm).cells
              go_wp2_with fail
              refine (lawread_any (upto ss (k + 1)) l _ ⟨by have := HLL.out; omega, HM.out⟩).mono ?_
              rintro e w7 ⟨vr, rfl, hvr, hs⟩
              unfold readV
              obtain ⟨nw, hnw⟩ : ∃ nw, nw = (if (R6.read (upto ss (k + 1)) l).2.ended then 0 else (R6.read (upto ss (k + 1)) l).2.err) := ⟨_, rfl⟩
              rw [← hnw]
              have HO := Px.hid (HO.out.same hs)
              clear hnw hvr hs c0 c1 c2 c3
              obtain ⟨c0, c1, c2, c3⟩ := (HL1.out.same HO.out.sm).cells
              go_wp2
              go_roundw
              case rel => exact ⟨k + 1, by omega, by go_num, rfl, Px.hid ⟨HLL.out, HO.out⟩⟩
              case measure => simp [intOf]; omega
        · have hltz : ¬ (k : Int) < (ss.length : Int) := by omega
          clear ho c0 c1 c2 c3 hk
          go_wp2
          go_ret
          exact ⟨rfl, (HL1.out.1.trans HR.out.2.sm).below⟩
end Go.Proofs.Ytahojodgmjmpnaa
