/-
 Several texts in one: The walk over cose.parts. The walk over cose.read. The walk over cose.read. The walk over cose.Read.
-/
import Derived.Test.YtddiabaagpmkgaaDoorCF
import Derived.Test.YtddiabaagpmkgaaDoorCC
import Derived.Test.YtddiabaagpmkgaaDoorCX
import Derived.IntWalk
import Derived.Test.YtddiabaagpmkgaaDoorXA
import Derived.BigRegion
/-! The walk over cose.parts. -/
namespace Go.Proofs.YtddiabaagpmkgaaDoor
open Go.RowKit Go.Px Go.Px.E7 Go.Px.Co
/-- A piece of what lies somewhere. -/
theorem Lies.piece {α : Type} {w : World} {sz : Nat} {c : α → List Value} {b off cap : Nat} {l : List α} (h : Lies w sz c (.slice (some ⟨b, off, none⟩) l.length cap) l) (lo hi : Nat) (h1 : lo ≤ hi) (h2 : hi ≤ l.length) :
  Lies w sz c (.slice (some ⟨b, off + lo * sz, none⟩) (hi - lo) (cap - lo)) ((l.drop lo).take (hi - lo)) := by
 obtain ⟨a, cap', hv, hc1, hc2⟩ := h.slice
 simp only [Value.slice.injEq, true_and] at hv
 obtain ⟨rfl, rfl⟩ := hv
 have hlen : ((l.drop lo).take (hi - lo)).length = hi - lo := by rw [List.length_take, List.length_drop]; omega
 refine ⟨⟨some ⟨b, off + lo * sz, none⟩, cap - lo, by rw [hlen], by rw [hlen]; omega, by omega⟩, fun j x hj => ?_⟩
 have hjl : j < hi - lo := by
  have := (List.getElem?_eq_some_iff.1 hj).1
  omega
 have hj2 : l[lo + j]? = some x := by
  rw [List.getElem?_take_of_lt hjl, List.getElem?_drop] at hj
  exact hj
 obtain ⟨b', off', cap', hve, hxb, hcx⟩ := h.cell (lo + j) x hj2
 simp only [Value.slice.injEq, Option.some.injEq, Addr.mk.injEq, true_and, and_true] at hve
 obtain ⟨⟨rfl, rfl⟩, rfl⟩ := hve
 refine ⟨b, off + lo * sz, cap - lo, by rw [hlen], hxb, fun i u hu => ?_⟩
 have := hcx i u hu
 rw [Nat.add_mul, Nat.add_assoc, ← Nat.add_assoc off] at this
 exact this
theorem lies_atom {w : World} {b off cap : Nat} {l : List Atom} (h : Lies w 3 cAtom (.slice (some ⟨b, off, none⟩) l.length cap) l) (i : Nat) (hi : i < l.length) :
  w.cell? ⟨b, off + i * 3, none⟩ = some (.int .i64 l[i].kind) ∧ w.cell? ⟨b, off + i * 3 + 1, none⟩ = some (.int .u64 (l[i].num : Nat)) ∧ w.cell? ⟨b, off + i * 3 + 2, none⟩ = some (S l[i].text) := by
 obtain ⟨b', off', cap', hve, hxb, hcx⟩ := h.cell i l[i] (by simp [hi])
 simp only [Value.slice.injEq, Option.some.injEq, Addr.mk.injEq, true_and, and_true] at hve
 obtain ⟨⟨rfl, rfl⟩, rfl⟩ := hve
 exact ⟨hcx 0 _ rfl, hcx 1 _ rfl, hcx 2 _ rfl⟩
structure PtS (w wx : World) (b : Nat) (x : Env) (vto : Value) : Prop where
 fr : Fr (fun j => j = b) w wx
 env : EnvB wx b x vto
theorem PtS.same {w wx wy : World} {b : Nat} {x : Env} {vto : Value} (h : PtS w wx b x vto) (hs : Same wx wy) : PtS w wy b x vto := ⟨h.fr.trans hs (fun _ _ x => x.elim), Blk.fr h.env hs (fun x => x)⟩
theorem PtS.alloc {w wx : World} {b : Nat} {x : Env} {vto : Value} (h : PtS w wx b x vto) (o : Obj) : PtS w (wx.alloc o) b x vto := ⟨h.fr.alloc o, Blk.alloc h.env o⟩
theorem PtS.header {w wx : World} {b : Nat} {x : Env} {vto : Value} (h : PtS w wx b x vto) (t : Bytes) : PtS w (wx.setCell ⟨b, 3, none⟩ (S t)) b { x with header := t } vto :=
 ⟨Fr.setCell (F := fun j => j = b) (p := ⟨b, 3, none⟩) h.fr (.inl rfl) _, by have z := Blk.set h.env 3 (S t); simpa [envC, EnvB] using z⟩
theorem PtS.loose {w wx : World} {b : Nat} {x : Env} {vto : Value} (h : PtS w wx b x vto) (t : Bytes) : PtS w (wx.setCell ⟨b, 4, none⟩ (S t)) b { x with loose := t } vto :=
 ⟨Fr.setCell (F := fun j => j = b) (p := ⟨b, 4, none⟩) h.fr (.inl rfl) _, by have z := Blk.set h.env 4 (S t); simpa [envC, EnvB] using z⟩
theorem PtS.cipher {w wx : World} {b : Nat} {x : Env} {vto : Value} (h : PtS w wx b x vto) (t : Bytes) : PtS w (wx.setCell ⟨b, 7, none⟩ (S t)) b { x with cipher := t } vto :=
 ⟨Fr.setCell (F := fun j => j = b) (p := ⟨b, 7, none⟩) h.fr (.inl rfl) _, by have z := Blk.set h.env 7 (S t); simpa [envC, EnvB] using z⟩
theorem PtS.tag {w wx : World} {b : Nat} {x : Env} {vto : Value} (h : PtS w wx b x vto) (t : Bytes) : PtS w (wx.setCell ⟨b, 8, none⟩ (S t)) b { x with tag := t } vto :=
 ⟨Fr.setCell (F := fun j => j = b) (p := ⟨b, 8, none⟩) h.fr (.inl rfl) _, by have z := Blk.set h.env 8 (S t); simpa [envC, EnvB] using z⟩
/-- What parts hands back. -/
def PartsP (b : Nat) (x : Env) (vto : Value) (m : Prt) (e : Ending) (w w' : World) : Prop :=
 ∃ vh, e = .returned (.tuple #[vh, .int .i64 m.err]) ∧ Fr (fun j => j = b) w w' ∧
  ∀ h hd lo ci tg, m = .ok h hd lo ci tg → EnvB w' b { x with header := hd, loose := lo, cipher := ci, tag := if x.fmt = 6 then tg else x.tag } vto ∧ Owns w' 116 7 cPair vh h ∧ vh.ownBlock ≠ some b ∧ ∃ a c, vh = .slice a h.length c
theorem parts_err {b : Nat} {x : Env} {vto : Value} {m : Prt} {er : Int} {w w' : World} (h : m = .bad er) (hf : Fr (fun j => j = b) w w') : PartsP b x vto m (.returned (.tuple #[.slice none 0 0, .int .i64 er])) w w' := by
 subst h
 exact ⟨_, rfl, hf, nofun⟩
set_option maxRecDepth 100000 in
set_option maxHeartbeats 20000000 in
theorem parts_any (b : Nat) (x : Env) (vto v2 : Value) (mac : Bool) (M : List Atom) (lim : Lim) (w : World) (hx : EnvB w b x vto) (hfm : x.fmt = fmtOf mac) (hv : Lies w 3 cAtom v2 M) (hvb : v2.ownBlock ≠ some b) (hM : PlM M mac) (hb2 : 2 ≤ b) (hT : Tabs w) (htx : (M.getD 0 za).text.length ≤ 140737488355327) :
  Calls Tryd.prog 39 #[.pointer (some ⟨b, 0, none⟩), v2, limV lim] w fun e w' => PartsP b x vto (partsM mac M lim) e w w' := by
 have hpos := hM.pos
 have hlen := hM.len
 obtain ⟨xb, xo, xc, hve, hxb, hcx⟩ := hv.cell 0 M[0] (by rw [List.getElem?_eq_getElem (by omega)])
 subst hve
 have hxbb : ¬ xb = b := fun e => hvb (by rw [e]; rfl)
 have hcap := hv.slice
 obtain ⟨_, _, hcap1, hcap2, hcap3⟩ := hcap
 simp only [Value.slice.injEq, true_and] at hcap1
 obtain ⟨rfl, rfl⟩ := hcap1
 have HV := Px.hid (show ∀ W, Fr (fun j => j = b) w W → Lies W 3 cAtom (.slice (some ⟨xb, xo, none⟩) M.length xc) M from fun W hW => Lies.fr hv hW (fun k e x => hvb (by rw [← show k = b from x]; exact e)))
 have HT := Px.hid (show ∀ W, Fr (fun j => j = b) w W → Tabs W from fun W hW => hT.fr hW (fun k e => by rw [show k = b from e]; exact hb2) (by have := hx.lt; omega))
 have HX := Px.hid (show PtS w w b x vto from ⟨Fr.refl _ _, hx⟩)
 have HX0 := Px.hid (Blk.lt hx)
 have HP := Px.hid hM
 have hc := Px.hid hcap3
 have x0 : w.cell? ⟨xb, xo, none⟩ = some (.int .i64 M[0].kind) := by have := hcx 0 _ rfl; rw [Nat.zero_mul, Nat.zero_add, Nat.add_zero] at this; exact this
 have x1 : w.cell? ⟨xb, xo + 1, none⟩ = some (.int .u64 (M[0].num : Nat)) := by have := hcx 1 _ rfl; rw [Nat.zero_mul, Nat.zero_add] at this; exact this
 have x2 : w.cell? ⟨xb, xo + 2, none⟩ = some (S M[0].text) := by have := hcx 2 _ rfl; rw [Nat.zero_mul, Nat.zero_add] at this; exact this
 have hg0 : M.getD 0 za = M[0] := getD_eq (by omega)
 rw [hg0] at htx
 obtain ⟨a0, ha0⟩ : ∃ a0, a0 = M[0] := ⟨_, rfl⟩
 rw [← ha0] at x0 x1 x2 htx hg0
 clear ha0 hcx hv hvb hM hT hx hcap3
 have hposz : (0 : Int) < (M.length : Int) := by omega
 have hposz1 : (1 : Int) < (M.length : Int) := by omega
 unfold limV
 go_enter Tryd.func39, Tryd.ntmps39
 by_cases hk : a0.kind = 2
 ·have HM := Px.hid (show partsM mac M lim = if (protect a0.text lim).2 ≠ 0 then .bad (protect a0.text lim).2 else if (M.getD 1 za).kind ≠ 5 then .bad 9 else
    if (M.getD (nx M 1) za).kind = 7 ∧ (M.getD (nx M 1) za).num = 22 then .bad 11
    else if (M.getD (nx M 1) za).kind ≠ 2 then .bad 9
    else if mac = true ∧ (M.getD (nx M 1 + 1) za).kind ≠ 2 then .bad 9
    else if Co.labels (protect a0.text lim).1 (pairsF M (M.getD 1 za).num 2) ≠ 0 then .bad (Co.labels (protect a0.text lim).1 (pairsF M (M.getD 1 za).num 2))
    else .ok ((protect a0.text lim).1 ++ pairsF M (M.getD 1 za).num 2) a0.text (Co.part M 1) (M.getD (nx M 1) za).text (if mac then (M.getD (nx M 1 + 1) za).text else []) by
   unfold partsM
   rw [hg0, if_neg (fun e => e hk)])
  have HPR := Px.hid (fun (W : World) (hW : Fr (fun j => j = b) w W) => protect_ok a0 lim W hk htx (HT.out W hW))
  unfold limV at HPR
  have HL := Px.hid (LimIn.boxed w lim)
  obtain ⟨lc0, lc1, lc2, lc3⟩ := HL.out.cells
  have hpl := protect_len a0.text lim
  obtain ⟨pr, hpr⟩ : ∃ pr, pr = protect a0.text lim := ⟨_, rfl⟩
  rw [← hpr] at hpl
  rw [← hpr] at HM HPR
  clear hpr
  rw [hk] at x0 HPR
  go_upto_region 1 with fail
  go_cut [8, 9] (fun t8 t9 wx => ∃ a c, t8 = .slice a pr.1.length c ∧ t9 = .int .i64 pr.2 ∧ PrsO w wx t8 pr.1)
  case first =>
   go_region_with (go_at_call 53; refine (HPR.out _ (Fr.drew (Fr.alloc (Fr.refl _ w) _))).mono ?_; rintro e wa ⟨vo, rfl, hp⟩; obtain ⟨pa, pc, rfl, _⟩ := hp.own.len; have HQ := Px.hid hp; clear hp)
   all_goals
    go_wp2_with fail
    go_meet
    exact ⟨pa, pc, rfl, rfl, HQ.out.own, Same.trans (Fr.drew (Fr.alloc (Fr.refl _ w) _)) HQ.out.same, fun g e => Nat.le_trans (by simp) (HQ.out.new g e)⟩
  case rest =>
   obtain ⟨pa, pc, rfl, rfl, hp⟩ := hcut
   have HA := Px.hid hp
   have HS := Px.hid (HX.out.same hp.same)
   clear hp HPR x0 x1 x2 HL lc0 lc1 lc2 lc3 HX
   obtain ⟨ha, pe⟩ := pr
   simp only at HM HA hpl ⊢
   by_cases hpe : pe = 0
   ·subst hpe
    have HM : Hid (partsM mac M lim = if (M.getD 1 za).kind ≠ 5 then .bad 9 else
     if (M.getD (nx M 1) za).kind = 7 ∧ (M.getD (nx M 1) za).num = 22 then .bad 11
     else if (M.getD (nx M 1) za).kind ≠ 2 then .bad 9
     else if mac = true ∧ (M.getD (nx M 1 + 1) za).kind ≠ 2 then .bad 9
     else if Co.labels ha (pairsF M (M.getD 1 za).num 2) ≠ 0 then .bad (Co.labels ha (pairsF M (M.getD 1 za).num 2))
     else .ok (ha ++ pairsF M (M.getD 1 za).num 2) a0.text (Co.part M 1) (M.getD (nx M 1) za).text (if mac then (M.getD (nx M 1 + 1) za).text else [])) := Px.hid (by rw [HM.out, if_neg (fun e => e rfl)])
    obtain ⟨y0, y1, y2⟩ := lies_atom (HV.out wc HS.out.fr) 0 (by omega)
    obtain ⟨z0, z1, z2⟩ := lies_atom (HV.out wc HS.out.fr) 1 (by omega)
    have hM0 : M[0] = a0 := by rw [← hg0]; exact (getD_eq (by omega)).symm
    have hg1 : M.getD 1 za = M[1] := getD_eq (by omega)
    rw [hM0] at y0 y1 y2
    rw [Nat.zero_mul, Nat.add_zero] at y0 y1 y2
    rw [Nat.one_mul] at z0 z1 z2
    obtain ⟨a1, ha1⟩ : ∃ a1, a1 = M[1] := ⟨_, rfl⟩
    rw [← ha1] at z0 z1 z2 hg1
    have HG := Px.hid (And.intro hg0 hg1)
    rw [hg1] at HM
    obtain ⟨c0, c1, c2, c3, c4, c5, c6, c7, c8, d0, d1, d2, d3, d4, d5, d6, d7, d8⟩ := blk9 (show Blk wc b #[.int .i64 x.fmt, .int .i64 x.alg, vto, S x.header, S x.loose, S x.aad, S x.iv, S x.cipher, S x.tag] 27 from HS.out.env)
    clear ha1 hM0 hg0 hg1
    by_cases h5 : a1.kind = 5
    ·have HM : Hid (partsM mac M lim = if (M.getD (nx M 1) za).kind = 7 ∧ (M.getD (nx M 1) za).num = 22 then .bad 11
      else if (M.getD (nx M 1) za).kind ≠ 2 then .bad 9
      else if mac = true ∧ (M.getD (nx M 1 + 1) za).kind ≠ 2 then .bad 9
      else if Co.labels ha (pairsF M a1.num 2) ≠ 0 then .bad (Co.labels ha (pairsF M a1.num 2))
      else .ok (ha ++ pairsF M a1.num 2) a0.text (Co.part M 1) (M.getD (nx M 1) za).text (if mac then (M.getD (nx M 1 + 1) za).text else [])) := Px.hid (by rw [HM.out, if_neg (fun e => e h5)])
     obtain ⟨q, r, hq, hr, hs4⟩ := HP.out.rest (by rw [HG.out.1]; exact hk)
     have hpr := map_prs hq (by rw [HG.out.2]; exact h5)
     rw [HG.out.2] at hpr
     have hnx := hq.nx hlen
     have hql := hq.lt
     have hrl := hr.lt
     have henc := part_enc hq hlen HP.out.wf HP.out.bytes
     rw [hnx] at HM
     have HQ := Px.hid (And.intro hq (And.intro hr (And.intro hs4 (And.intro hpr henc))))
     have hqM : q < M.length := by omega
     have hm9 : a1.num ≤ 4096 := by have := hpr.2; omega
     have hgq : M.getD q za = M[q] := getD_eq hqM
     obtain ⟨aq, haq⟩ : ∃ aq, aq = M[q] := ⟨_, rfl⟩
     rw [← haq] at hgq
     rw [hgq] at HM
     have HGQ := Px.hid (And.intro hgq haq)
     rw [h5] at z0
     clear hq hr hs4 hpr henc hgq haq hnx
     go_wp2_with fail
     refine (cpairs_any _ M 1 a1.num _ (HV.out _ (HS.out.header a0.text).fr) hlen (by omega) (by rw [HG.out.2]) hm9 HQ.out.2.2.2.1.1).mono ?_
     rintro e w2 ⟨vo, rfl, hp⟩
     obtain ⟨ba, bc, rfl, _⟩ := hp.own.len
     have HB := Px.hid hp
     have HS2 := Px.hid ((HS.out.header a0.text).same hp.same)
     have HF2 := Px.hid (show Fr (fun j => j = b) wc w2 from Fr.trans (Fr.setCell (F := fun j => j = b) (p := ⟨b, 3, none⟩) (Fr.refl _ wc) (.inl rfl) _) hp.same (fun _ _ x => x.elim))
     clear hp y0 y1 y2 z0 z1 z2 c0 c1 c2 c3 c4 c5 c6 c7 c8 d0 d1 d2 d3 d4 d5 d6 d7 d8
     go_wp2_with fail
     refine (cbehind_any _ M 1 q _ (HV.out _ HS2.out.fr) hlen HQ.out.1).mono ?_
     rintro e w3 ⟨rfl, hs⟩
     have HB := Px.hid (HB.out.sm hs)
     have HS3 := Px.hid (HS2.out.same hs)
     have HF3 := Px.hid (show Fr (fun j => j = b) wc w3 from HF2.out.trans hs (fun _ _ x => x.elim))
     obtain ⟨c0, c1, c2, c3, c4, c5, c6, c7, c8, d0, d1, d2, d3, d4, d5, d6, d7, d8⟩ := blk9 (show Blk w3 b #[.int .i64 x.fmt, .int .i64 x.alg, vto, S a0.text, S x.loose, S x.aad, S x.iv, S x.cipher, S x.tag] 27 from HS3.out.env)
     clear hs HS2 HF2
     have hqz : (q : Int) ≤ (xc : Int) := by omega
     have hq1 : (1 : Int) ≤ (q : Int) := by omega
     have hxc1 : ¬ xc = 1 := by omega
     have ht := encode_any (.slice (some ⟨xb, xo + 3, none⟩) (q - 1) (xc - 1)) ((M.drop 1).take (q - 1)) w3 (by have z := Lies.piece (HV.out w3 HS3.out.fr) 1 q (by omega) (by omega); rw [Nat.one_mul] at z; exact z) (fun a ha => HP.out.txt a (List.mem_of_mem_drop (List.mem_of_mem_take ha))) (HT.out w3 HS3.out.fr)
     rw [HQ.out.2.2.2.2] at ht
     have HE4 := Px.hid ht
     clear ht
     go_wp2_with fail
     refine HE4.out.mono ?_
     rintro e w4 ⟨rfl, hs⟩
     have HB := Px.hid (HB.out.sm hs)
     have HS4 := Px.hid (HS3.out.same hs)
     have HF4 := Px.hid (show Fr (fun j => j = b) wc w4 from HF3.out.trans hs (fun _ _ x => x.elim))
     clear hs HS3 HF3 HE4 c0 c1 c2 c3 c4 c5 c6 c7 c8 d0 d1 d2 d3 d4 d5 d6 d7 d8
     obtain ⟨c0, c1, c2, c3, c4, c5, c6, c7, c8, d0, d1, d2, d3, d4, d5, d6, d7, d8⟩ := blk9 (show Blk w4 b #[.int .i64 x.fmt, .int .i64 x.alg, vto, S a0.text, S x.loose, S x.aad, S x.iv, S x.cipher, S x.tag] 27 from HS4.out.env)
     obtain ⟨z0, z1, z2⟩ := lies_atom (HV.out w4 HS4.out.fr) q hqM
     rw [← HGQ.out.2] at z0 z1 z2
     have hqMz : (q : Int) < (M.length : Int) := by omega
     have hb4 : b < w4.heap.size := HS4.out.env.lt
     have hx4 : xb < w4.heap.size := World.block_lt_of_cell? w4 _ z0
     obtain ⟨lo, hlo⟩ : ∃ lo, lo = Co.part M 1 := ⟨_, rfl⟩
     rw [← hlo] at HM ⊢
     clear hlo
     obtain ⟨hb, hhb⟩ : ∃ hb, hb = pairsF M a1.num 2 := ⟨_, rfl⟩
     have hbl : hb.length ≤ 4096 := by rw [hhb, pairsF_len]; exact hm9
     rw [← hhb] at HM HB ⊢
     clear hhb
     by_cases hq2 : aq.kind = 2
     ·have HM : Hid (partsM mac M lim = if mac = true ∧ (M.getD (q + 1) za).kind ≠ 2 then .bad 9
       else if Co.labels ha hb ≠ 0 then .bad (Co.labels ha hb)
       else .ok (ha ++ hb) a0.text lo aq.text (if mac then (M.getD (q + 1) za).text else [])) := Px.hid (by rw [HM.out, if_neg (by rw [hq2]; rintro ⟨e, _⟩; exact absurd e (by decide)), if_neg (fun e => e hq2)])
      rw [hq2] at z0
      have HQ2 := Px.hid hq2
      clear hq2
      have HLA := Px.hid (show ∀ W, Fr (fun j => j = b) wc W → Lies W 7 cPair (.slice pa ha.length pc) ha from fun W hW => Lies.fr (HA.out.own.lies cPair_len) hW (fun k e x => by have := HA.out.new k e; rw [show k = b from x] at this; have := HX0.out; omega))
      have HLB := Px.hid (show ∀ W, Fr (fun j => j = b) w4 W → Lies W 7 cPair (.slice ba hb.length bc) hb from fun W hW => Lies.fr (HB.out.own.lies cPair_len) hW (fun k e x => by have := HB.out.new k e; rw [show k = b from x] at this; have := HX0.out; have := HA.out.same.size; simp at *; omega))
      have HI := Px.hid hfm
      rw [hfm] at c0
      cases mac with
      | true =>
       rw [show fmtOf true = 6 from rfl] at c0
       have hrq : r = q + 1 := by
        rcases At.ways HQ.out.2.1 with ⟨_, e⟩ | ⟨e, _⟩
        ·exact e
        ·rw [HGQ.out.1, leaf2 HQ2.out] at e; cases e
       obtain ⟨s4, hs4⟩ := HQ.out.2.2.1 rfl
       have hs4l := hs4.lt
       have hq1M : q + 1 < M.length := by omega
       have hgq1 : M.getD (q + 1) za = M[q + 1] := getD_eq hq1M
       obtain ⟨t0, t1, t2⟩ := lies_atom (HV.out w4 HS4.out.fr) (q + 1) hq1M
       obtain ⟨at1, hat1⟩ : ∃ at1, at1 = M[q + 1] := ⟨_, rfl⟩
       rw [← hat1] at t0 t1 t2 hgq1
       rw [hgq1] at HM
       have hq1z : (q : Int) + 1 < (M.length : Int) := by omega
       clear hs4 hrq hat1 hgq1
       by_cases hk4 : at1.kind = 2
       ·have HM5 : Hid (partsM true M lim = if Co.labels ha hb ≠ 0 then .bad (Co.labels ha hb) else .ok (ha ++ hb) a0.text lo aq.text at1.text) := Px.hid (by rw [HM.out, if_neg (fun e => e.2 hk4)]; rfl)
        rw [hk4] at t0
        clear hk4 HM
        go_wp2_with fail
        refine Calls.mono (labels_any _ _ ha hb _ ?hA ?hB hpl hbl) ?_
        case hA =>
         refine HLA.out _ (Fr.trans HF4.out ?_ (fun _ _ x => x))
         repeat' first
          | refine Fr.setCell (F := fun j => j = b) ?_ (.inl rfl) _
          | refine Fr.alloc ?_ _
          | exact Fr.refl _ _
        case hB =>
         refine HLB.out _ ?_
         repeat' first
          | refine Fr.setCell (F := fun j => j = b) ?_ (.inl rfl) _
          | refine Fr.alloc ?_ _
          | exact Fr.refl _ _
        rintro e w6 ⟨rfl, hs⟩
        have HS6 := Px.hid (PtS.same (PtS.alloc (((HS4.out.loose lo).cipher aq.text).tag at1.text) (.cells #[.int .i64 2, .int .u64 (aq.num : Nat), S aq.text] 62)) hs)
        have HF6 : Hid (Fr (fun j => j = b) w4 w6) := Px.hid (by
         refine Fr.trans ?_ hs (fun _ _ x => x.elim)
         repeat' first
          | refine Fr.setCell (F := fun j => j = b) ?_ (.inl rfl) _
          | refine Fr.alloc ?_ _
          | exact Fr.refl _ _)
        clear hs HS4 c0 c1 c2 c3 c4 c5 c6 c7 c8 d0 d1 d2 d3 d4 d5 d6 d7 d8 z0 z1 z2
        obtain ⟨lb, hlb⟩ : ∃ lb, lb = Co.labels ha hb := ⟨_, rfl⟩
        rw [← hlb] at HM5 ⊢
        clear hlb
        by_cases hlz : lb = 0
        ·subst hlz
         have HE : Hid (partsM true M lim = .ok (ha ++ hb) a0.text lo aq.text at1.text) := Px.hid (by rw [HM5.out, if_neg (fun e => e rfl)])
         go_wp2_with fail
         refine Calls.mono (concat_any _ _ _ _ ha hb _ (cellOf (heap_alloc_new w6 _) 0 rfl) (cellOf (heap_alloc_new w6 _) 1 rfl) ?hA ?hB hpl hbl) ?_
         case hA => exact HLA.out _ (Fr.trans HF4.out (Fr.alloc HF6.out _) (fun _ _ x => x))
         case hB => exact HLB.out _ (Fr.alloc HF6.out _)
         rintro e w7 ⟨vo, rfl, hp⟩
         obtain ⟨va2, vc2, hvv, _⟩ := hp.own.len
         have HP7 := Px.hid hp
         have HS7 := Px.hid (PtS.same (PtS.alloc HS6.out _) hp.same)
         have hw6 : b < w6.heap.size := HS6.out.env.lt
         subst hvv
         clear hp
         go_wp2
         go_ret2
         refine ⟨_, by rw [HE.out]; rfl, HS7.out.fr, fun h hd lo2 ci tg e => ?_⟩
         rw [HE.out] at e
         cases e
         refine ⟨?_, by have z := HP7.out.own; rw [List.length_append] at z; exact z, fun e => ?_, ⟨_, _, by rw [List.length_append]; rfl⟩⟩
         ·have z := HS7.out.env
          simpa [hfm, fmtOf] using z
         ·have z := HP7.out.new b (by rw [List.length_append]; exact e)
          simp at z
          omega
        ·have HE : Hid (partsM true M lim = .bad lb) := Px.hid (by rw [HM5.out, if_pos hlz])
         go_wp2
         go_ret2
         exact parts_err HE.out HS6.out.fr
       ·have HE : Hid (partsM true M lim = .bad 9) := Px.hid (by rw [HM.out, if_pos ⟨rfl, hk4⟩])
        have hkz : ¬ at1.kind = 2 := hk4
        go_wp2
        go_ret2
        exact parts_err HE.out (((HS4.out.loose lo).cipher aq.text).alloc _).fr
      | false =>
       rw [show fmtOf false = 5 from rfl] at c0
       have HM5 : Hid (partsM false M lim = if Co.labels ha hb ≠ 0 then .bad (Co.labels ha hb) else .ok (ha ++ hb) a0.text lo aq.text []) := Px.hid (by rw [HM.out, if_neg (fun e => by cases e.1)]; rfl)
       clear HM
       go_wp2_with fail
       refine Calls.mono (labels_any _ _ ha hb _ ?hA ?hB hpl hbl) ?_
       case hA =>
        refine HLA.out _ (Fr.trans HF4.out ?_ (fun _ _ x => x))
        repeat' first
         | refine Fr.setCell (F := fun j => j = b) ?_ (.inl rfl) _
         | refine Fr.alloc ?_ _
         | exact Fr.refl _ _
       case hB =>
        refine HLB.out _ ?_
        repeat' first
         | refine Fr.setCell (F := fun j => j = b) ?_ (.inl rfl) _
         | refine Fr.alloc ?_ _
         | exact Fr.refl _ _
       rintro e w6 ⟨rfl, hs⟩
       have HS6 := Px.hid (PtS.same (PtS.alloc ((HS4.out.loose lo).cipher aq.text) (.cells #[.int .i64 2, .int .u64 (aq.num : Nat), S aq.text] 62)) hs)
       have HF6 : Hid (Fr (fun j => j = b) w4 w6) := Px.hid (by
        refine Fr.trans ?_ hs (fun _ _ x => x.elim)
        repeat' first
         | refine Fr.setCell (F := fun j => j = b) ?_ (.inl rfl) _
         | refine Fr.alloc ?_ _
         | exact Fr.refl _ _)
       clear hs HS4 c0 c1 c2 c3 c4 c5 c6 c7 c8 d0 d1 d2 d3 d4 d5 d6 d7 d8 z0 z1 z2
       obtain ⟨lb, hlb⟩ : ∃ lb, lb = Co.labels ha hb := ⟨_, rfl⟩
       rw [← hlb] at HM5 ⊢
       clear hlb
       by_cases hlz : lb = 0
       ·subst hlz
        have HE : Hid (partsM false M lim = .ok (ha ++ hb) a0.text lo aq.text []) := Px.hid (by rw [HM5.out, if_neg (fun e => e rfl)])
        go_wp2_with fail
        refine Calls.mono (concat_any _ _ _ _ ha hb _ (cellOf (heap_alloc_new w6 _) 0 rfl) (cellOf (heap_alloc_new w6 _) 1 rfl) ?hA ?hB hpl hbl) ?_
        case hA => exact HLA.out _ (Fr.trans HF4.out (Fr.alloc HF6.out _) (fun _ _ x => x))
        case hB => exact HLB.out _ (Fr.alloc HF6.out _)
        rintro e w7 ⟨vo, rfl, hp⟩
        obtain ⟨va2, vc2, hvv, _⟩ := hp.own.len
        have HP7 := Px.hid hp
        have HS7 := Px.hid (PtS.same (PtS.alloc HS6.out _) hp.same)
        have hw6 : b < w6.heap.size := HS6.out.env.lt
        subst hvv
        clear hp
        go_wp2
        go_ret2
        refine ⟨_, by rw [HE.out]; rfl, HS7.out.fr, fun h hd lo2 ci tg e => ?_⟩
        rw [HE.out] at e
        cases e
        refine ⟨?_, by have z := HP7.out.own; rw [List.length_append] at z; exact z, fun e => ?_, ⟨_, _, by rw [List.length_append]; rfl⟩⟩
        ·have z := HS7.out.env
         simpa [hfm, fmtOf] using z
        ·have z := HP7.out.new b (by rw [List.length_append]; exact e)
         simp at z
         omega
       ·have HE : Hid (partsM false M lim = .bad lb) := Px.hid (by rw [HM5.out, if_pos hlz])
        go_wp2
        go_ret2
        exact parts_err HE.out HS6.out.fr
     ·by_cases hq7 : aq.kind = 7
      ·rw [hq7] at z0
       by_cases hq22 : aq.num = 22
       ·rw [hq22] at z1
        have HE : Hid (partsM mac M lim = .bad 11) := Px.hid (by rw [HM.out, if_pos ⟨hq7, hq22⟩])
        clear hq2 hq7 hq22
        go_wp2
        go_ret2
        exact parts_err HE.out ((HS4.out.loose lo).alloc _).fr
       ·have h22 : ((aq.num : Int) == 22) = false := by simp; omega
        have HE : Hid (partsM mac M lim = .bad 9) := Px.hid (by rw [HM.out, if_neg (fun e => hq22 e.2), if_pos hq2])
        clear hq2 hq7 hq22
        go_wp2
        go_ret2
        exact parts_err HE.out ((HS4.out.loose lo).alloc _).fr
      ·have HE : Hid (partsM mac M lim = .bad 9) := Px.hid (by rw [HM.out, if_neg (fun e => hq7 e.1), if_pos hq2])
       have hz2 : ¬ aq.kind = 2 := hq2
       have hz7 : (aq.kind == 7) = false := by simpa using hq7
       go_wp2
       go_ret2
       exact parts_err HE.out ((HS4.out.loose lo).alloc _).fr
    ·have HE : Hid (partsM mac M lim = .bad 9) := Px.hid (by rw [HM.out, if_pos h5])
     have h5z : ¬ a1.kind = 5 := h5
     go_wp2
     go_ret2
     exact parts_err HE.out (HS.out.header a0.text).fr
   ·have HE : Hid (partsM mac M lim = .bad pe) := Px.hid (by rw [HM.out, if_pos hpe])
    go_wp2
    go_ret2
    exact parts_err HE.out HS.out.fr
 ·have HE : Hid (partsM mac M lim = .bad 9) := Px.hid (by unfold partsM; rw [hg0, if_pos hk])
  have HPR := Px.hid (fun (W : World) => protect_bad a0 lim W hk)
  unfold limV at HPR
  have HL := Px.hid (LimIn.boxed w lim)
  obtain ⟨lc0, lc1, lc2, lc3⟩ := HL.out.cells
  go_upto_region 1 with fail
  go_cut [8, 9] (fun t8 t9 wx => t8 = .slice none 0 0 ∧ t9 = .int .i64 9 ∧ Same w wx)
  case first =>
   go_region_with (go_at_call 53; refine (HPR.out _).mono ?_; rintro e wa ⟨rfl, hs⟩; have HQ := Px.hid hs; clear hs)
   all_goals
    go_wp2_with fail
    go_meet
    exact ⟨rfl, rfl, Same.trans (Fr.drew (Fr.alloc (Fr.refl _ w) _)) HQ.out⟩
  case rest =>
   obtain ⟨rfl, rfl, hs⟩ := hcut
   have HS := Px.hid (HX.out.same hs)
   clear hs x0 x1 x2 HL lc0 lc1 lc2 lc3
   go_wp2
   go_ret2
   exact parts_err HE.out HS.out.fr
end Go.Proofs.YtddiabaagpmkgaaDoor

/-! The walk over cose.read. -/
namespace Go.Px.Co
open E7 (encB)
theorem nameM_bad {mac : Bool} {h : Hdr} {e : Int} (hx : nameM mac h = .bad e) : e ≠ 0 := by
 unfold nameM at hx
 split at hx
 ·cases hx; decide
 ·split at hx
  ·cases hx; decide
  ·split at hx
   ·cases hx; decide
   ·split at hx
    ·cases hx; decide
    ·split at hx
     ·cases hx
     ·split at hx
      ·cases hx; decide
      ·split at hx
       ·cases hx; decide
       ·cases hx
theorem partsM_bad {mac : Bool} {M : List Atom} {lim : Lim} {e : Int} (hx : partsM mac M lim = .bad e) : e ≠ 0 := by
 unfold partsM at hx
 simp only at hx
 split at hx
 ·cases hx; decide
 ·split at hx
  ·rename_i h
   cases hx
   exact h
  ·split at hx
   ·cases hx; decide
   ·split at hx
    ·cases hx; decide
    ·split at hx
     ·cases hx; decide
     ·split at hx
      ·cases hx; decide
      ·split at hx
       ·rename_i h
        cases hx
        exact h
       ·cases hx
/-- What follows the labels, by what the headers name. -/
theorem last_named (mac : Bool) (hd lo ci tg : Bytes) (h : Hdr) : last mac hd lo ci tg h = match nameM mac h with
  | .bad e => (zero, e)
  | .ok r nm iv =>
   if mac = true then (if tg.length ≠ r.tag then (zero, 9) else if 70000 < ci.length then (zero, 10) else (⟨6, r.alg, [direct nm], hd, lo, [], [], ci, tg⟩, 0))
   else if ci.length < r.tag then (zero, 9) else if 70000 < ci.length - r.tag ∨ (65536 ≤ ci.length - r.tag ∧ r.iv = 13) then (zero, 10)
   else (⟨5, r.alg, [direct nm], hd, lo, [], iv, ci.take (ci.length - r.tag), ci.drop (ci.length - r.tag)⟩, 0) := by
 unfold last nameM
 cases h1 : find h 1 with
 | none => rfl
 | some v =>
  simp only
  by_cases hk : v.kind = 0
  ·rw [if_neg (fun e => e hk), if_neg (fun e => e hk)]
   cases hr : row mac v.num with
   | none => rfl
   | some r =>
    simp only
    by_cases hb : badName (find h 4) = true
    ·rw [if_pos hb, if_pos hb]
    ·rw [if_neg hb, if_neg hb]
     cases mac with
     | true => rw [if_pos rfl, if_pos rfl]; rfl
     | false =>
      rw [if_neg (by decide), if_neg (by decide)]
      cases h5 : find h 5 with
      | none => rfl
      | some v5 =>
       simp only
       by_cases c1 : v5.kind ≠ 2 ∨ v5.text.length ≠ r.iv
       ·rw [if_pos (by rcases c1 with e | e; exact .inl e; exact .inr (.inl e)), if_pos c1]
       ·rw [if_neg c1]
        simp only
        rw [if_neg (show ¬ (false = true) by decide)]
        by_cases c2 : ci.length < r.tag
        ·rw [if_pos (.inr (.inr c2)), if_pos c2]
        ·rw [if_neg (by rintro (e | e | e); exact c1 (.inl e); exact c1 (.inr e); exact c2 e), if_neg c2]
  ·rw [if_pos hk, if_pos hk]
end Go.Px.Co

/-! The walk over cose.read. -/
namespace Go.Px.Co
open E7 (encB Wf atomB nx)
theorem pairsF_num {L : List Atom} (h : ∀ a ∈ L, a.num < 18446744073709551616) : ∀ (m q : Nat), ∀ p ∈ pairsF L m q, p.2.num < 18446744073709551616
 | 0, _, _, hp => by cases hp
 | m + 1, q, p, hp => by
  have hg : ∀ i, (L.getD i za).num < 18446744073709551616 := fun i => by
   rw [List.getD_eq_getElem?_getD]
   cases hi : L[i]? with
   | none => decide
   | some a => exact h a (List.mem_of_getElem? hi)
  rcases List.mem_cons.1 (show p ∈ (L.getD q za, L.getD (nx L q) za) :: pairsF L m (nx L (nx L q)) from hp) with rfl | hp
  ·exact hg _
  ·exact pairsF_num h m _ p hp
theorem protect_num (s : Bytes) (lim : Lim) : ∀ p ∈ (protect s lim).1, p.2.num < 18446744073709551616 := by
 unfold protect
 split
 ·intro p hp; cases hp
 ·simp only
  split
  ·intro p hp; cases hp
  ·rename_i he
   split
   ·intro p hp; cases hp
   ·obtain ⟨_, _, _, hw, _⟩ := E7.decode_sound (Classical.byContradiction he)
    exact pairsF_num (fun a ha => (hw a ha).1) _ _
theorem partsM_ok {mac : Bool} {M : List Atom} {lim : Lim} {h : Hdr} {hd lo ci tg : Bytes} (hM : PlM M mac) (hx : partsM mac M lim = .ok h hd lo ci tg) : (h.length ≤ 10000 ∧ ∀ p ∈ h, p.2.num < 18446744073709551616) ∧ ci.length ≤ 9223372036854775807 := by
 unfold partsM at hx
 simp only at hx
 split at hx
 ·cases hx
 ·rename_i h2
  split at hx
  ·cases hx
  ·split at hx
   ·cases hx
   ·rename_i h5
    split at hx
    ·cases hx
    ·split at hx
     ·cases hx
     ·split at hx
      ·cases hx
      ·split at hx
       ·cases hx
       ·obtain ⟨q, r, hq, _⟩ := hM.rest (Classical.byContradiction h2)
        have hp := (map_prs hq (Classical.byContradiction h5)).2
        have hl := hM.len
        have hpl := protect_len (M.getD 0 za).text lim
        cases hx
        have htx : ∀ i, (M.getD i za).text.length ≤ 9223372036854775807 := fun i => by
         rw [List.getD_eq_getElem?_getD]
         cases hi : M[i]? with
         | none => show (0 : Nat) ≤ _; omega
         | some a => exact (hM.txt a (List.mem_of_getElem? hi)).2
        refine ⟨⟨by rw [List.length_append, pairsF_len]; omega, fun p hp => ?_⟩, htx _⟩
        rcases List.mem_append.1 hp with hp | hp
        ·exact protect_num _ _ p hp
        ·exact pairsF_num (fun a ha => (hM.wf a ha).1) _ _ p hp
def Prt.out (mac : Bool) : Prt → Env × Int
 | .bad e => (zero, e)
 | .ok h hd lo ci tg => last mac hd lo ci tg h
theorem readL_out {L : List Atom} {lim : Lim} {mac : Bool} (h : readL L lim = match partsM mac (L.drop 2) lim with
   | .bad e => (zero, e)
   | .ok h hd lo ci tg => last mac hd lo ci tg h) : readL L lim = (partsM mac (L.drop 2) lim).out mac := by
 rw [h]
 cases partsM mac (L.drop 2) lim <;> rfl
def lastM (mac : Bool) (hd lo ci tg : Bytes) (r : Row) (nm iv : Bytes) : Env × Int :=
 if mac = true then (if tg.length ≠ r.tag then (zero, 9) else if 70000 < ci.length then (zero, 10) else (⟨6, r.alg, [direct nm], hd, lo, [], [], ci, tg⟩, 0))
 else if ci.length < r.tag then (zero, 9) else if 70000 < ci.length - r.tag ∨ (65536 ≤ ci.length - r.tag ∧ r.iv = 13) then (zero, 10)
 else (⟨5, r.alg, [direct nm], hd, lo, [], iv, ci.take (ci.length - r.tag), ci.drop (ci.length - r.tag)⟩, 0)
def Nmd.out (mac : Bool) (hd lo ci tg : Bytes) : Nmd → Env × Int
 | .bad e => (zero, e)
 | .ok r nm iv => lastM mac hd lo ci tg r nm iv
theorem last_out (mac : Bool) (hd lo ci tg : Bytes) (h : Hdr) : last mac hd lo ci tg h = (nameM mac h).out mac hd lo ci tg := by
 rw [last_named]
 cases nameM mac h <;> rfl
theorem nameM_row {mac : Bool} {h : Hdr} {r : Row} {nm iv : Bytes} (hx : nameM mac h = .ok r nm iv) : r.tag ≤ 64 := by
 unfold nameM at hx
 split at hx
 ·cases hx
 ·split at hx
  ·cases hx
  ·split at hx
   ·cases hx
   ·rename_i r' hr
    have ht := row_tag hr
    split at hx
    ·cases hx
    ·split at hx
     ·cases hx; exact ht
     ·split at hx
      ·cases hx
      ·split at hx
       ·cases hx
       ·cases hx; exact ht
theorem Dec.text {L : List Atom} (h : Dec L) : ∀ a ∈ L, a.text.length ≤ 262144 := by
 intro a ha
 obtain ⟨l1, l2, rfl⟩ := List.append_of_mem ha
 have hb := h.bytes
 rw [E7.encB_app, E7.encB_cons, List.length_append, List.length_append] at hb
 unfold atomB at hb
 rw [List.length_append] at hb
 omega
end Go.Px.Co
namespace Go.Px
open Go.RowKit
theorem Blk.drewN {w : World} {b : Nat} {cs : Array Value} {T : TypeId} (h : Blk w b cs T) (n : Nat) : Blk (w.drewN n) b cs T := h
end Go.Px
namespace Go.Proofs.YtddiabaagpmkgaaDoor
open Go.RowKit Go.Px Go.Px.E7 Go.Px.Co
/-- An envelope at a place. -/
def EnvAt (w' : World) (b : Nat) (x : Env) (w : World) : Prop := ∃ g, w.heap.size ≤ g ∧ EnvB w' b x (.slice (some ⟨g, 0, none⟩) 1 1) ∧ Owns w' 59 9 cRec (.slice (some ⟨g, 0, none⟩) 1 1) x.to
theorem cRec_len (r : Rec) : (cRec r).length = 9 := rfl
theorem owns_rec1 {w : World} {g : Nat} {r : Rec} (h : Blk w g (cRec r).toArray 59) : Owns w 59 9 cRec (.slice (some ⟨g, 0, none⟩) 1 1) [r] :=
 ⟨by simp [cRec], .inr ⟨g, 1, _, rfl, Nat.zero_le _, h, Nat.le_refl _, by decide, by simp [cRec], by simp [cRec]⟩⟩
/-- What is told of a reading. -/
def ReadP (b : Nat) (d : Env × Int) (e : Ending) (w w' : World) : Prop :=
 e = .returned (.int .i64 d.2) ∧ Fr (fun j => j = b) w w' ∧ (d.2 = 0 → EnvAt w' b d.1 w)
theorem readP_err {b : Nat} {d : Env × Int} {er : Int} {w w' : World} (h : d = (zero, er)) (h0 : er ≠ 0) (hf : Fr (fun j => j = b) w w') : ReadP b d (.returned (.int .i64 er)) w w' := by
 subst h
 exact ⟨rfl, hf, fun e => absurd e h0⟩
set_option maxRecDepth 100000 in
set_option maxHeartbeats 20000000 in
theorem cread_any (b : Nat) (v : Value) (L : List Atom) (lim : Lim) (w : World) (hx : EnvB w b zero (.slice none 0 0)) (hv : Lies w 3 cAtom v L) (hvb : v.ownBlock ≠ some b) (hD : Dec L) (hb2 : 2 ≤ b) (hT : Tabs w) :
  Calls Tryd.prog 23 #[.pointer (some ⟨b, 0, none⟩), v, limV lim] w fun e w' => ReadP b (readL L lim) e w w' := by
 have hpos := hD.pos
 have hlen := hD.len
 obtain ⟨xb, xo, xc, hve, hxb, hcx⟩ := hv.cell 0 L[0] (by rw [List.getElem?_eq_getElem (by omega)])
 subst hve
 obtain ⟨_, _, hcap1, hcap2, hcap3⟩ := hv.slice
 simp only [Value.slice.injEq, true_and] at hcap1
 obtain ⟨rfl, rfl⟩ := hcap1
 have HV := Px.hid (show ∀ W, Fr (fun j => j = b) w W → Lies W 3 cAtom (.slice (some ⟨xb, xo, none⟩) L.length xc) L from fun W hW => Lies.fr hv hW (fun k e x => hvb (by rw [← show k = b from x]; exact e)))
 have HT := Px.hid (show ∀ W, Fr (fun j => j = b) w W → Tabs W from fun W hW => hT.fr hW (fun k e => by rw [show k = b from e]; exact hb2) (by have := hx.lt; omega))
 have HX := Px.hid (show PtS w w b zero (.slice none 0 0) from ⟨Fr.refl _ _, hx⟩)
 have HD := Px.hid (And.intro hD (And.intro hvb hb2))
 have hc := Px.hid hcap3
 obtain ⟨x0, x1, _⟩ := lies_atom hv 0 hpos
 rw [Nat.zero_mul, Nat.add_zero] at x0 x1
 have hg0 : L.getD 0 za = L[0] := getD_eq hpos
 have hn0 := hD.num hpos
 obtain ⟨c0, c1, c2, c3, c4, c5, c6, c7, c8, d0, d1, d2, d3, d4, d5, d6, d7, d8⟩ := blk9 (show Blk w b #[.int .i64 0, .int .i64 0, .slice none 0 0, S [], S [], S [], S [], S [], S []] 27 from hx)
 obtain ⟨a0, ha0⟩ : ∃ a0, a0 = L[0] := ⟨_, rfl⟩
 rw [← ha0] at x0 x1 hg0 hn0
 have HR := Px.hid (show readL L lim = if a0.kind ≠ 6 then (zero, 9) else if a0.num ≠ 16 ∧ a0.num ≠ 17 then (zero, 11) else
   if (L.getD 1 za).kind ≠ 4 ∨ (L.getD 1 za).num ≠ (if a0.num == 17 then 4 else 3) then (zero, 9)
   else if (L.getD 2 za).kind ≠ 2 then (zero, 9) else if (protect (L.getD 2 za).text lim).2 ≠ 0 then (zero, (protect (L.getD 2 za).text lim).2) else readB (a0.num == 17) L (protect (L.getD 2 za).text lim).1 by rw [← hg0]; rfl)
 have HA0 := Px.hid (And.intro ha0 hg0)
 have hposz : (0 : Int) < (L.length : Int) := by omega
 have hbw := hx.lt
 clear ha0 hg0 hcx hv hvb hD hT hx hcap3 hb2
 unfold limV
 go_enter Tryd.func23, Tryd.ntmps23
 by_cases hk : a0.kind = 6
 ·by_cases hnm : a0.num = 16 ∨ a0.num = 17
  ·obtain ⟨mac, hmac⟩ : ∃ mac : Bool, a0.num = if mac then 17 else 16 := by
    rcases hnm with e | e
    ·exact ⟨false, e⟩
    ·exact ⟨true, e⟩
   obtain ⟨q1, hq1⟩ := second HD.out.1.at0 (by rw [HA0.out.2]; exact hk)
   have hp1 := hq1.lt
   have hp1L : 1 < L.length := by omega
   have hp1z : (1 : Int) < (L.length : Int) := by omega
   have hg1 : L.getD 1 za = L[1] := getD_eq hp1L
   obtain ⟨a1, ha1⟩ : ∃ a1, a1 = L[1] := ⟨_, rfl⟩
   rw [← ha1] at hg1
   have HA1 := Px.hid (And.intro ha1 hg1)
   rw [hk] at x0
   clear ha1 hg1 hq1 hp1 hnm
   cases mac with
   | true =>
    have hnum : a0.num = 17 := hmac
    rw [hnum] at x1
    have z5 := Blk.set HX.out.env 0 (.int .i64 6)
    have HS : Hid (PtS w (w.setCell ⟨b, 0, none⟩ (.int .i64 6)) b { zero with fmt := 6 } (.slice none 0 0)) := Px.hid ⟨Fr.setCell (F := fun j => j = b) (p := ⟨b, 0, none⟩) (Fr.refl _ w) (.inl rfl) _, by simpa [envC, EnvB, zero] using z5⟩
    clear z5
    obtain ⟨z0, z1, _⟩ := lies_atom (HV.out w (Fr.refl _ _)) 1 hp1L
    rw [Nat.one_mul] at z0 z1
    rw [← HA1.out.1] at z0 z1
    have HR : Hid (readL L lim = if a1.kind ≠ 4 ∨ a1.num ≠ 4 then (zero, 9)
      else if (L.getD 2 za).kind ≠ 2 then (zero, 9) else if (protect (L.getD 2 za).text lim).2 ≠ 0 then (zero, (protect (L.getD 2 za).text lim).2) else readB true L (protect (L.getD 2 za).text lim).1) := Px.hid (by
     rw [HR.out, if_neg (fun e => e hk), if_neg (by omega), hnum, HA1.out.2]
     rfl)
    have HK := Px.hid (And.intro hk hnum)
    clear hk hnum hmac
    by_cases h14 : a1.kind = 4
    ·by_cases h1n : a1.num = 4
     ·rw [h14] at z0
      rw [h1n] at z1
      have HRP := readL_parts (mac := true) (lim := lim) hlen HD.out.1.wf HD.out.1.bytes (fun a ha => ⟨(HD.out.1.wf a ha).1, by have := HD.out.1.text a ha; omega⟩) HD.out.1.at0 (by rw [HA0.out.2]; exact HK.out.1) (by rw [HA0.out.2]; exact HK.out.2) (by rw [HA1.out.2]; exact h14) (by rw [HA1.out.2]; exact h1n)
      have HQ := Px.hid HRP
      clear HRP h14 h1n HR
      go_wp2_with fail
      go_quiet (fail)
      go_upto_region 8 with fail
      have hl2 : 2 ≤ (L.drop 2).length := HQ.out.1.pos
      rw [List.length_drop] at hl2
      have hl2z : (2 : Int) ≤ (L.length : Int) := by omega
      have hxc2 : ¬ xc = 2 := by omega
      obtain ⟨pm, hpm⟩ : ∃ pm, pm = partsM true (L.drop 2) lim := ⟨_, rfl⟩
      have HPM := Px.hid hpm
      have HC := Px.hid (show ∀ W, Same (w.setCell ⟨b, 0, none⟩ (.int .i64 6)) W → Calls Tryd.prog 39 #[.pointer (some ⟨b, 0, none⟩), .slice (some ⟨xb, xo + 6, none⟩) (L.length - 2) (xc - 2), limV lim] W fun e w' => PartsP b { zero with fmt := 6 } (.slice none 0 0) pm e W w' from fun W hW => by
       have hPW := HS.out.same hW
       rw [hpm]
       refine parts_any b { zero with fmt := 6 } (.slice none 0 0) _ true (L.drop 2) lim W hPW.env rfl ?_ (fun e => HD.out.2.1 e) HQ.out.1 HD.out.2.2 (HT.out W hPW.fr) ?_
       ·have z := Lies.piece (HV.out W hPW.fr) 2 L.length (by omega) (Nat.le_refl _)
        rw [List.take_of_length_le (by rw [List.length_drop]; exact Nat.le_refl _)] at z
        exact z
       ·rw [getD_drop]
        have : ∀ i, (L.getD i za).text.length ≤ 140737488355327 := fun i => by
         rw [List.getD_eq_getElem?_getD]
         cases hi : L[i]? with
         | none => show (0 : Nat) ≤ _; omega
         | some a => have := HD.out.1.text a (List.mem_of_getElem? hi); show a.text.length ≤ _; omega
        exact this _)
      unfold limV at HC
      clear hpm x0 x1 z0 z1 c0 c1 c2 c3 c4 c5 c6 c7 c8 d0 d1 d2 d3 d4 d5 d6 d7 d8
      go_cut [7, 8] (fun t7 t8 wx => PartsP b { zero with fmt := 6 } (.slice none 0 0) pm (.returned (.tuple #[t7, t8])) (w.setCell ⟨b, 0, none⟩ (.int .i64 6)) wx)
      case first =>
       go_region_with (go_at_call 39; refine (HC.out _ (Fr.drewN (Fr.alloc (Fr.refl _ _) _) _)).mono ?_; rintro e wa ⟨vh, rfl, hf, hok⟩; have HP := Px.hid (And.intro hf hok); clear hf hok)
       all_goals
        go_wp2_with fail
        go_meet
        exact ⟨vh, rfl, Fr.trans (Fr.drewN (Fr.alloc (Fr.refl _ _) _) _) HP.out.1 (fun _ _ x => x), HP.out.2⟩
      case rest =>
       obtain ⟨vh, he, hf, hok⟩ := hcut
       simp only [Ending.returned.injEq, Value.tuple.injEq] at he
       have he7 := congrArg (fun a : Array Value => a[0]?) he
       have he8 := congrArg (fun a : Array Value => a[1]?) he
       simp only [List.getElem?_toArray, List.getElem?_cons_zero, List.getElem?_cons_succ, Option.some.injEq] at he7 he8
       subst he7 he8
       have HF := Px.hid (show Fr (fun j => j = b) w wc from Fr.trans HS.out.fr hf (fun _ _ x => x))
       have HQ2 := Px.hid (show readL L lim = pm.out true by rw [HPM.out]; exact readL_out HQ.out.2)
       have HOK := Px.hid hok
       clear he hf hok HC
       cases pm with
       | bad e =>
        have hne := partsM_bad HPM.out.symm
        have HE : Hid (readL L lim = (zero, e)) := Px.hid HQ2.out
        rw [show (Prt.bad e).err = e from rfl]
        have hnz : ¬ e = 0 := hne
        go_wp2
        go_ret
        exact readP_err HE.out hnz HF.out
       | ok h hd lo ci tg =>
        obtain ⟨henv, hown, hnb, a, c, rfl⟩ := HOK.out h hd lo ci tg rfl
        obtain ⟨⟨hl1, hl2n⟩, hci⟩ := partsM_ok HQ.out.1 HPM.out.symm
        rw [show (Prt.ok h hd lo ci tg).err = 0 from rfl]
        have HE : Hid (readL L lim = last true hd lo ci tg h) := Px.hid HQ2.out
        have HO := Px.hid (And.intro henv (And.intro hown hnb))
        have HN := Px.hid (named_any b { zero with fmt := 6, header := hd, loose := lo, cipher := ci, tag := tg } (.slice none 0 0) (.slice a h.length c) true h wc (by exact henv) rfl (hown.lies cPair_len) hnb hl1 hl2n)
        clear henv hown hnb HOK HQ2 hl1 hl2n
        go_wp2_with fail
        refine HN.out.mono ?_
        rintro e w9 ⟨k, i, t, rfl, hf2, hok2⟩
        have HF9 := Px.hid (HF.out.trans hf2 (fun _ _ x => x))
        have HOK2 := Px.hid hok2
        clear hf2 hok2 HN
        have HE : Hid (readL L lim = (nameM true h).out true hd lo ci tg) := Px.hid (by rw [HE.out, last_out])
        obtain ⟨nmM, hnmM⟩ : ∃ m, m = nameM true h := ⟨_, rfl⟩
        rw [← hnmM] at HE HOK2 ⊢
        have HNM := Px.hid hnmM
        clear hnmM
        cases nmM with
        | bad e =>
         have hnz : ¬ e = 0 := nameM_bad HNM.out.symm
         rw [show (Nmd.bad e).err = e from rfl]
         have HE2 : Hid (readL L lim = (zero, e)) := Px.hid HE.out
         clear HE
         go_wp2
         go_ret
         exact readP_err HE2.out hnz (Fr.alloc HF9.out _)
        | ok r nm iv =>
         obtain ⟨rfl, rfl, g9, hg9, henv9, hb9⟩ := HOK2.out r nm iv rfl
         have htag := nameM_row HNM.out.symm
         rw [show (Nmd.ok r nm iv).err = 0 from rfl]
         have HE2 : Hid (readL L lim = lastM true hd lo ci tg r nm iv) := Px.hid HE.out
         have HX9 := Px.hid (And.intro henv9 (And.intro hb9 hg9))
         obtain ⟨c0, c1, c2, c3, c4, c5, c6, c7, c8, d0, d1, d2, d3, d4, d5, d6, d7, d8⟩ := blk9 (show Blk w9 b #[.int .i64 6, .int .i64 r.alg, .slice (some ⟨g9, 0, none⟩) 1 1, S hd, S lo, S [], S [], S ci, S tg] 27 from by exact henv9)
         have hb9l : b < w9.heap.size := henv9.lt
         clear HE henv9 hb9 HOK2
         by_cases htl : tg.length = r.tag
         ·have htz : (tg.length : Int) = (r.tag : Int) := by omega
          by_cases hcl : 70000 < ci.length
          ·have hcz : (70000 : Int) < (ci.length : Int) := by omega
           have HE3 : Hid (readL L lim = (zero, 10)) := Px.hid (by rw [HE2.out]; unfold lastM; rw [if_pos rfl, if_neg (fun e => e htl), if_pos hcl])
           clear htl hcl
           go_wp2_with fail
           go_quiet (fail)
           go_wp2
           go_ret
           exact readP_err HE3.out (by decide) (Fr.drewN (Fr.alloc HF9.out _) _)
          ·have hcz : ¬ (70000 : Int) < (ci.length : Int) := by omega
           have HE3 : Hid (readL L lim = (⟨6, r.alg, [direct nm], hd, lo, [], [], ci, tg⟩, 0)) := Px.hid (by rw [HE2.out]; unfold lastM; rw [if_pos rfl, if_neg (fun e => e htl), if_neg hcl])
           clear htl hcl
           go_wp2_with fail
           go_quiet (fail)
           go_wp2
           go_ret
           refine ⟨by rw [HE3.out]; rfl, Fr.drewN (Fr.alloc HF9.out _) _, fun _ => ?_⟩
           rw [HE3.out]
           exact ⟨g9, Nat.le_trans HF.out.size HX9.out.2.2, Blk.alloc HX9.out.1 _, owns_rec1 (Blk.alloc HX9.out.2.1 _)⟩
         ·have htz : ¬ (tg.length : Int) = (r.tag : Int) := by omega
          have HE3 : Hid (readL L lim = (zero, 9)) := Px.hid (by rw [HE2.out]; unfold lastM; rw [if_pos rfl, if_pos htl])
          clear htl
          go_wp2_with fail
          go_quiet (fail)
          go_wp2
          go_ret
          exact readP_err HE3.out (by decide) (Fr.drewN (Fr.alloc HF9.out _) _)
     ·have HE : Hid (readL L lim = (zero, 9)) := Px.hid (by rw [HR.out, if_pos (.inr h1n)])
      have h1z : ¬ (a1.num : Int) = 4 := by omega
      rw [h14] at z0
      clear h1n HR h14
      go_wp2_with fail
      go_quiet (fail)
      go_wp2
      go_ret
      refine readP_err HE.out (by decide) ?_
      repeat' first
       | refine Fr.setCell (F := fun j => j = b) ?_ (.inl rfl) _
       | refine Fr.alloc ?_ _
       | refine Fr.drew ?_
       | refine Fr.drewN ?_ _
       | exact Fr.refl _ w
    ·have HE : Hid (readL L lim = (zero, 9)) := Px.hid (by rw [HR.out, if_pos (.inl h14)])
     have h1z : ¬ a1.kind = 4 := h14
     clear HR h14
     go_wp2_with fail
     go_quiet (fail)
     go_wp2
     go_ret
     refine readP_err HE.out (by decide) ?_
     repeat' first
      | refine Fr.setCell (F := fun j => j = b) ?_ (.inl rfl) _
      | refine Fr.alloc ?_ _
      | refine Fr.drew ?_
      | refine Fr.drewN ?_ _
      | exact Fr.refl _ w
   | false =>
    have hnum : a0.num = 16 := hmac
    rw [hnum] at x1
    have z5 := Blk.set HX.out.env 0 (.int .i64 5)
    have HS : Hid (PtS w (w.setCell ⟨b, 0, none⟩ (.int .i64 5)) b { zero with fmt := 5 } (.slice none 0 0)) := Px.hid ⟨Fr.setCell (F := fun j => j = b) (p := ⟨b, 0, none⟩) (Fr.refl _ w) (.inl rfl) _, by simpa [envC, EnvB, zero] using z5⟩
    clear z5
    obtain ⟨z0, z1, _⟩ := lies_atom (HV.out w (Fr.refl _ _)) 1 hp1L
    rw [Nat.one_mul] at z0 z1
    rw [← HA1.out.1] at z0 z1
    have HR : Hid (readL L lim = if a1.kind ≠ 4 ∨ a1.num ≠ 3 then (zero, 9)
      else if (L.getD 2 za).kind ≠ 2 then (zero, 9) else if (protect (L.getD 2 za).text lim).2 ≠ 0 then (zero, (protect (L.getD 2 za).text lim).2) else readB false L (protect (L.getD 2 za).text lim).1) := Px.hid (by
     rw [HR.out, if_neg (fun e => e hk), if_neg (by omega), hnum, HA1.out.2]
     rfl)
    have HK := Px.hid (And.intro hk hnum)
    clear hk hnum hmac
    by_cases h14 : a1.kind = 4
    ·by_cases h1n : a1.num = 3
     ·rw [h14] at z0
      rw [h1n] at z1
      have HRP := readL_parts (mac := false) (lim := lim) hlen HD.out.1.wf HD.out.1.bytes (fun a ha => ⟨(HD.out.1.wf a ha).1, by have := HD.out.1.text a ha; omega⟩) HD.out.1.at0 (by rw [HA0.out.2]; exact HK.out.1) (by rw [HA0.out.2]; exact HK.out.2) (by rw [HA1.out.2]; exact h14) (by rw [HA1.out.2]; exact h1n)
      have HQ := Px.hid HRP
      clear HRP h14 h1n HR
      go_wp2_with fail
      go_quiet (fail)
      go_upto_region 8 with fail
      have hl2 : 2 ≤ (L.drop 2).length := HQ.out.1.pos
      rw [List.length_drop] at hl2
      have hl2z : (2 : Int) ≤ (L.length : Int) := by omega
      have hxc2 : ¬ xc = 2 := by omega
      obtain ⟨pm, hpm⟩ : ∃ pm, pm = partsM false (L.drop 2) lim := ⟨_, rfl⟩
      have HPM := Px.hid hpm
      have HC := Px.hid (show ∀ W, Same (w.setCell ⟨b, 0, none⟩ (.int .i64 5)) W → Calls Tryd.prog 39 #[.pointer (some ⟨b, 0, none⟩), .slice (some ⟨xb, xo + 6, none⟩) (L.length - 2) (xc - 2), limV lim] W fun e w' => PartsP b { zero with fmt := 5 } (.slice none 0 0) pm e W w' from fun W hW => by
       have hPW := HS.out.same hW
       rw [hpm]
       refine parts_any b { zero with fmt := 5 } (.slice none 0 0) _ false (L.drop 2) lim W hPW.env rfl ?_ (fun e => HD.out.2.1 e) HQ.out.1 HD.out.2.2 (HT.out W hPW.fr) ?_
       ·have z := Lies.piece (HV.out W hPW.fr) 2 L.length (by omega) (Nat.le_refl _)
        rw [List.take_of_length_le (by rw [List.length_drop]; exact Nat.le_refl _)] at z
        exact z
       ·rw [getD_drop]
        have : ∀ i, (L.getD i za).text.length ≤ 140737488355327 := fun i => by
         rw [List.getD_eq_getElem?_getD]
         cases hi : L[i]? with
         | none => show (0 : Nat) ≤ _; omega
         | some a => have := HD.out.1.text a (List.mem_of_getElem? hi); show a.text.length ≤ _; omega
        exact this _)
      unfold limV at HC
      clear hpm x0 x1 z0 z1 c0 c1 c2 c3 c4 c5 c6 c7 c8 d0 d1 d2 d3 d4 d5 d6 d7 d8
      go_cut [7, 8] (fun t7 t8 wx => PartsP b { zero with fmt := 5 } (.slice none 0 0) pm (.returned (.tuple #[t7, t8])) (w.setCell ⟨b, 0, none⟩ (.int .i64 5)) wx)
      case first =>
       go_region_with (go_at_call 39; refine (HC.out _ (Fr.drewN (Fr.alloc (Fr.refl _ _) _) _)).mono ?_; rintro e wa ⟨vh, rfl, hf, hok⟩; have HP := Px.hid (And.intro hf hok); clear hf hok)
       all_goals
        go_wp2_with fail
        go_meet
        exact ⟨vh, rfl, Fr.trans (Fr.drewN (Fr.alloc (Fr.refl _ _) _) _) HP.out.1 (fun _ _ x => x), HP.out.2⟩
      case rest =>
       obtain ⟨vh, he, hf, hok⟩ := hcut
       simp only [Ending.returned.injEq, Value.tuple.injEq] at he
       have he7 := congrArg (fun a : Array Value => a[0]?) he
       have he8 := congrArg (fun a : Array Value => a[1]?) he
       simp only [List.getElem?_toArray, List.getElem?_cons_zero, List.getElem?_cons_succ, Option.some.injEq] at he7 he8
       subst he7 he8
       have HF := Px.hid (show Fr (fun j => j = b) w wc from Fr.trans HS.out.fr hf (fun _ _ x => x))
       have HQ2 := Px.hid (show readL L lim = pm.out false by rw [HPM.out]; exact readL_out HQ.out.2)
       have HOK := Px.hid hok
       clear he hf hok HC
       cases pm with
       | bad e =>
        have hne := partsM_bad HPM.out.symm
        have HE : Hid (readL L lim = (zero, e)) := Px.hid HQ2.out
        rw [show (Prt.bad e).err = e from rfl]
        have hnz : ¬ e = 0 := hne
        go_wp2
        go_ret
        exact readP_err HE.out hnz HF.out
       | ok h hd lo ci tg =>
        obtain ⟨henv, hown, hnb, a, c, rfl⟩ := HOK.out h hd lo ci tg rfl
        obtain ⟨⟨hl1, hl2n⟩, hci⟩ := partsM_ok HQ.out.1 HPM.out.symm
        rw [show (Prt.ok h hd lo ci tg).err = 0 from rfl]
        have HE : Hid (readL L lim = last false hd lo ci tg h) := Px.hid HQ2.out
        have HO := Px.hid (And.intro henv (And.intro hown hnb))
        have HN := Px.hid (named_any b { zero with fmt := 5, header := hd, loose := lo, cipher := ci, tag := [] } (.slice none 0 0) (.slice a h.length c) false h wc (by exact henv) rfl (hown.lies cPair_len) hnb hl1 hl2n)
        clear henv hown hnb HOK HQ2 hl1 hl2n
        go_wp2_with fail
        refine HN.out.mono ?_
        rintro e w9 ⟨k, i, t, rfl, hf2, hok2⟩
        have HF9 := Px.hid (HF.out.trans hf2 (fun _ _ x => x))
        have HOK2 := Px.hid hok2
        clear hf2 hok2 HN
        have HE : Hid (readL L lim = (nameM false h).out false hd lo ci tg) := Px.hid (by rw [HE.out, last_out])
        obtain ⟨nmM, hnmM⟩ : ∃ m, m = nameM false h := ⟨_, rfl⟩
        rw [← hnmM] at HE HOK2 ⊢
        have HNM := Px.hid hnmM
        clear hnmM
        cases nmM with
        | bad e =>
         have hnz : ¬ e = 0 := nameM_bad HNM.out.symm
         rw [show (Nmd.bad e).err = e from rfl]
         have HE2 : Hid (readL L lim = (zero, e)) := Px.hid HE.out
         clear HE
         go_wp2
         go_ret
         exact readP_err HE2.out hnz (Fr.alloc HF9.out _)
        | ok r nm iv =>
         obtain ⟨rfl, rfl, g9, hg9, henv9, hb9⟩ := HOK2.out r nm iv rfl
         have htag := nameM_row HNM.out.symm
         rw [show (Nmd.ok r nm iv).err = 0 from rfl]
         have HE2 : Hid (readL L lim = lastM false hd lo ci tg r nm iv) := Px.hid HE.out
         have HX9 := Px.hid (And.intro henv9 (And.intro hb9 hg9))
         obtain ⟨c0, c1, c2, c3, c4, c5, c6, c7, c8, d0, d1, d2, d3, d4, d5, d6, d7, d8⟩ := blk9 (show Blk w9 b #[.int .i64 5, .int .i64 r.alg, .slice (some ⟨g9, 0, none⟩) 1 1, S hd, S lo, S [], S iv, S ci, S []] 27 from by exact henv9)
         have hb9l : b < w9.heap.size := henv9.lt
         clear HE henv9 hb9 HOK2
         have hwz : IntKind.i64.wrap ((ci.length : Int) - (r.tag : Int)) = (ci.length : Int) - (r.tag : Int) := IntWalk.i64_in _ (by omega)
         by_cases htl : ci.length < r.tag
         ·have htz : (ci.length : Int) - (r.tag : Int) < 0 := by omega
          have HE3 : Hid (readL L lim = (zero, 9)) := Px.hid (by rw [HE2.out]; unfold lastM; rw [if_neg (by decide), if_pos htl])
          clear htl
          go_wp2_with fail
          go_quiet (fail)
          go_wp2
          go_ret
          exact readP_err HE3.out (by decide) (Fr.drewN (Fr.alloc HF9.out _) _)
         ·have htz : ¬ (ci.length : Int) - (r.tag : Int) < 0 := by omega
          go_wp2_with fail
          go_quiet (fail)
          go_upto_region 18 with fail
          obtain ⟨tn, htn⟩ : ∃ tn, tn = ci.length - r.tag := ⟨_, rfl⟩
          have htni : (ci.length : Int) - (r.tag : Int) = (tn : Int) := by omega
          have htnl : tn ≤ ci.length := by omega
          have hts := fun W => to_S ci tn htnl W
          have hfs := fun W => from_S ci tn htnl W
          have hdl : (ci.drop tn).length = r.tag := by rw [List.length_drop]; omega
          have htk : (ci.take tn).length = tn := by rw [List.length_take]; omega
          rw [htni] at htz ⊢
          have HTN := Px.hid htn
          clear hwz htni htl htn
          go_cut [] (fun wx => Fr (fun j => j = b) w wx ∧ EnvB wx b (⟨5, r.alg, [], hd, lo, [], iv, ci.take tn, ci.drop tn⟩ : Env) (.slice (some ⟨g9, 0, none⟩) 1 1) ∧ Blk wx g9 (cRec (direct nm)).toArray 59 ∧ Blk wx w9.heap.size #[.int .i64 k, .int .i64 (r.iv : Nat), .int .i64 (r.tag : Nat)] 67)
          case first =>
           go_region
           all_goals
            go_wp2_with fail
            go_meet
            refine ⟨Fr.setCell (F := fun j => j = b) (p := ⟨b, 8, none⟩) (Fr.setCell (F := fun j => j = b) (p := ⟨b, 7, none⟩) (Fr.drewN (Fr.alloc HF9.out _) _) (.inl rfl) _) (.inl rfl) _, ?_, ?_, ?_⟩
            ·have z0 : Blk w9 b #[.int .i64 5, .int .i64 r.alg, .slice (some ⟨g9, 0, none⟩) 1 1, S hd, S lo, S [], S iv, S ci, S []] 27 := HX9.out.1
             have z := ((Blk.drewN (z0.alloc (.cells #[.int .i64 k, .int .i64 (r.iv : Nat), .int .i64 (r.tag : Nat)] 67)) (nq + 1)).set 7 (S (ci.take tn))).set 8 (S (ci.drop tn))
             simpa [envC, EnvB] using z
            ·exact ((Blk.drewN (Blk.alloc HX9.out.2.1 _) _).other _ (by show ¬ g9 = b; have := HX9.out.2.2; have := HF.out.size; omega)).other _ (by show ¬ g9 = b; have := HX9.out.2.2; have := HF.out.size; omega)
            ·exact ((Blk.drewN (blk_new w9 _ _) _).other _ (by show ¬ w9.heap.size = b; omega)).other _ (by show ¬ w9.heap.size = b; omega)
          case rest =>
           obtain ⟨cp, hcp⟩ : ∃ cp, cp = ci.take tn := ⟨_, rfl⟩
           obtain ⟨tgx, htgx⟩ : ∃ tgx, tgx = ci.drop tn := ⟨_, rfl⟩
           rw [← hcp] at hcut htk
           rw [← htgx] at hcut hdl
           have HCT := Px.hid (And.intro hcp htgx)
           obtain ⟨q1, q2, q3, q4⟩ := hcut
           have HW := Px.hid (And.intro q1 (And.intro q2 q3))
           obtain ⟨y0, y1, y2, _⟩ := blk3 q4
           clear c0 c1 c2 c3 c4 c5 c6 c7 c8 d0 d1 d2 d3 d4 d5 d6 d7 d8
           obtain ⟨c0, c1, c2, c3, c4, c5, c6, c7, c8, d0, d1, d2, d3, d4, d5, d6, d7, d8⟩ := blk9 (show Blk wc b #[.int .i64 5, .int .i64 r.alg, .slice (some ⟨g9, 0, none⟩) 1 1, S hd, S lo, S [], S iv, S cp, S tgx] 27 from q2)
           clear hcp htgx q1 q2 q3 q4 hts hfs
           have hdz : (tgx.length : Int) = (r.tag : Int) := by omega
           have hkz : (cp.length : Int) = (tn : Int) := by omega
           have HLM : Hid (readL L lim = if 70000 < tn ∨ (65536 ≤ tn ∧ r.iv = 13) then (zero, 10) else (⟨5, r.alg, [direct nm], hd, lo, [], iv, cp, tgx⟩, 0)) := Px.hid (by
            rw [HE2.out, HCT.out.1, HCT.out.2, HTN.out]
            unfold lastM
            rw [if_neg (by decide), if_neg (by have := HTN.out; omega)])
           clear hdl htk
           by_cases h65 : 65536 ≤ tn
           ·have h65z : (65536 : Int) ≤ (tn : Int) := by omega
            by_cases h13 : r.iv = 13
            ·rw [h13] at y1
             have HE3 : Hid (readL L lim = (zero, 10)) := Px.hid (by rw [HLM.out, if_pos (.inr ⟨h65, h13⟩)])
             clear h65 h13
             go_wp2
             go_ret
             exact readP_err HE3.out (by decide) HW.out.1
            ·have h13z : ((r.iv : Int) == 13) = false := by simp; omega
             by_cases h70 : 70000 < tn
             ·have h70z : (70000 : Int) < (tn : Int) := by omega
              have HE3 : Hid (readL L lim = (zero, 10)) := Px.hid (by rw [HLM.out, if_pos (.inl h70)])
              clear h65 h13 h70
              go_wp2_with fail
              go_quiet (fail)
              go_wp2
              go_ret
              exact readP_err HE3.out (by decide) (Fr.drewN HW.out.1 _)
             ·have h70z : ¬ (70000 : Int) < (tn : Int) := by omega
              have HE3 : Hid (readL L lim = (⟨5, r.alg, [direct nm], hd, lo, [], iv, cp, tgx⟩, 0)) := Px.hid (by rw [HLM.out, if_neg (by rintro (e | e); exact h70 e; exact h13 e.2)])
              clear h65 h13 h70
              go_wp2_with fail
              go_quiet (fail)
              go_wp2
              go_ret
              refine ⟨by rw [HE3.out]; rfl, Fr.drewN HW.out.1 _, fun _ => ?_⟩
              rw [HE3.out]
              exact ⟨g9, Nat.le_trans HF.out.size HX9.out.2.2, HW.out.2.1, owns_rec1 HW.out.2.2⟩
           ·have h65z : decide ((65536 : Int) ≤ (tn : Int)) = false := by simp; omega
            have h70z : ¬ (70000 : Int) < (tn : Int) := by omega
            have HE3 : Hid (readL L lim = (⟨5, r.alg, [direct nm], hd, lo, [], iv, cp, tgx⟩, 0)) := Px.hid (by rw [HLM.out, if_neg (by omega)])
            clear h65
            go_wp2_with fail
            go_quiet (fail)
            go_wp2
            go_ret
            refine ⟨by rw [HE3.out]; rfl, Fr.drewN HW.out.1 _, fun _ => ?_⟩
            rw [HE3.out]
            exact ⟨g9, Nat.le_trans HF.out.size HX9.out.2.2, HW.out.2.1, owns_rec1 HW.out.2.2⟩
     ·have HE : Hid (readL L lim = (zero, 9)) := Px.hid (by rw [HR.out, if_pos (.inr h1n)])
      have h1z : ¬ (a1.num : Int) = 3 := by omega
      rw [h14] at z0
      clear h1n HR h14
      go_wp2_with fail
      go_quiet (fail)
      go_wp2
      go_ret
      refine readP_err HE.out (by decide) ?_
      repeat' first
       | refine Fr.setCell (F := fun j => j = b) ?_ (.inl rfl) _
       | refine Fr.alloc ?_ _
       | refine Fr.drew ?_
       | refine Fr.drewN ?_ _
       | exact Fr.refl _ w
    ·have HE : Hid (readL L lim = (zero, 9)) := Px.hid (by rw [HR.out, if_pos (.inl h14)])
     have h1z : ¬ a1.kind = 4 := h14
     clear HR h14
     go_wp2_with fail
     go_quiet (fail)
     go_wp2
     go_ret
     refine readP_err HE.out (by decide) ?_
     repeat' first
      | refine Fr.setCell (F := fun j => j = b) ?_ (.inl rfl) _
      | refine Fr.alloc ?_ _
      | refine Fr.drew ?_
      | refine Fr.drewN ?_ _
      | exact Fr.refl _ w
  ·have HE : Hid (readL L lim = (zero, 11)) := Px.hid (by rw [HR.out, if_neg (fun e => e hk), if_pos (by omega)])
   have h16 : ¬ (a0.num : Int) = 16 := by omega
   have h17 : ¬ (a0.num : Int) = 17 := by omega
   have b16 : ((a0.num : Int) != 16) = true := by simp; omega
   have b17 : ((a0.num : Int) != 17) = true := by simp; omega
   rw [hk] at x0
   clear HR hnm
   go_wp2
   go_ret
   exact readP_err HE.out (by decide) (Fr.alloc (Fr.refl _ w) _)
 ·have HE : Hid (readL L lim = (zero, 9)) := Px.hid (by rw [HR.out, if_pos hk])
  have hkz : ¬ a0.kind = 6 := hk
  clear HR
  go_wp2
  go_ret
  exact readP_err HE.out (by decide) (Fr.alloc (Fr.refl _ w) _)
end Go.Proofs.YtddiabaagpmkgaaDoor

/-! The walk over cose.Read. -/
namespace Go.Px.Co
theorem last_err (mac : Bool) (hd lo ci tg : Bytes) (h : Hdr) (he : (last mac hd lo ci tg h).2 ≠ 0) : last mac hd lo ci tg h = (zero, (last mac hd lo ci tg h).2) := by
 rw [last_out] at he ⊢
 cases hn : nameM mac h with
 | bad e => rfl
 | ok r nm iv =>
  rw [hn] at he
  simp only [Nmd.out] at he ⊢
  unfold lastM at he ⊢
  cases mac with
  | true =>
   rw [if_pos rfl] at he ⊢
   by_cases c1 : tg.length ≠ r.tag
   ·rw [if_pos c1]
   ·rw [if_neg c1] at he ⊢
    by_cases c2 : 70000 < ci.length
    ·rw [if_pos c2]
    ·rw [if_neg c2] at he
     exact absurd rfl he
  | false =>
   rw [if_neg (by decide)] at he ⊢
   by_cases c1 : ci.length < r.tag
   ·rw [if_pos c1]
   ·rw [if_neg c1] at he ⊢
    by_cases c2 : 70000 < ci.length - r.tag ∨ (65536 ≤ ci.length - r.tag ∧ r.iv = 13)
    ·rw [if_pos c2]
    ·rw [if_neg c2] at he
     exact absurd rfl he
theorem ite_err {p : Prop} [Decidable p] {e : Int} {r : Env × Int} (hr : r.2 ≠ 0 → r = (zero, r.2)) : (if p then (zero, e) else r).2 ≠ 0 → (if p then (zero, e) else r) = (zero, (if p then (zero, e) else r).2) := by
 by_cases h : p
 ·rw [if_pos h]
  intro _
  rfl
 ·rw [if_neg h]
  exact hr
theorem readB_err (mac : Bool) (L : List Atom) (a : Hdr) : (readB mac L a).2 ≠ 0 → readB mac L a = (zero, (readB mac L a).2) := by
 unfold readB
 refine ite_err ?_
 dsimp only
 refine ite_err (ite_err (ite_err (ite_err ?_)))
 exact last_err _ _ _ _ _ _
theorem readL_err (L : List Atom) (lim : Lim) : (readL L lim).2 ≠ 0 → readL L lim = (zero, (readL L lim).2) := by
 unfold readL
 refine ite_err (ite_err ?_)
 dsimp only
 refine ite_err (ite_err (ite_err ?_))
 exact readB_err _ _ _
theorem read_err (s : Bytes) (lim : Lim) (he : (read s lim).2 ≠ 0) : read s lim = (zero, (read s lim).2) := by
 unfold read at he ⊢
 split
 ·rfl
 ·rename_i c
  rw [if_neg c] at he
  exact readL_err _ _ he
end Go.Px.Co
namespace Go.Proofs.YtddiabaagpmkgaaDoor
open Go.RowKit Go.Px Go.Px.E7 Go.Px.Co
/-- What a reading gives. -/
def GivesE (w : World) (d : Env × Int) (e : Ending) (w' : World) : Prop :=
 ∃ vto, e = .returned (.tuple #[.agg (envC d.1 vto), .int .i64 d.2]) ∧ Owns w' 59 9 cRec vto d.1.to ∧ Same w w' ∧ (∀ g, vto.ownBlock = some g → w.heap.size ≤ g) ∧ ∃ a c, vto = .slice a d.1.to.length c
theorem gives_zero {w w' : World} {d : Env × Int} {er : Int} (h : d = (zero, er)) (hs : Same w w') : GivesE w d (.returned (.tuple #[.agg #[.int .i64 0, .int .i64 0, .slice none 0 0, S [], S [], S [], S [], S [], S []], .int .i64 er])) w' := by
 subst h
 exact ⟨.slice none 0 0, rfl, owns_nil _ _ _ _, hs, nofun, none, 0, rfl⟩
def envZ : Array Value := #[.int .i64 0, .int .i64 0, .slice none 0 0, .string ByteArray.empty, .string ByteArray.empty, .string ByteArray.empty, .string ByteArray.empty, .string ByteArray.empty, .string ByteArray.empty]
set_option maxRecDepth 100000 in
set_option maxHeartbeats 20000000 in
theorem creadAll_any (s : Bytes) (lim : Lim) (w : World) (hs : s.length ≤ 140737488355327) (hT : Tabs w) :
  Calls Tryd.prog 10 #[S s, limV lim] w (GivesE w (Co.read s lim)) := by
 have h2 := hT.two
 have HT := Px.hid hT
 have HD := Px.hid (show ∀ W, Same w W → Calls Tryd.prog 22 #[S s, limV lim] W (Gives W (R7.decode s lim)) from fun W hW => decode_any s lim hs W (hT.same hW))
 clear hs hT
 have HR := Px.hid (show Co.read s lim = if (R7.decode s lim).2.2 ≠ 0 then (zero, (R7.decode s lim).2.2) else readL (R7.decode s lim).1 lim from rfl)
 have HDD := Px.hid (fun h : (R7.decode s lim).2.2 = 0 => (dec_of h).1)
 unfold limV at HD ⊢
 go_enter Tryd.func10, Tryd.ntmps10
 go_wp2_with fail
 refine (HD.out _ (Fr.alloc (Fr.alloc (Fr.refl _ w) _) _)).mono ?_
 intro e w1 hg
 obtain ⟨va, vc, rfl, ho, hs⟩ := hg.len
 have hnb : ∀ g, (Value.slice va (R7.decode s lim).1.length vc).ownBlock = some g → g < w1.heap.size := fun g hg => ho.lt hg
 have b3 : Blk w1 w.heap.size #[.int .i64 lim.d, .int .i64 lim.i, .int .i64 lim.b, .int .i64 lim.r] 23 := Blk.fr (Blk.alloc (blk_new w _ _) _) hs (fun x => x)
 have b4 : Blk w1 (w.heap.size + 1) #[.int .i64 0, .int .i64 0, .slice none 0 0, S [], S [], S [], S [], S [], S []] 27 := by
  have z := blk_new (w.alloc (.cells #[.int .i64 lim.d, .int .i64 lim.i, .int .i64 lim.b, .int .i64 lim.r] 23)) #[.int .i64 0, .int .i64 0, .slice none 0 0, S [], S [], S [], S [], S [], S []] 27
  have e : (w.alloc (.cells #[.int .i64 lim.d, .int .i64 lim.i, .int .i64 lim.b, .int .i64 lim.r] 23)).heap.size = w.heap.size + 1 := by simp
  rw [e] at z
  exact Blk.fr z hs (fun x => x)
 have HS := Px.hid (show Same w w1 from Fr.trans (Fr.alloc (Fr.alloc (Fr.refl _ w) _) _) hs (fun _ _ x => x))
 obtain ⟨d, hd⟩ : ∃ d, d = R7.decode s lim := ⟨_, rfl⟩
 rw [← hd] at HR HDD ho hnb ⊢
 have HO := Px.hid (And.intro ho hnb)
 have HB := Px.hid (And.intro b3 b4)
 have h4l := b4.lt
 have h3l := b3.lt
 obtain ⟨c0, c1, c2, c3, c4, c5, c6, c7, c8, d0, d1, d2, d3, d4, d5, d6, d7, d8⟩ := blk9 b4
 have l0 : w1.cell? ⟨w.heap.size, 0, none⟩ = some (.int .i64 lim.d) := b3.cell 0 rfl
 have l1 : w1.cell? ⟨w.heap.size, 1, none⟩ = some (.int .i64 lim.i) := b3.cell 1 rfl
 have l2 : w1.cell? ⟨w.heap.size, 2, none⟩ = some (.int .i64 lim.b) := b3.cell 2 rfl
 have l3 : w1.cell? ⟨w.heap.size, 3, none⟩ = some (.int .i64 lim.r) := b3.cell 3 rfl
 clear hd hs ho hnb b3 b4 hg HD
 obtain ⟨L, pl, er⟩ := d
 simp only at HR HDD HO ⊢
 by_cases he : er = 0
 ·subst he
  have HR2 : Hid (Co.read s lim = readL L lim) := Px.hid (by rw [HR.out, if_neg (fun e => e rfl)])
  have hD := HDD.out rfl
  have hbz : ∀ W, Same w1 W → True := fun _ _ => trivial
  have HC := Px.hid (cread_any w1.heap.size (.slice va L.length vc) L lim (w1.alloc (.cells #[.int .i64 0, .int .i64 0, .slice none 0 0, S [], S [], S [], S [], S [], S []] 27)) (blk_new w1 _ _) (Lies.same (HO.out.1.lies cAtom_len) (Fr.alloc (Fr.refl _ w1) _)) (fun e => by have := HO.out.2 _ e; omega) hD (by omega) (HT.out.same (Fr.alloc HS.out _)))
  unfold limV at HC
  clear hD hbz HDD HR
  go_wp2_with fail
  refine HC.out.mono ?_
  rintro e w2 ⟨rfl, hf, hok⟩
  obtain ⟨q, hq⟩ : ∃ q, q = readL L lim := ⟨_, rfl⟩
  rw [← hq] at hok HR2 ⊢
  clear hq HC
  have hs2 : Same w1 w2 := Fr.toSame (Fr.trans (Fr.alloc (Fr.refl (fun j => j = w1.heap.size) w1) _) hf (fun _ _ x => x)) (fun k e => by rw [show k = w1.heap.size from e]; exact Nat.le_refl _)
  have HS2 := Px.hid (HS.out.trans hs2)
  have HB2 := Px.hid (And.intro (HB.out.1.fr hs2 (fun x => x)) (HB.out.2.fr hs2 (fun x => x)))
  have HOK := Px.hid hok
  clear hf hok hs2 c0 c1 c2 c3 c4 c5 c6 c7 c8 d0 d1 d2 d3 d4 d5 d6 d7 d8 l0 l1 l2 l3
  obtain ⟨c0, c1, c2, c3, c4, c5, c6, c7, c8, d0, d1, d2, d3, d4, d5, d6, d7, d8⟩ := blk9 HB2.out.2
  have h4l2 := HB2.out.2.lt
  obtain ⟨x, er⟩ := q
  simp only at HOK HR2 ⊢
  by_cases he : er = 0
  ·subst he
   obtain ⟨g, hg1, henv, hown⟩ := HOK.out rfl
   have HX := Px.hid (And.intro henv (And.intro hown hg1))
   obtain ⟨e0, e1, e2, e3, e4, e5, e6, e7, e8, f0, f1, f2, f3, f4, f5, f6, f7, f8⟩ := blk9 (show Blk w2 w1.heap.size #[.int .i64 x.fmt, .int .i64 x.alg, .slice (some ⟨g, 0, none⟩) 1 1, S x.header, S x.loose, S x.aad, S x.iv, S x.cipher, S x.tag] 27 from henv)
   have hgl := hown.lt (k := g) rfl
   have hg9 : ¬ g = w.heap.size + 1 := by have := hg1; simp at this; omega
   have hone : x.to.length = 1 := by
    obtain ⟨a, c, hv, _⟩ := hown.len
    simp only [Value.slice.injEq] at hv
    exact hv.2.1.symm
   have HG := Px.hid (And.intro hg9 hone)
   clear henv hown hg1 HOK hg9 hone
   go_wp2
   refine bodyPost_ret (v := .tuple #[.agg #[.int .i64 x.fmt, .int .i64 x.alg, .slice (some ⟨g, 0, none⟩) 1 1, S x.header, S x.loose, S x.aad, S x.iv, S x.cipher, S x.tag], .int .i64 0]) (by simp [results, Tryd.results10, go_sem, *]) rfl ?_
   rw [HR2.out]
   refine ⟨_, rfl, ?_, ?_, fun k e => ?_, some ⟨g, 0, none⟩, 1, by rw [HG.out.2]⟩
   ·refine Owns.fr HX.out.2.1 (F := fun j => j = w.heap.size + 1) ?_ (fun k e x => ?_)
    ·repeat' first
      | refine Fr.setCell (F := fun j => j = w.heap.size + 1) ?_ (.inl rfl) _
      | exact Fr.refl _ _
    ·simp only [Value.ownBlock, Option.some.injEq] at e
     exact HG.out.1 (e.trans x)
   ·repeat' first
     | refine Fr.setCell ?_ (.inr (by dsimp only; omega)) _
     | exact HS2.out
   ·simp only [Value.ownBlock, Option.some.injEq] at e
    have := HX.out.2.2
    have := HS.out.size
    simp at *
    omega
  ·have hez : ¬ er = 0 := he
   have HZ : Hid (Co.read s lim = (zero, er)) := Px.hid (by
    have z := read_err s lim (by rw [HR2.out]; exact he)
    rw [HR2.out] at z ⊢
    exact z)
   clear HOK he
   go_wp2
   refine bodyPost_ret (v := .tuple #[.agg #[.int .i64 0, .int .i64 0, .slice none 0 0, S [], S [], S [], S [], S [], S []], .int .i64 er]) (by simp [results, Tryd.results10, go_sem, *]) rfl (gives_zero HZ.out ?_)
   repeat' first
    | refine Fr.setCell ?_ (.inr (by dsimp only; omega)) _
    | exact HS2.out
 ·have hez : ¬ er = 0 := he
  have HR2 : Hid (Co.read s lim = (zero, er)) := Px.hid (by rw [HR.out, if_pos he])
  clear HR HDD
  go_wp2
  refine bodyPost_ret (v := .tuple #[.agg #[.int .i64 0, .int .i64 0, .slice none 0 0, S [], S [], S [], S [], S [], S []], .int .i64 er]) (by simp [results, Tryd.results10, go_sem, *]) rfl (gives_zero HR2.out ?_)
  repeat' first
   | refine Fr.setCell ?_ (.inr (by dsimp only; omega)) _
   | exact HS.out
end Go.Proofs.YtddiabaagpmkgaaDoor
