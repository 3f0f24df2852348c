/-
 Several texts in one: The walk over cose.long (layer 25). The walk over cose.Structure (layer 25; printed by gen_cpu.py). The walk over the reference's Structure (layer 25; printed by gen_cqp.py). The walk over the statement CoseStructures (layer 25).
-/
import Derived.Test.YtddiabaagpmkgaaDoorCT
import Derived.Laws.IdiomStrings
import Derived.Test.YtddiabaagpmkgaaDoorCN
import Derived.Test.YtddiabaagpmkgaaDoorAdS
import Derived.IntWalk
import Derived.BigRegion
import Derived.Test.YtddiabaagpmkgaaDoorCL
/-! The walk over cose.long (layer 25). -/
namespace Go.Proofs.YtddiabaagpmkgaaDoor
open Go.RowKit Go.Px Go.Px.E7 Go.Px.Co
set_option maxRecDepth 100000 in
set_option maxHeartbeats 8000000 in
theorem clong_any (s : Bytes) (w : World) (hl : s.length ≤ 1048576) (hT : Tabs w) :
  Calls Tryd.prog 34 #[S s] w fun e w' => e = .returned (S (bytesI s)) ∧ Same w w' := by
 obtain ⟨c, t, h0, hc, h2, _⟩ := headB_or s.length
 have HE := Px.hid (show E7.encode [⟨0, s.length, []⟩] = (c :: t, 0) by rw [uint_enc _ (by omega), h0])
 have HB := Px.hid (show bytesI s = UInt8.ofNat (c.toNat + 64) :: (t ++ s) by unfold bytesI; rw [h2]; rfl)
 have HT := Px.hid hT
 have hln : t.length ≤ 9 := by
  have := headB_le 0 s.length (by omega)
  rw [h0, List.length_cons] at this
  omega
 have hsz : (s.length : Int) ≤ 1048576 := by omega
 have hw0 : IntKind.u64.wrap (s.length : Int) = (s.length : Int) := IntWalk.u64_in _ (by omega)
 have HC := Px.hid hc
 have HL := Px.hid hl
 clear hT h0 h2 hc hl
 go_enter Tryd.func34, Tryd.ntmps34
 go_wp2_with fail
 refine (encode_any _ [⟨0, s.length, []⟩] _ ?hA ?hB ?hC).mono ?_
 case hA => exact Owns.lies (show Owns _ 62 3 cAtom _ [⟨0, s.length, []⟩] from ⟨rfl, .inr ⟨_, 1, _, rfl, Nat.zero_le _, heap_alloc_new w _, Nat.le_refl _, by decide, rfl, rfl⟩⟩) cAtom_len
 case hB =>
  intro a ha
  rw [List.mem_singleton.1 ha]
  exact ⟨by have := HL.out; show s.length < _; omega, by show (0 : Nat) ≤ _; omega⟩
 case hC => exact HT.out.same (Fr.alloc (Fr.refl _ w) _)
 rintro e w1 ⟨rfl, hs⟩
 rw [HE.out]
 have HS := Px.hid (Same.trans (Fr.alloc (Fr.refl _ w) _) hs)
 clear hs hw0 hsz
 go_upto_region 3 with fail
 rw [run_bytes_of_string w1 9 75 5 _ Tryd.underlying9 Tryd.underlying75 Tryd.underlying5]
 obtain ⟨cap, hcap⟩ : ∃ cap, cap = grownCap w1 (ByteArray.mk (c :: t).toArray).size 0 5 := ⟨_, rfl⟩
 rw [← hcap]
 clear hcap
 rw [show (ByteArray.mk (c :: t).toArray).size = t.length + 1 by rw [size_S]; rfl]
 obtain ⟨W2, hW2⟩ : ∃ W2 : World, W2 = w1.drew.alloc (.cells (bytesRow ⟨(c :: t).toArray⟩ cap) 5 ((bytesRow ⟨(c :: t).toArray⟩ cap).size, (bytesRow ⟨(c :: t).toArray⟩ cap).size + 1)) := ⟨_, rfl⟩
 have hb : W2.heap[w1.heap.size]? = some (.cells (bytesRow ⟨(c :: t).toArray⟩ cap) 5 ((bytesRow ⟨(c :: t).toArray⟩ cap).size, (bytesRow ⟨(c :: t).toArray⟩ cap).size + 1)) := by rw [hW2]; exact heap_alloc_new w1.drew _
 have hbs : 0 < (bytesRow ⟨(c :: t).toArray⟩ cap).size := by unfold bytesRow; simp; omega
 have hc0 : ∀ i (h : i < (c :: t).length), W2.cell? ⟨w1.heap.size, i, none⟩ = some (.int .u8 (((c :: t)[i].toNat : Nat) : Int)) := fun i h => by
  refine cellOf hb i ?_
  unfold bytesRow
  rw [Array.getElem?_append_left (by simpa using h)]
  rw [Array.getElem?_map, List.getElem?_toArray, List.getElem?_eq_getElem h]
  rfl
 have hf0 : W2.frozen? ⟨w1.heap.size, 0, none⟩ = false := by
  unfold World.frozen?
  rw [hb]
  show (decide ((bytesRow ⟨(c :: t).toArray⟩ cap).size ≤ 0) && _) = false
  rw [decide_eq_false (by omega), Bool.false_and]
 have HS2 := Px.hid (HS.out.trans (show Same w1 W2 by rw [hW2]; exact Fr.alloc (Fr.drew (Fr.refl _ w1)) _))
 rw [← hW2]
 have HC0 := Px.hid hc0
 have k0 : W2.cell? ⟨w1.heap.size, 0, none⟩ = some (.int .u8 ((c.toNat : Nat) : Int)) := hc0 0 (Nat.succ_pos _)
 have hg2 : w1.heap.size < W2.heap.size := ltOf hb
 have htz : (0 : Int) < (t.length : Int) + 1 := by omega
 clear hW2 hb hc0 hbs
 go_upto_region 4 with fail
 have hv : bits .or .u8 ((c.toNat : Nat) : Int) 64 = (((UInt8.ofNat (c.toNat + 64)).toNat : Nat) : Int) := by
  have : ∀ n, n < 32 → bits .or .u8 ((n : Nat) : Int) 64 = (((UInt8.ofNat (n + 64)).toNat : Nat) : Int) := by decide +kernel
  exact this _ HC.out
 rw [hv]
 clear hv k0 hf0
 obtain ⟨b, hb⟩ : ∃ b, b = UInt8.ofNat (c.toNat + 64) := ⟨_, rfl⟩
 rw [← hb] at HB ⊢
 obtain ⟨W3, hW3⟩ : ∃ W3 : World, W3 = W2.setCell ⟨w1.heap.size, 0, none⟩ (.int .u8 ((b.toNat : Nat) : Int)) := ⟨_, rfl⟩
 have hcells : ∀ j (hj : j < (b :: t).length), W3.cell? ((⟨w1.heap.size, 0, none⟩ : Addr).add j) = some (.int .u8 (((b :: t)[j].toNat : Nat) : Int)) := fun j hj => by
  have hadd : (⟨w1.heap.size, 0, none⟩ : Addr).add j = ⟨w1.heap.size, j, none⟩ := by
   simp [Addr.add]
   try omega
  rw [hadd, hW3]
  cases j with
  | zero => exact World.cell?_setCell_same _ _ _ (HC0.out 0 (Nat.succ_pos _))
  | succ j =>
   rw [World.cell?_setCell_other _ _ _ _ (by simp)]
   exact HC0.out (j + 1) hj
 have hcv : (convert 75 9 (.slice (some ⟨w1.heap.size, 0, none⟩) (t.length + 1) cap)).run Tryd.prog W3 = .ok (.string ⟨(b :: t).toArray⟩) W3 := run_convert_bytes_back W3 _ _ 5 ⟨w1.heap.size, 0, none⟩ cap (b :: t) Tryd.underlying75 Tryd.underlying5 Tryd.underlying9 hcells
 have HS3 := Px.hid (show Same w W3 by rw [hW3]; exact Fr.setCell HS2.out (.inr HS.out.size) _)
 rw [← hW3]
 obtain ⟨R, hR⟩ : ∃ R, R = (b :: t) ++ s := ⟨_, rfl⟩
 have hln2 := HL.out
 have fR : ∀ W : World, (Op.stringOp .add ⟨(b :: t).toArray⟩ ⟨s.toArray⟩).run Tryd.prog W = .ok (.string ⟨R.toArray⟩) W := fun W => add_S (b :: t) s R hR (by rw [List.length_cons]; omega) W
 have HRR := Px.hid hR
 obtain ⟨bt, hbt⟩ : ∃ bt, bt = b :: t := ⟨_, rfl⟩
 rw [← hbt] at hcv fR
 clear hW3 hcells hR hb hln2 htz hg2 hbt
 go_wp2
 go_ret
 exact ⟨by rw [HB.out, HRR.out]; rfl, HS3.out⟩
end Go.Proofs.YtddiabaagpmkgaaDoor

/-! The walk over cose.Structure (layer 25; printed by gen_cpu.py). -/
namespace Go.Px.Co
open E7 (atomB right leaf)
/-- What one part is told as. -/
def pieceB (a : Atom) : Bytes := if a.kind = 2 then bytesI a.text else if a.kind = 3 then atomB a else R7.headB 4 a.num
def partsL (x : Env) (aad : Bytes) : List Atom :=
 if x.fmt = 5 then [⟨4, 3, []⟩, ⟨3, 0, enc0⟩, octets x.header, octets aad]
 else [⟨4, 4, []⟩, ⟨3, 0, mac0⟩, octets x.header, octets aad, octets x.cipher]
theorem struct_parts (x : Env) (aad : Bytes) : struct x aad = (partsL x aad).flatMap pieceB := by
 unfold struct partsL
 split
 ·simp only [List.flatMap_cons, List.flatMap_nil, List.append_nil, List.append_assoc]
  rfl
 ·simp only [List.flatMap_cons, List.flatMap_nil, List.append_nil, List.append_assoc]
  rfl
inductive GoodA : Atom → Prop
 | bytes (s : Bytes) (h : s.length ≤ 1048576) : GoodA (octets s)
 | text (s : Bytes) (h : s.length ≤ 8) (hr : right ⟨3, 0, s⟩ = true) : GoodA ⟨3, 0, s⟩
 | three : GoodA ⟨4, 3, []⟩
 | four : GoodA ⟨4, 4, []⟩
theorem parts_good (x : Env) (aad : Bytes) (h1 : x.header.length ≤ 1048576) (h2 : x.cipher.length ≤ 1048576) (h3 : aad.length ≤ 1048576) : (partsL x aad).length ≤ 5 ∧ ∀ a ∈ partsL x aad, GoodA a := by
 unfold partsL
 split
 ·refine ⟨by simp, fun a ha => ?_⟩
  simp only [List.mem_cons, List.not_mem_nil, or_false] at ha
  rcases ha with rfl | rfl | rfl | rfl
  ·exact .three
  ·exact .text _ (by decide) (by decide)
  ·exact .bytes _ h1
  ·exact .bytes _ h3
 ·refine ⟨by simp, fun a ha => ?_⟩
  simp only [List.mem_cons, List.not_mem_nil, or_false] at ha
  rcases ha with rfl | rfl | rfl | rfl | rfl
  ·exact .four
  ·exact .text _ (by decide) (by decide)
  ·exact .bytes _ h1
  ·exact .bytes _ h3
  ·exact .bytes _ h2
theorem take_piece (l : List Atom) (i : Nat) (h : i < l.length) : (l.take (i + 1)).flatMap pieceB = (l.take i).flatMap pieceB ++ pieceB l[i] := by
 rw [List.take_succ_eq_append_getElem h, List.flatMap_append, List.flatMap_cons, List.flatMap_nil, List.append_nil]
theorem piece_le {a : Atom} (h : GoodA a) : (pieceB a).length ≤ 1048600 := by
 cases h with
 | bytes s h => have := bytesI_le s (by omega); show (bytesI s).length ≤ _; omega
 | text s h hr =>
  show (R7.headB 3 s.length ++ s).length ≤ _
  have := headB_le 3 s.length (by omega)
  rw [List.length_append]
  omega
 | three => decide
 | four => decide
end Go.Px.Co
namespace Go.Proofs.YtddiabaagpmkgaaDoor
open Go.RowKit Go.Px Go.Px.E7 Go.Px.Co
theorem heap_two (w : World) (a b : Obj) : ((w.alloc a).alloc b).heap[w.heap.size + 1]? = some b := by
 have h := heap_alloc_new (w.alloc a) b
 rw [show (w.alloc a).heap.size = w.heap.size + 1 from by simp] at h
 exact h
set_option maxRecDepth 100000 in
set_option maxHeartbeats 8000000 in
theorem cstruct_any (x : Env) (vto : Value) (aad : Bytes) (w : World) (hto : ∃ a c, vto = .slice a x.to.length c) (h1 : x.header.length ≤ 1048576) (h2 : x.cipher.length ≤ 1048576) (h3 : aad.length ≤ 1048576) (hT : Tabs w) :
  Calls Tryd.prog 19 #[.agg (envC x vto), S aad] w fun e w' => e = .returned (S (struct x aad)) ∧ Same w w' := by
 obtain ⟨ta, tc, rfl⟩ := hto
 have HT := Px.hid hT
 obtain ⟨hpl, hpg⟩ := parts_good x aad h1 h2 h3
 have HPG := Px.hid (And.intro hpl hpg)
 have HM := Px.hid (struct_parts x aad)
 obtain ⟨H, hH⟩ : ∃ H, H = struct x aad := ⟨_, rfl⟩
 rw [← hH] at HM ⊢
 clear hH hT hpl hpg h1 h2 h3
 obtain ⟨i0, hi0, hz0, hz1, hz2⟩ := info_parts Tryd.infoAtom
 have h0 : Blk (w.alloc (.cells #[.int .i64 x.fmt, .int .i64 x.alg, .slice ta x.to.length tc, S x.header, S x.loose, S x.aad, S x.iv, S x.cipher, S x.tag] 27)) w.heap.size #[.int .i64 x.fmt, .int .i64 x.alg, .slice ta x.to.length tc, S x.header, S x.loose, S x.aad, S x.iv, S x.cipher, S x.tag] 27 := blk_new w _ _
 have hs0 : Same w (w.alloc (.cells #[.int .i64 x.fmt, .int .i64 x.alg, .slice ta x.to.length tc, S x.header, S x.loose, S x.aad, S x.iv, S x.cipher, S x.tag] 27)) := Fr.alloc (Fr.refl _ w) _
 unfold envC
 go_enter Tryd.func19, Tryd.ntmps19
 go_upto_region 1 with fail
 generalize (w.alloc (.cells #[.int .i64 x.fmt, .int .i64 x.alg, .slice ta x.to.length tc, S x.header, S x.loose, S x.aad, S x.iv, S x.cipher, S x.tag] 27)) = w1 at h0 hs0 ⊢
 have HX := Px.hid h0
 have HS := Px.hid hs0
 obtain ⟨c0, c1, c2, c3, c4, c5, c6, c7, c8, _⟩ := blk9 h0
 have hwl := h0.lt
 clear h0 hs0
 go_wp2_with fail
 refine (octets_any x.header _).mono ?_
 rintro e w2 ⟨rfl, hs⟩
 replace HX := Px.hid (HX.out.fr hs (fun x => x))
 replace HS := Px.hid (HS.out.trans hs)
 clear hs c0 c1 c2 c3 c4 c5 c6 c7 c8
 obtain ⟨c0, c1, c2, c3, c4, c5, c6, c7, c8, _⟩ := blk9 HX.out
 go_wp2_with fail
 refine (octets_any aad _).mono ?_
 rintro e w3 ⟨rfl, hs⟩
 replace HX := Px.hid (HX.out.fr hs (fun x => x))
 replace HS := Px.hid (HS.out.trans hs)
 clear hs c0 c1 c2 c3 c4 c5 c6 c7 c8
 obtain ⟨c0, c1, c2, c3, c4, c5, c6, c7, c8, _⟩ := blk9 HX.out
 have hwl3 := HX.out.lt
 go_upto_if 21 with fail
 obtain ⟨w4, hw4⟩ : ∃ w4 : World, w4 = w3.alloc (.cells #[.int .i64 4, .int .u64 3, S [], .int .i64 3, .int .u64 0, S enc0, .int .i64 2, .int .u64 0, S x.header, .int .i64 2, .int .u64 0, S aad] 62) := ⟨_, rfl⟩
 have hblk : w4.heap[w3.heap.size]? = some (.cells #[.int .i64 4, .int .u64 3, S [], .int .i64 3, .int .u64 0, S enc0, .int .i64 2, .int .u64 0, S x.header, .int .i64 2, .int .u64 0, S aad] 62 (0, 0)) := by rw [hw4]; exact heap_alloc_new w3 _
 have hs4 : Same w w4 := by rw [hw4]; exact Fr.alloc HS.out _
 have h34 : w3.heap.size < w4.heap.size := by rw [hw4]; simp
 have hx4 : Blk w4 w.heap.size #[.int .i64 x.fmt, .int .i64 x.alg, .slice ta x.to.length tc, S x.header, S x.loose, S x.aad, S x.iv, S x.cipher, S x.tag] 27 := by rw [hw4]; exact HX.out.fr (show Same w3 _ from Fr.alloc (Fr.refl _ w3) _) (fun x => x)
 rw [show ([69, 110, 99, 114, 121, 112, 116, 48] : Bytes) = enc0 from rfl]
 rw [← hw4]
 have HK := Px.hid (And.intro hblk (And.intro hs4 (And.intro HS.out.size hx4)))
 have q1 : w4.cell? ⟨w3.heap.size, 1, none⟩ = some (.int .u64 3) := cellOf hblk 1 rfl
 have q5 : w4.cell? ⟨w3.heap.size, 5, none⟩ = some (S enc0) := cellOf hblk 5 rfl
 have qf := freeOf hblk
 have qf1 := qf 1
 have qf5 := qf 5
 clear c0 c1 c2 c3 c4 c5 c6 c7 c8 hw4 hblk hs4 hx4 qf
 obtain ⟨c0, c1, c2, c3, c4, c5, c6, c7, c8, _⟩ := blk9 HK.out.2.2.2
 go_cut [5] (fun t5 wx => Lies wx 3 cAtom t5 (partsL x aad) ∧ Same w wx)
 case first =>
  by_cases h5 : x.fmt = 5
  ·have h5z : (x.fmt != 5) = false := by simpa using h5
   have HE := Px.hid (show partsL x aad = [⟨4, 3, []⟩, ⟨3, 0, enc0⟩, octets x.header, octets aad] by unfold partsL; rw [if_pos h5])
   clear h5
   go_wp2_with fail
   go_meet
   rw [HE.out]
   exact ⟨Owns.lies (show Owns w4 62 3 cAtom (.slice (some ⟨w3.heap.size, 0, none⟩) 4 4) [⟨4, 3, []⟩, ⟨3, 0, enc0⟩, octets x.header, octets aad] from ⟨rfl, .inr ⟨_, 4, _, rfl, Nat.zero_le _, HK.out.1, Nat.le_refl _, by decide, rfl, rfl⟩⟩) cAtom_len, HK.out.2.1⟩
  ·have h5z : (x.fmt != 5) = true := by simpa using h5
   have HE := Px.hid (show partsL x aad = [⟨4, 4, []⟩, ⟨3, 0, mac0⟩, octets x.header, octets aad] ++ [octets x.cipher] by unfold partsL; rw [if_neg h5]; rfl)
   clear h5
   go_wp2_with fail
   refine (octets_any x.cipher _).mono ?_
   rintro e w5 ⟨rfl, hs⟩
   have hsm : Same ((w4.setCell ⟨w3.heap.size, 1, none⟩ (.int .u64 4)).setCell ⟨w3.heap.size, 5, none⟩ (S mac0)) w5 := hs
   have ho : Owns ((w4.setCell ⟨w3.heap.size, 1, none⟩ (.int .u64 4)).setCell ⟨w3.heap.size, 5, none⟩ (S mac0)) 62 3 cAtom (.slice (some ⟨w3.heap.size, 0, none⟩) 4 4) [⟨4, 4, []⟩, ⟨3, 0, mac0⟩, octets x.header, octets aad] := ⟨rfl, .inr ⟨_, 4, _, rfl, Nat.zero_le _, heap_setCell_same _ _ _ _ _ _ (heap_setCell_same _ _ _ _ _ _ HK.out.1), Nat.le_refl _, by decide, rfl, rfl⟩⟩
   have HO := Px.hid (And.intro (show w5.ownsRow 0 62 3 (.slice (some ⟨w3.heap.size, 0, none⟩) 4 4) 4 ([⟨4, 4, []⟩, ⟨3, 0, mac0⟩, octets x.header, octets aad].flatMap cAtom) from Owns.same ho hsm) (Same.trans (Fr.setCell (Fr.setCell HK.out.2.1 (.inr HK.out.2.2.1) _) (.inr HK.out.2.2.1) _) hsm))
   clear hs hsm ho
   go_wp2_with (at_builtin; go_must (refine wpList_append_all rfl _ _ 50 50 rfl 62 i0 _ 3 32 Tryd.underlying50 hi0 hz0 hz1 hz2 rfl (.slice (some ⟨w3.heap.size, 0, none⟩) 4 4) 4 _ rfl (World.ownsRow.alloc HO.out.1 _) (.slice (some ⟨w5.heap.size, 0, none⟩) 1 1) 1 [.int .i64 2, .int .u64 0, S x.cipher] rfl (src_block (heap_alloc_new w5 _) (by simp [Value.oneCell'])) (by unfold maxLen; omega) (by omega) ?_))
   intro b cap w6 hown hgrow hat
   have HP := Px.hid (And.intro ((atoms_append (l := [⟨4, 4, []⟩, ⟨3, 0, mac0⟩, octets x.header, octets aad]) (k := [octets x.cipher]) hown).lies cAtom_len) (Fr.grown (Fr.alloc HO.out.2 _) hgrow (fun k e => by cases e; exact .inr HK.out.2.2.1)))
   clear hown hgrow hat
   go_wp2_with fail
   go_meet
   rw [HE.out]
   exact HP.out
 case rest =>
  obtain ⟨hl, hs⟩ := hcut
  obtain ⟨l, hll⟩ : ∃ l, l = partsL x aad := ⟨_, rfl⟩
  rw [← hll] at hl HM HPG
  obtain ⟨la, lc, rfl, _, _⟩ := hl.slice
  have HL := Px.hid hl
  have HSC := Px.hid hs
  have hn5 := HPG.out.1
  clear hll hl hs q1 q5 qf1 qf5 c0 c1 c2 c3 c4 c5 c6 c7 c8 HK HX HS h34 hwl
  go_wp2_with fail
  go_loopg [6, 36] (l.length + 1) (fun gk t6 t36 wr => ∃ (i : Nat) (o : Bytes), gk + i = l.length + 1 ∧ i ≤ l.length ∧ t36 = .int .i64 (i : Nat) ∧ t6 = S o ∧ Hid (o = (l.take i).flatMap pieceB ∧ o.length ≤ i * 1048600 ∧ Same wc wr))
  case atStart => exact ⟨0, [], rfl, Nat.zero_le _, rfl, rfl, Px.hid ⟨rfl, Nat.zero_le _, Same.refl _⟩⟩
  case round =>
   obtain ⟨i, o, hgk, hi, rfl, rfl, HS⟩ := hrel
   have HGK := Px.hid hgk
   clear hgk
   by_cases hlt : i < l.length
   ·have hltz : (i : Int) < (l.length : Int) := by omega
    obtain ⟨xb, xo, xc, hve, hxb, hcx⟩ := (Lies.same HL.out HS.out.2.2).cell i l[i] (by simp [hlt])
    simp only [Value.slice.injEq, true_and] at hve
    obtain ⟨rfl, rfl⟩ := hve
    have x0 := hcx 0 _ rfl
    have x1 := hcx 1 _ rfl
    have x2 := hcx 2 _ rfl
    rw [← Nat.add_assoc] at x0 x1 x2
    rw [Nat.add_zero] at x0
    have htk := take_piece l i hlt
    have hgd := HPG.out.2 l[i] (List.getElem_mem hlt)
    obtain ⟨a, ha⟩ : ∃ a, a = l[i] := ⟨_, rfl⟩
    rw [← ha] at x0 x1 x2 htk hgd
    have HTK := Px.hid htk
    have HPL := Px.hid (piece_le hgd)
    have HIL := Px.hid (show i ≤ 5 by omega)
    clear hcx ha htk
    cases hgd with
    | bytes s h =>
     replace x0 : wr.cell? ⟨xb, xo + i * 3, none⟩ = some (.int .i64 2) := x0
     replace x1 : wr.cell? ⟨xb, xo + i * 3 + 1, none⟩ = some (.int .u64 0) := x1
     replace x2 : wr.cell? ⟨xb, xo + i * 3 + 2, none⟩ = some (S s) := x2
     have HLO := Px.hid (fun W hW => clong_any s W h (HT.out.same hW))
     obtain ⟨p, hp⟩ : ∃ p, p = bytesI s := ⟨_, rfl⟩
     rw [← hp] at HLO
     have HPP := Px.hid (show p = pieceB (octets s) from hp)
     clear hp h
     obtain ⟨R, hR⟩ : ∃ R, R = o ++ p := ⟨_, rfl⟩
     have hRl : R.length ≤ (i + 1) * 1048600 := by
      rw [hR, List.length_append, Nat.add_mul]
      have := HS.out.2.1
      have h9 := HPL.out
      rw [← HPP.out] at h9
      omega
     have hRo : R = (l.take (i + 1)).flatMap pieceB := by rw [HTK.out, ← HS.out.1, hR, HPP.out]
     have fR : ∀ W : World, (Op.stringOp .add ⟨o.toArray⟩ ⟨p.toArray⟩).run Tryd.prog W = .ok (.string ⟨R.toArray⟩) W := fun W => add_S o p R hR (by
      have := HS.out.2.1
      have h9 := HPL.out
      have : i ≤ 5 := HIL.out
      rw [← HPP.out] at h9
      omega) W
     have HR := Px.hid (And.intro hRo hRl)
     clear hR hRl hRo
     go_wp2_with fail
     refine (HLO.out _ (Same.trans HSC.out (Fr.alloc HS.out.2.2 _))).mono ?_
     rintro e w2 ⟨rfl, hs⟩
     have HS2 := Px.hid (Same.trans (Fr.alloc HS.out.2.2 _) hs)
     clear hs
     go_wp2
     go_roundg (l.length - i)
     case measure => have := HGK.out; omega
     case rel => exact ⟨i + 1, R, by omega, by omega, by go_num, rfl, Px.hid ⟨HR.out.1, HR.out.2, HS2.out⟩⟩
    | text s h hr =>
     replace x0 : wr.cell? ⟨xb, xo + i * 3, none⟩ = some (.int .i64 3) := x0
     replace x1 : wr.cell? ⟨xb, xo + i * 3 + 1, none⟩ = some (.int .u64 0) := x1
     replace x2 : wr.cell? ⟨xb, xo + i * 3 + 2, none⟩ = some (S s) := x2
     obtain ⟨p, hp⟩ : ∃ p, p = atomB ⟨3, 0, s⟩ := ⟨_, rfl⟩
     have HE1 := Px.hid (show E7.encode [⟨3, 0, s⟩] = (p, 0) by rw [hp]; exact one_enc hr rfl (by show (0 : Nat) < 18446744073709551616; decide) (by show s.length ≤ _; omega))
     have HE0 := Px.hid (show E7.encode [⟨0, 0, []⟩] = (R7.headB 0 0, 0) from uint_enc 0 (by decide))
     have HPP := Px.hid (show p = pieceB ⟨3, 0, s⟩ from hp)
     have HSL := Px.hid h
     have HBX := Px.hid (show Blk (wr.alloc (.cells #[.int .i64 3, .int .u64 0, S s] 62)) wr.heap.size #[.int .i64 3, .int .u64 0, S s] 62 from blk_new wr _ _)
     clear hp h hr
     obtain ⟨R, hR⟩ : ∃ R, R = o ++ p := ⟨_, rfl⟩
     have hRl : R.length ≤ (i + 1) * 1048600 := by
      rw [hR, List.length_append, Nat.add_mul]
      have := HS.out.2.1
      have h9 := HPL.out
      rw [← HPP.out] at h9
      omega
     have hRo : R = (l.take (i + 1)).flatMap pieceB := by rw [HTK.out, ← HS.out.1, hR, HPP.out]
     have fR : ∀ W : World, (Op.stringOp .add ⟨o.toArray⟩ ⟨p.toArray⟩).run Tryd.prog W = .ok (.string ⟨R.toArray⟩) W := fun W => add_S o p R hR (by
      have := HS.out.2.1
      have h9 := HPL.out
      have : i ≤ 5 := HIL.out
      rw [← HPP.out] at h9
      omega) W
     have HR := Px.hid (And.intro hRo hRl)
     clear hR hRl hRo
     go_wp2_with fail
     refine (encode_any _ [⟨0, 0, []⟩] _ ?hA ?hB ?hC).mono ?_
     case hA => refine Owns.lies (T := 62) ⟨rfl, .inr ⟨_, 1, #[.int .i64 0, .int .u64 0, S []], rfl, Nat.zero_le _, heap_two wr _ _, Nat.le_refl _, by decide, rfl, rfl⟩⟩ cAtom_len
     case hB =>
      intro a ha
      rw [List.mem_singleton.1 ha]
      exact ⟨by decide, by show (0 : Nat) ≤ _; omega⟩
     case hC => exact HT.out.same (Same.trans HSC.out (Fr.alloc (Fr.alloc HS.out.2.2 _) _))
     rintro e w2 ⟨rfl, hs⟩
     rw [HE0.out]
     have HS2 := Px.hid (Same.trans (Fr.alloc (Fr.alloc HS.out.2.2 _) _) hs)
     replace HBX := Px.hid (HBX.out.fr (Same.trans (Fr.alloc (Fr.refl _ _) _) hs) (fun x => x))
     have b0 := HBX.out.cell 0 (v := .int .i64 3) rfl
     have b1 := HBX.out.cell 1 (v := .int .u64 0) rfl
     have b2 := HBX.out.cell 2 (v := S s) rfl
     have hbl := HBX.out.lt
     clear hs
     go_wp2_with fail
     refine (encode_any _ [⟨3, 0, s⟩] _ ?hA ?hB ?hC).mono ?_
     case hA => refine Owns.lies (T := 62) ⟨rfl, .inr ⟨_, 1, _, rfl, Nat.zero_le _, heap_alloc_new w2 _, Nat.le_refl _, by decide, rfl, rfl⟩⟩ cAtom_len
     case hB =>
      intro a ha
      rw [List.mem_singleton.1 ha]
      exact ⟨by show (0 : Nat) < 18446744073709551616; decide, by have := HSL.out; show s.length ≤ _; omega⟩
     case hC => exact HT.out.same (Same.trans HSC.out (Fr.alloc HS2.out _))
     rintro e w3 ⟨rfl, hs⟩
     rw [HE1.out]
     have HS3 := Px.hid (Same.trans (Fr.alloc HS2.out _) hs)
     clear hs
     go_wp2
     go_roundg (l.length - i)
     case measure => have := HGK.out; omega
     case rel => exact ⟨i + 1, R, by omega, by omega, by go_num, rfl, Px.hid ⟨HR.out.1, HR.out.2, HS3.out⟩⟩
    | three =>
     replace x0 : wr.cell? ⟨xb, xo + i * 3, none⟩ = some (.int .i64 4) := x0
     replace x1 : wr.cell? ⟨xb, xo + i * 3 + 1, none⟩ = some (.int .u64 3) := x1
     replace x2 : wr.cell? ⟨xb, xo + i * 3 + 2, none⟩ = some (S []) := x2
     obtain ⟨c, hc⟩ : ∃ c : UInt8, c = 3 := ⟨_, rfl⟩
     obtain ⟨d, hd⟩ : ∃ d : UInt8, d = 131 := ⟨_, rfl⟩
     have HE0 := Px.hid (show E7.encode [⟨0, 3, []⟩] = ([c], 0) by rw [hc]; exact uint_enc 3 (by decide))
     have hv : bits .or .u8 ((c.toNat : Nat) : Int) 128 = ((d.toNat : Nat) : Int) := by rw [hc, hd]; decide +kernel
     have HPP := Px.hid (show [d] = pieceB ⟨4, 3, []⟩ by rw [hd]; decide)
     clear hc hd
     have HBX := Px.hid (show Blk (wr.alloc (.cells #[.int .i64 4, .int .u64 3, S []] 62)) wr.heap.size #[.int .i64 4, .int .u64 3, S []] 62 from blk_new wr _ _)
     obtain ⟨R, hR⟩ : ∃ R, R = o ++ [d] := ⟨_, rfl⟩
     have hRl : R.length ≤ (i + 1) * 1048600 := by
      rw [hR, List.length_append, Nat.add_mul]
      have := HS.out.2.1
      have h9 := HPL.out
      rw [← HPP.out] at h9
      omega
     have hRo : R = (l.take (i + 1)).flatMap pieceB := by rw [HTK.out, ← HS.out.1, hR, HPP.out]
     have fR : ∀ W : World, (Op.stringOp .add ⟨o.toArray⟩ ⟨[d].toArray⟩).run Tryd.prog W = .ok (.string ⟨R.toArray⟩) W := fun W => add_S o [d] R hR (by
      have := HS.out.2.1
      have h9 := HPL.out
      have : i ≤ 5 := HIL.out
      rw [← HPP.out] at h9
      omega) W
     have HR := Px.hid (And.intro hRo hRl)
     clear hR hRl hRo
     go_wp2_with fail
     refine (encode_any _ [⟨0, 3, []⟩] _ ?hA ?hB ?hC).mono ?_
     case hA => refine Owns.lies (T := 62) ⟨rfl, .inr ⟨_, 1, #[.int .i64 0, .int .u64 3, S []], rfl, Nat.zero_le _, heap_two wr _ _, Nat.le_refl _, by decide, rfl, rfl⟩⟩ cAtom_len
     case hB =>
      intro a ha
      rw [List.mem_singleton.1 ha]
      exact ⟨by decide, by show (0 : Nat) ≤ _; omega⟩
     case hC => exact HT.out.same (Same.trans HSC.out (Fr.alloc (Fr.alloc HS.out.2.2 _) _))
     rintro e w2 ⟨rfl, hs⟩
     rw [HE0.out]
     have HS2 := Px.hid (Same.trans (Fr.alloc (Fr.alloc HS.out.2.2 _) _) hs)
     replace HBX := Px.hid (HBX.out.fr (Same.trans (Fr.alloc (Fr.refl _ _) _) hs) (fun x => x))
     have b0 := HBX.out.cell 0 (v := .int .i64 4) rfl
     have b1 := HBX.out.cell 1 (v := .int .u64 3) rfl
     have b2 := HBX.out.cell 2 (v := S []) rfl
     have hbl := HBX.out.lt
     clear hs
     go_upto_region 13 with fail
     have hix : ∀ h, (⟨#[c]⟩ : ByteArray)[0]'h = c := fun _ => rfl
     have hcv : (convert 75 9 (.slice (some ⟨w2.heap.size, 0, none⟩) 1 1)).run Tryd.prog (w2.alloc (.cells #[.int .u8 ((d.toNat : Nat) : Int)] 5)).drew = .ok (S [d]) (w2.alloc (.cells #[.int .u8 ((d.toNat : Nat) : Int)] 5)).drew := run_convert_bytes_back _ _ _ 5 ⟨w2.heap.size, 0, none⟩ 1 [d] Tryd.underlying75 Tryd.underlying5 Tryd.underlying9 (fun j hj => by
      cases j with
      | zero => exact cellOf (heap_alloc_new w2 _) 0 rfl
      | succ j => simp at hj)
     go_region
     go_wp2
     go_roundg (l.length - i)
     case measure => have := HGK.out; omega
     case rel => exact ⟨i + 1, R, by omega, by omega, by go_num, rfl, Px.hid ⟨HR.out.1, HR.out.2, Fr.alloc (Fr.drew HS2.out) _⟩⟩
    | four =>
     replace x0 : wr.cell? ⟨xb, xo + i * 3, none⟩ = some (.int .i64 4) := x0
     replace x1 : wr.cell? ⟨xb, xo + i * 3 + 1, none⟩ = some (.int .u64 4) := x1
     replace x2 : wr.cell? ⟨xb, xo + i * 3 + 2, none⟩ = some (S []) := x2
     obtain ⟨c, hc⟩ : ∃ c : UInt8, c = 4 := ⟨_, rfl⟩
     obtain ⟨d, hd⟩ : ∃ d : UInt8, d = 132 := ⟨_, rfl⟩
     have HE0 := Px.hid (show E7.encode [⟨0, 4, []⟩] = ([c], 0) by rw [hc]; exact uint_enc 4 (by decide))
     have hv : bits .or .u8 ((c.toNat : Nat) : Int) 128 = ((d.toNat : Nat) : Int) := by rw [hc, hd]; decide +kernel
     have HPP := Px.hid (show [d] = pieceB ⟨4, 4, []⟩ by rw [hd]; decide)
     clear hc hd
     have HBX := Px.hid (show Blk (wr.alloc (.cells #[.int .i64 4, .int .u64 4, S []] 62)) wr.heap.size #[.int .i64 4, .int .u64 4, S []] 62 from blk_new wr _ _)
     obtain ⟨R, hR⟩ : ∃ R, R = o ++ [d] := ⟨_, rfl⟩
     have hRl : R.length ≤ (i + 1) * 1048600 := by
      rw [hR, List.length_append, Nat.add_mul]
      have := HS.out.2.1
      have h9 := HPL.out
      rw [← HPP.out] at h9
      omega
     have hRo : R = (l.take (i + 1)).flatMap pieceB := by rw [HTK.out, ← HS.out.1, hR, HPP.out]
     have fR : ∀ W : World, (Op.stringOp .add ⟨o.toArray⟩ ⟨[d].toArray⟩).run Tryd.prog W = .ok (.string ⟨R.toArray⟩) W := fun W => add_S o [d] R hR (by
      have := HS.out.2.1
      have h9 := HPL.out
      have : i ≤ 5 := HIL.out
      rw [← HPP.out] at h9
      omega) W
     have HR := Px.hid (And.intro hRo hRl)
     clear hR hRl hRo
     go_wp2_with fail
     refine (encode_any _ [⟨0, 4, []⟩] _ ?hA ?hB ?hC).mono ?_
     case hA => refine Owns.lies (T := 62) ⟨rfl, .inr ⟨_, 1, #[.int .i64 0, .int .u64 4, S []], rfl, Nat.zero_le _, heap_two wr _ _, Nat.le_refl _, by decide, rfl, rfl⟩⟩ cAtom_len
     case hB =>
      intro a ha
      rw [List.mem_singleton.1 ha]
      exact ⟨by decide, by show (0 : Nat) ≤ _; omega⟩
     case hC => exact HT.out.same (Same.trans HSC.out (Fr.alloc (Fr.alloc HS.out.2.2 _) _))
     rintro e w2 ⟨rfl, hs⟩
     rw [HE0.out]
     have HS2 := Px.hid (Same.trans (Fr.alloc (Fr.alloc HS.out.2.2 _) _) hs)
     replace HBX := Px.hid (HBX.out.fr (Same.trans (Fr.alloc (Fr.refl _ _) _) hs) (fun x => x))
     have b0 := HBX.out.cell 0 (v := .int .i64 4) rfl
     have b1 := HBX.out.cell 1 (v := .int .u64 4) rfl
     have b2 := HBX.out.cell 2 (v := S []) rfl
     have hbl := HBX.out.lt
     clear hs
     go_upto_region 13 with fail
     have hix : ∀ h, (⟨#[c]⟩ : ByteArray)[0]'h = c := fun _ => rfl
     have hcv : (convert 75 9 (.slice (some ⟨w2.heap.size, 0, none⟩) 1 1)).run Tryd.prog (w2.alloc (.cells #[.int .u8 ((d.toNat : Nat) : Int)] 5)).drew = .ok (S [d]) (w2.alloc (.cells #[.int .u8 ((d.toNat : Nat) : Int)] 5)).drew := run_convert_bytes_back _ _ _ 5 ⟨w2.heap.size, 0, none⟩ 1 [d] Tryd.underlying75 Tryd.underlying5 Tryd.underlying9 (fun j hj => by
      cases j with
      | zero => exact cellOf (heap_alloc_new w2 _) 0 rfl
      | succ j => simp at hj)
     go_region
     go_wp2
     go_roundg (l.length - i)
     case measure => have := HGK.out; omega
     case rel => exact ⟨i + 1, R, by omega, by omega, by go_num, rfl, Px.hid ⟨HR.out.1, HR.out.2, Fr.alloc (Fr.drew HS2.out) _⟩⟩
   ·have hltz : ¬ (i : Int) < (l.length : Int) := by omega
    have hE : o = H := by rw [HM.out, HS.out.1, List.take_of_length_le (by omega)]
    subst hE
    go_wp2
    go_ret
    exact ⟨rfl, HSC.out.trans HS.out.2.2⟩
end Go.Proofs.YtddiabaagpmkgaaDoor

/-! The walk over the reference's Structure (layer 25; printed by gen_cqp.py). -/
namespace Go.Proofs.YtddiabaagpmkgaaDoor
open Go.RowKit Go.Px Go.Px.E7 Go.Px.Co
set_option maxRecDepth 100000 in
set_option maxHeartbeats 8000000 in
theorem rstruct_any (x : Env) (vto : Value) (aad : Bytes) (w : World) (hto : ∃ a c, vto = .slice a x.to.length c) (h1 : x.header.length ≤ 1048576) (h2 : x.cipher.length ≤ 1048576) (h3 : aad.length ≤ 1048576) :
  Calls Tryd.prog 20 #[.agg (envC x vto), S aad] w fun e w' => e = .returned (S (struct x aad)) ∧ Same w w' := by
 obtain ⟨ta, tc, rfl⟩ := hto
 obtain ⟨B1, hB1⟩ : ∃ B, B = bytesI x.header := ⟨_, rfl⟩
 obtain ⟨B2, hB2⟩ : ∃ B, B = bytesI aad := ⟨_, rfl⟩
 obtain ⟨B3, hB3⟩ : ∃ B, B = bytesI x.cipher := ⟨_, rfl⟩
 have HB1 := Px.hid (show ∀ W, Calls Tryd.prog 30 #[S x.header] W fun e w' => e = .returned (S B1) ∧ Same W w' from fun W => by rw [hB1]; exact rbytes_any _ W (by omega))
 have HB2 := Px.hid (show ∀ W, Calls Tryd.prog 30 #[S aad] W fun e w' => e = .returned (S B2) ∧ Same W w' from fun W => by rw [hB2]; exact rbytes_any _ W (by omega))
 have HB3 := Px.hid (show ∀ W, Calls Tryd.prog 30 #[S x.cipher] W fun e w' => e = .returned (S B3) ∧ Same W w' from fun W => by rw [hB3]; exact rbytes_any _ W (by omega))
 have lb1 := bytesI_le x.header (by omega)
 have lb2 := bytesI_le aad (by omega)
 have lb3 := bytesI_le x.cipher (by omega)
 rw [← hB1] at lb1
 rw [← hB2] at lb2
 rw [← hB3] at lb3
 obtain ⟨E1, hE1⟩ : ∃ C, C = ([131, 104, 69, 110, 99, 114, 121, 112, 116, 48] : Bytes) ++ B1 := ⟨_, rfl⟩
 have lE1 := congrArg List.length hE1
 rw [List.length_append] at lE1
 have fE1 : ∀ W : World, (Op.stringOp .add ⟨#[131, 104, 69, 110, 99, 114, 121, 112, 116, 48]⟩ ⟨(B1).toArray⟩).run Tryd.prog W = .ok (.string ⟨E1.toArray⟩) W := fun W => add_S ([131, 104, 69, 110, 99, 114, 121, 112, 116, 48] : Bytes) B1 E1 hE1 (by first | omega | (simp only [List.length_cons, List.length_nil] at *; omega)) W
 obtain ⟨E2, hE2⟩ : ∃ C, C = E1 ++ B2 := ⟨_, rfl⟩
 have lE2 := congrArg List.length hE2
 rw [List.length_append] at lE2
 have fE2 : ∀ W : World, (Op.stringOp .add ⟨(E1).toArray⟩ ⟨(B2).toArray⟩).run Tryd.prog W = .ok (.string ⟨E2.toArray⟩) W := fun W => add_S E1 B2 E2 hE2 (by first | omega | (simp only [List.length_cons, List.length_nil] at *; omega)) W
 obtain ⟨M1, hM1⟩ : ∃ C, C = ([132, 100, 77, 65, 67, 48] : Bytes) ++ B1 := ⟨_, rfl⟩
 have lM1 := congrArg List.length hM1
 rw [List.length_append] at lM1
 have fM1 : ∀ W : World, (Op.stringOp .add ⟨#[132, 100, 77, 65, 67, 48]⟩ ⟨(B1).toArray⟩).run Tryd.prog W = .ok (.string ⟨M1.toArray⟩) W := fun W => add_S ([132, 100, 77, 65, 67, 48] : Bytes) B1 M1 hM1 (by first | omega | (simp only [List.length_cons, List.length_nil] at *; omega)) W
 obtain ⟨M2, hM2⟩ : ∃ C, C = M1 ++ B2 := ⟨_, rfl⟩
 have lM2 := congrArg List.length hM2
 rw [List.length_append] at lM2
 have fM2 : ∀ W : World, (Op.stringOp .add ⟨(M1).toArray⟩ ⟨(B2).toArray⟩).run Tryd.prog W = .ok (.string ⟨M2.toArray⟩) W := fun W => add_S M1 B2 M2 hM2 (by first | omega | (simp only [List.length_cons, List.length_nil] at *; omega)) W
 obtain ⟨M3, hM3⟩ : ∃ C, C = M2 ++ B3 := ⟨_, rfl⟩
 have lM3 := congrArg List.length hM3
 rw [List.length_append] at lM3
 have fM3 : ∀ W : World, (Op.stringOp .add ⟨(M2).toArray⟩ ⟨(B3).toArray⟩).run Tryd.prog W = .ok (.string ⟨M3.toArray⟩) W := fun W => add_S M2 B3 M3 hM3 (by first | omega | (simp only [List.length_cons, List.length_nil] at *; omega)) W
 have HE5 := Px.hid (fun hf : x.fmt = 5 => (show struct x aad = E2 by rw [hE2, hE1, hB1, hB2]; unfold struct; rw [if_pos hf]; rfl))
 have HE6 := Px.hid (fun hf : ¬ x.fmt = 5 => (show struct x aad = M3 by rw [hM3, hM2, hM1, hB1, hB2, hB3]; unfold struct; rw [if_neg hf]; rfl))
 clear hB1 hB2 hB3 lb1 lb2 lb3 hE1 lE1 hE2 lE2 hM1 lM1 hM2 lM2 hM3 lM3
 obtain ⟨s, hs⟩ : ∃ s, s = struct x aad := ⟨_, rfl⟩
 rw [← hs] at HE5 HE6 ⊢
 clear hs
 have h0 : Blk (w.alloc (.cells #[.int .i64 x.fmt, .int .i64 x.alg, .slice ta x.to.length tc, S x.header, S x.loose, S x.aad, S x.iv, S x.cipher, S x.tag] 27)) w.heap.size #[.int .i64 x.fmt, .int .i64 x.alg, .slice ta x.to.length tc, S x.header, S x.loose, S x.aad, S x.iv, S x.cipher, S x.tag] 27 := blk_new w _ _
 have hs0 : Same w (w.alloc (.cells #[.int .i64 x.fmt, .int .i64 x.alg, .slice ta x.to.length tc, S x.header, S x.loose, S x.aad, S x.iv, S x.cipher, S x.tag] 27)) := Fr.alloc (Fr.refl _ w) _
 unfold envC
 go_enter Tryd.func20, Tryd.ntmps20
 go_upto_region 1 with fail
 generalize (w.alloc (.cells #[.int .i64 x.fmt, .int .i64 x.alg, .slice ta x.to.length tc, S x.header, S x.loose, S x.aad, S x.iv, S x.cipher, S x.tag] 27)) = w1 at h0 hs0 ⊢
 have HX := Px.hid h0
 have HS := Px.hid hs0
 obtain ⟨c0, c1, c2, c3, c4, c5, c6, c7, c8, _⟩ := blk9 h0
 have hwl := h0.lt
 clear h0 hs0
 by_cases h5 : x.fmt = 5
 ·have h5z : (x.fmt == 5) = true := by simpa using h5
  have HE := Px.hid (HE5.out h5)
  clear h5 HE5 HE6
  go_wp2_with fail
  refine (HB1.out _).mono ?_
  rintro e w2 ⟨rfl, hs⟩
  replace HS := Px.hid (HS.out.trans hs)
  clear hs
  go_wp2_with fail
  refine (HB2.out _).mono ?_
  rintro e w3 ⟨rfl, hs⟩
  replace HS := Px.hid (HS.out.trans hs)
  clear hs
  go_wp2
  go_ret
  exact ⟨by rw [HE.out]; rfl, HS.out⟩
 ·have h5z : (x.fmt == 5) = false := by simpa using h5
  have h5y : ¬ x.fmt = 5 := h5
  have HE := Px.hid (HE6.out h5)
  clear h5 HE5 HE6
  go_upto_region 3 with fail
  obtain ⟨SS, hSS⟩ : ∃ SS : World → Prop, SS = (fun W : World => W.cell? ⟨w.heap.size, 3, none⟩ = some (S x.header) ∧ W.cell? ⟨w.heap.size, 7, none⟩ = some (S x.cipher)) := ⟨_, rfl⟩
  have hS0 : SS w1.drew := by rw [hSS]; exact ⟨c3, c7⟩
  refine wp_region_held_drew (S := SS) (by kernel_rfl) hS0 (fun hHeld => ?_)
  refine wpAnyH_take (i := 0) (v := ?_) rfl (by kernel_rfl) (by kernel_rfl) (by kernel_rfl) (fun _ _ _ h => h) (Or.inl ⟨by rfl, ?_⟩) (by assumption) ?_
  rotate_left
  ·intro w hw
   rw [hSS] at hw
   obtain ⟨q3, q7⟩ := hw
   go_simp
   try (with_reducible rfl)
  change wpAnyH _ _ _ _ _ _ _ (Act.put _ (some 15) _) _
  simp only [Act.put, List.setIfInBounds_toArray, List.set_cons_zero, List.set_cons_succ]
  refine wpAnyH_take (i := 1) (v := ?_) rfl (by kernel_rfl) (by kernel_rfl) (by kernel_rfl) (fun _ _ _ h => h) (Or.inl ⟨by rfl, ?_⟩) (by assumption) ?_
  rotate_left
  ·intro w hw
   rw [hSS] at hw
   obtain ⟨q3, q7⟩ := hw
   go_simp
   try (with_reducible rfl)
  change wpAnyH _ _ _ _ _ _ _ (Act.put _ (some 16) _) _
  simp only [Act.put, List.setIfInBounds_toArray, List.set_cons_zero, List.set_cons_succ]
  refine wpAnyH_take (i := 4) (v := ?_) rfl (by kernel_rfl) (by kernel_rfl) (by kernel_rfl) (fun _ _ _ h => h) (Or.inl ⟨by rfl, ?_⟩) (by assumption) ?_
  rotate_left
  ·intro w hw
   rw [hSS] at hw
   obtain ⟨q3, q7⟩ := hw
   go_simp
   try (with_reducible rfl)
  change wpAnyH _ _ _ _ _ _ _ (Act.put _ (some 19) _) _
  simp only [Act.put, List.setIfInBounds_toArray, List.set_cons_zero, List.set_cons_succ]
  refine wpAnyH_take (i := 7) (v := ?_) rfl (by kernel_rfl) (by kernel_rfl) (by kernel_rfl) (fun _ _ _ h => h) (Or.inl ⟨by rfl, ?_⟩) (by assumption) ?_
  rotate_left
  ·intro w hw
   rw [hSS] at hw
   obtain ⟨q3, q7⟩ := hw
   go_simp
   try (with_reducible rfl)
  change wpAnyH _ _ _ _ _ _ _ (Act.put _ (some 22) _) _
  simp only [Act.put, List.setIfInBounds_toArray, List.set_cons_zero, List.set_cons_succ]
  refine wpAnyH_take (i := 8) (v := ?_) rfl (by kernel_rfl) (by kernel_rfl) (by kernel_rfl) (fun _ _ _ h => h) (Or.inl ⟨by rfl, ?_⟩) (by assumption) ?_
  rotate_left
  ·intro w hw
   rw [hSS] at hw
   obtain ⟨q3, q7⟩ := hw
   go_simp
   try (with_reducible rfl)
  change wpAnyH _ _ _ _ _ _ _ (Act.put _ (some 23) _) _
  simp only [Act.put, List.setIfInBounds_toArray, List.set_cons_zero, List.set_cons_succ]
  refine wpAnyH_ready (rs := [2]) (by kernel_rfl) (by simp) ?_
  refine AllReadyH.cons rfl (fun K hK => ?_) AllReadyH.nil
  go_simp
  refine (HB1.out _).mono ?_
  rintro e wa ⟨rfl, ha⟩
  refine Shut.out hK _ _ ?_ (fun hHeld => ?_)
  ·rw [hSS]
   have hh := hHeld
   rw [hSS] at hh
   exact ⟨(ha.cell (p := ⟨w.heap.size, 3, none⟩) (World.block_lt_of_cell? _ _ hh.1) (fun x => x)).trans hh.1, (ha.cell (p := ⟨w.heap.size, 7, none⟩) (World.block_lt_of_cell? _ _ hh.2) (fun x => x)).trans hh.2⟩
  clear hK K
  refine wpAnyH_take (i := 3) (v := ?_) rfl (by kernel_rfl) (by kernel_rfl) (by kernel_rfl) (fun _ _ _ h => h) (Or.inl ⟨by rfl, ?_⟩) (by assumption) ?_
  rotate_left
  ·intro w hw
   rw [hSS] at hw
   obtain ⟨q3, q7⟩ := hw
   go_simp
   try (with_reducible rfl)
  change wpAnyH _ _ _ _ _ _ _ (Act.put _ (some 18) _) _
  simp only [Act.put, List.setIfInBounds_toArray, List.set_cons_zero, List.set_cons_succ]
  refine wpAnyH_ready (rs := [5]) (by kernel_rfl) (by simp) ?_
  refine AllReadyH.cons rfl (fun K hK => ?_) AllReadyH.nil
  go_simp
  refine (HB2.out _).mono ?_
  rintro e wb ⟨rfl, hb⟩
  refine Shut.out hK _ _ ?_ (fun hHeld => ?_)
  ·rw [hSS]
   have hh := hHeld
   rw [hSS] at hh
   exact ⟨(hb.cell (p := ⟨w.heap.size, 3, none⟩) (World.block_lt_of_cell? _ _ hh.1) (fun x => x)).trans hh.1, (hb.cell (p := ⟨w.heap.size, 7, none⟩) (World.block_lt_of_cell? _ _ hh.2) (fun x => x)).trans hh.2⟩
  clear hK K
  refine wpAnyH_take (i := 6) (v := ?_) rfl (by kernel_rfl) (by kernel_rfl) (by kernel_rfl) (fun _ _ _ h => h) (Or.inl ⟨by rfl, ?_⟩) (by assumption) ?_
  rotate_left
  ·intro w hw
   rw [hSS] at hw
   obtain ⟨q3, q7⟩ := hw
   go_simp
   try (with_reducible rfl)
  change wpAnyH _ _ _ _ _ _ _ (Act.put _ (some 21) _) _
  simp only [Act.put, List.setIfInBounds_toArray, List.set_cons_zero, List.set_cons_succ]
  refine wpAnyH_ready (rs := [9]) (by kernel_rfl) (by simp) ?_
  refine AllReadyH.cons rfl (fun K hK => ?_) AllReadyH.nil
  go_simp
  refine (HB3.out _).mono ?_
  rintro e wd ⟨rfl, hd⟩
  refine Shut.out hK _ _ ?_ (fun hHeld => ?_)
  ·rw [hSS]
   have hh := hHeld
   rw [hSS] at hh
   exact ⟨(hd.cell (p := ⟨w.heap.size, 3, none⟩) (World.block_lt_of_cell? _ _ hh.1) (fun x => x)).trans hh.1, (hd.cell (p := ⟨w.heap.size, 7, none⟩) (World.block_lt_of_cell? _ _ hh.2) (fun x => x)).trans hh.2⟩
  clear hK K
  refine wpAnyH_take (i := 10) (v := ?_) rfl (by kernel_rfl) (by kernel_rfl) (by kernel_rfl) (fun _ _ _ h => h) (Or.inl ⟨by rfl, ?_⟩) (by assumption) ?_
  rotate_left
  ·intro w hw
   rw [hSS] at hw
   obtain ⟨q3, q7⟩ := hw
   go_simp
   try (with_reducible rfl)
  change wpAnyH _ _ _ _ _ _ _ (Act.put _ (some 25) _) _
  simp only [Act.put, List.setIfInBounds_toArray, List.set_cons_zero, List.set_cons_succ]
  refine wpAnyH_ready (rs := [11]) (by kernel_rfl) (by simp) ?_
  refine AllReadyH.cons rfl (fun K hK => ?_) AllReadyH.nil
  go_simp
  refine Shut.out hK _ _ ?_ (fun hHeld => ?_)
  ·rw [hSS]
   rw [hSS] at hHeld
   exact hHeld
  clear hK K
  refine wpAnyH_done (by kernel_rfl) ?_ _
  go_wp2
  go_ret
  exact ⟨by rw [HE.out]; rfl, HS.out.trans (Same.trans (Fr.drew (Fr.refl _ w1)) (ha.trans (hb.trans hd)))⟩
end Go.Proofs.YtddiabaagpmkgaaDoor

/-! The walk over the statement CoseStructures (layer 25). -/
namespace Go.Proofs.YtddiabaagpmkgaaDoor
open Go.RowKit Go.Px Go.Px.E7 Go.Px.Co
set_option maxRecDepth 100000 in
set_option maxHeartbeats 8000000 in
theorem law_CoseStructures (x : Env) (vto : Value) (aad other : Bytes) (w : World) (hto : Lies w 9 cRec vto x.to) (hl : x.to.length * 112 ≤ 140737488351232) (_htx : x.header.length ≤ 140737488351232 ∧ x.loose.length ≤ 140737488351232 ∧ x.aad.length ≤ 140737488351232 ∧ x.iv.length ≤ 140737488351232 ∧ x.cipher.length ≤ 140737488351232 ∧ x.tag.length ≤ 140737488351232) (_ha : aad.length ≤ 140737488351232) (_ho : other.length ≤ 140737488351232) (hT : Tabs w) :
  Calls Tryd.prog 8 #[.agg (envC x vto), S aad, S other] w fun e w' => e = .returned (.bool true) ∧ Below w.heap.size w w' := by
 have HT := Px.hid hT
 have HL := Px.hid hl
 have HTO := Px.hid hto
 obtain ⟨ta, tc, rfl, _, _⟩ := hto.slice
 clear hT hl hto _htx _ha _ho
 have HX := Px.hid (show Blk (w.alloc (.cells #[.int .i64 x.fmt, .int .i64 x.alg, .slice ta x.to.length tc, S x.header, S x.loose, S x.aad, S x.iv, S x.cipher, S x.tag] 27)) w.heap.size #[.int .i64 x.fmt, .int .i64 x.alg, .slice ta x.to.length tc, S x.header, S x.loose, S x.aad, S x.iv, S x.cipher, S x.tag] 27 from blk_new w _ _)
 unfold envC
 go_enter Tryd.func8, Tryd.ntmps8
 go_wp2_with fail
 refine (wakes_any _ (HT.out.same (Fr.alloc (Fr.refl _ w) _))).mono ?_
 rintro e w1 ⟨rfl, hs⟩
 replace HX := Px.hid (HX.out.fr hs (fun x => x))
 have HS := Px.hid (show Same w w1 from Same.trans (Fr.alloc (Fr.refl _ w) _) hs)
 clear hs
 obtain ⟨c0, c1, c2, c3, c4, c5, c6, c7, c8, _⟩ := blk9 HX.out
 by_cases h1 : aad.length ≤ 1048576
 ·have z1 : ¬ (1048576 : Int) < (aad.length : Int) := by omega
  by_cases h2 : other.length ≤ 1048576
  ·have z2 : ¬ (1048576 : Int) < (other.length : Int) := by omega
   by_cases h3 : x.header.length ≤ 1048576
   ·have z3 : ¬ (1048576 : Int) < (x.header.length : Int) := by omega
    by_cases h4 : x.cipher.length ≤ 1048576
    ·have z4 : ¬ (1048576 : Int) < (x.cipher.length : Int) := by omega
     have HLL := Px.hid (And.intro h1 (And.intro h2 (And.intro h3 h4)))
     have HC := Px.hid (fun W (hW : Same w W) => copied_any x (.slice ta x.to.length tc) W (Lies.same HTO.out hW) HL.out)
     unfold envC at HC
     clear h1 h2 h3 h4
     go_wp2_with fail
     refine (HC.out _ HS.out).mono ?_
     rintro e w2 ⟨a, c, rfl, ho, hs⟩
     replace HX := Px.hid (HX.out.fr hs (fun x => x))
     replace HS := Px.hid (HS.out.trans hs)
     have HP := Px.hid (cstruct_any x (.slice a x.to.length c) aad w2 ⟨_, _, rfl⟩ HLL.out.2.2.1 HLL.out.2.2.2 HLL.out.1 (HT.out.same HS.out))
     clear ho hs c0 c1 c2 c3 c4 c5 c6 c7 c8
     unfold envC at HP
     obtain ⟨st, hst⟩ : ∃ st, st = struct x aad := ⟨_, rfl⟩
     rw [← hst] at HP
     go_wp2_with fail
     refine HP.out.mono ?_
     rintro e w3 ⟨rfl, hs⟩
     replace HX := Px.hid (HX.out.fr hs (fun x => x))
     replace HS := Px.hid (HS.out.trans hs)
     have HR := Px.hid (rstruct_any x (.slice ta x.to.length tc) aad w3 ⟨_, _, rfl⟩ HLL.out.2.2.1 HLL.out.2.2.2 HLL.out.1)
     unfold envC at HR
     rw [← hst] at HR
     clear hs HP
     obtain ⟨c0, c1, c2, c3, c4, c5, c6, c7, c8, _⟩ := blk9 HX.out
     have HST := Px.hid hst
     clear hst
     go_wp2_with fail
     refine HR.out.mono ?_
     rintro e w4 ⟨rfl, hs⟩
     replace HX := Px.hid (HX.out.fr hs (fun x => x))
     replace HS := Px.hid (HS.out.trans hs)
     clear hs HR c0 c1 c2 c3 c4 c5 c6 c7 c8
     obtain ⟨c0, c1, c2, c3, c4, c5, c6, c7, c8, _⟩ := blk9 HX.out
     go_wp2_with fail
     refine (HC.out _ HS.out).mono ?_
     rintro e w5 ⟨a2, cc2, rfl, ho, hs⟩
     replace HS := Px.hid (HS.out.trans hs)
     have HP := Px.hid (cstruct_any x (.slice a2 x.to.length cc2) other w5 ⟨_, _, rfl⟩ HLL.out.2.2.1 HLL.out.2.2.2 HLL.out.2.1 (HT.out.same HS.out))
     clear ho hs c0 c1 c2 c3 c4 c5 c6 c7 c8
     unfold envC at HP
     obtain ⟨st2, hst2⟩ : ∃ st2, st2 = struct x other := ⟨_, rfl⟩
     rw [← hst2] at HP
     have HB := Px.hid (show ((st == st2) == (aad == other)) = true by
      rw [hst2, HST.out]
      by_cases hao : aad = other
      ·rw [hao, beq_self_eq_true, beq_self_eq_true]; rfl
      ·rw [beq_eq_false_iff_ne.2 hao, beq_eq_false_iff_ne.2 (fun h => hao (struct_inj h))]; rfl)
     clear hst2
     go_wp2_with fail
     refine HP.out.mono ?_
     rintro e w6 ⟨rfl, hs⟩
     replace HS := Px.hid (HS.out.trans hs)
     clear hs
     go_wp2
     go_ret
     exact ⟨congrArg (fun b => Ending.returned (Value.bool b)) HB.out, HS.out.toBelow _ (fun _ h => h.elim) (Nat.le_refl _)⟩
    ·have z4 : (1048576 : Int) < (x.cipher.length : Int) := by omega
     go_wp2
     go_ret
     exact ⟨rfl, HS.out.toBelow _ (fun _ h => h.elim) (Nat.le_refl _)⟩
   ·have z3 : (1048576 : Int) < (x.header.length : Int) := by omega
    go_wp2
    go_ret
    exact ⟨rfl, HS.out.toBelow _ (fun _ h => h.elim) (Nat.le_refl _)⟩
  ·have z2 : (1048576 : Int) < (other.length : Int) := by omega
   go_wp2
   go_ret
   exact ⟨rfl, HS.out.toBelow _ (fun _ h => h.elim) (Nat.le_refl _)⟩
 ·have z1 : (1048576 : Int) < (aad.length : Int) := by omega
  go_wp2
  go_ret
  exact ⟨rfl, HS.out.toBelow _ (fun _ h => h.elim) (Nat.le_refl _)⟩
end Go.Proofs.YtddiabaagpmkgaaDoor
