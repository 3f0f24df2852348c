/-
 Several texts in one: The walks over the reference's table of suites, and row. The walks over the reference's row, find and both (layer 25). The walks over the reference's find and both (layer 25). The walk over the reference's both (layer 25). The walk over the reference's labels (layer 25). The walks over the reference's Bytes and item (layer 25).
-/
import Derived.Test.YtddiabaagpmkgaaDoorCD
import Derived.Test.YtddiabaagpmkgaaDoorCA
import Derived.Test.YtddiabaagpmkgaaDoorCF
import Derived.Test.YtddiabaagpmkgaaDoorCB
import Derived.Test.YtddiabaagpmkgaaDoorCG
import Derived.Test.YtddiabaagpmkgaaDoorCI
/-! The walks over the reference's table of suites, and row. -/
namespace Go.Px.Co
def rrow (mac : Bool) (n : Nat) : Option Row :=
 if 50 < n then none
 else if mac then rowOf ((n : Int) + 100)
 else match rowOf n with
  | none => none
  | some r => if r.iv = 16 then none else some r
def pickS (mac : Bool) : Option Row → Option Row
 | none => none
 | some r => if (r.iv = 0) = (mac = true) then some r else none
theorem row_rrow (mac : Bool) (n : Nat) : row mac n = pickS mac (rrow mac n) := by
 unfold row rrow
 by_cases h : 50 < n
 ·rw [if_pos h, if_pos h]
  rfl
 ·rw [if_neg h, if_neg h]
  cases mac with
  | true =>
   rw [if_pos rfl, if_pos rfl]
   cases rowOf ((n : Int) + 100) with
   | none => rfl
   | some r =>
    show (if r.iv = 16 then none else _) = _
    by_cases h6 : r.iv = 16
    ·rw [if_pos h6]
     unfold pickS
     simp [h6]
    ·rw [if_neg h6]
     rfl
  | false =>
   rw [if_neg (by decide), if_neg (by decide)]
   cases rowOf (n : Int) with
   | none => rfl
   | some r =>
    show (if r.iv = 16 then none else _) = pickS false (if r.iv = 16 then none else some r)
    by_cases h6 : r.iv = 16
    ·rw [if_pos h6, if_pos h6]
     rfl
    ·rw [if_neg h6, if_neg h6]
     rfl
end Go.Px.Co
namespace Go.Proofs.YtddiabaagpmkgaaDoor
open Go.RowKit Go.Px Go.Px.E7 Go.Px.Co
def cRow (r : Row) : List Value := [.int .i64 r.alg, .int .i64 (r.key : Nat), .int .i64 (r.iv : Nat), .int .i64 (r.tag : Nat), .int .i64 (r.layer : Nat)]
theorem cRow_len (r : Row) : (cRow r).length = 5 := rfl
def zr : Row := ⟨0, 0, 0, 0, 0⟩
def rrowV (o : Option Row) : Value := .agg #[.int .i64 (o.getD zr).alg, .int .i64 ((o.getD zr).key : Nat), .int .i64 ((o.getD zr).iv : Nat), .int .i64 ((o.getD zr).tag : Nat), .int .i64 ((o.getD zr).layer : Nat)]
set_option maxRecDepth 100000 in
set_option maxHeartbeats 4000000 in
theorem table_any (w : World) : Calls Tryd.prog 50 #[] w fun e w' => ∃ v, e = .returned v ∧ Owns w' 71 5 cRow v table ∧ Same w w' := by
 go_enter Tryd.func50, Tryd.ntmps50
 go_wp2
 go_ret
 refine ⟨_, rfl, ⟨by decide, .inr ⟨_, _, _, rfl, Nat.zero_le _, heap_alloc_new w _, Nat.le_refl _, by decide, rfl, rfl⟩⟩, (Fr.refl _ w).alloc _⟩
theorem rowOf_from (i : Nat) (n : Int) (hi : i < table.length) : (table.drop i).find? (fun r => r.alg == n) = if table[i].alg = n then some table[i] else (table.drop (i + 1)).find? (fun r => r.alg == n) := by
 rw [List.drop_eq_getElem_cons hi, List.find?_cons]
 by_cases h : table[i].alg = n
 ·rw [if_pos h, beq_iff_eq.2 h]
 ·rw [if_neg h, beq_eq_false_iff_ne.2 h]
set_option maxRecDepth 100000 in
set_option maxHeartbeats 4000000 in
theorem refOf_any (n : Int) (w : World) : Calls Tryd.prog 32 #[.int .i64 n] w fun e w' => e = .returned (rrowV (rowOf n)) ∧ Same w w' := by
 go_enter Tryd.func32, Tryd.ntmps32
 go_wp2_with fail
 refine (table_any _).mono ?_
 rintro e w1 ⟨v, rfl, ho, hs⟩
 obtain ⟨a, cap, rfl, hc1, hc2, _⟩ := ho.len
 have hb : w1.heap[w.heap.size]? = some (.cells #[.int .i64 0, .int .i64 0, .int .i64 0, .int .i64 0, .int .i64 0] 71 (0, 0)) := (hs.block _ (by simp) (fun x => x)).trans (heap_alloc_new w _)
 have H := Px.hid (And.intro ho (And.intro (Fr.trans (Fr.alloc (Fr.refl _ w) _) hs (fun _ _ x => x) : Same w w1) hb))
 have c0 : w1.cell? ⟨w.heap.size, 0, none⟩ = some (.int .i64 0) := cellOf hb 0 rfl
 have c1 : w1.cell? ⟨w.heap.size, 1, none⟩ = some (.int .i64 0) := cellOf hb 1 rfl
 have c2 : w1.cell? ⟨w.heap.size, 2, none⟩ = some (.int .i64 0) := cellOf hb 2 rfl
 have c3 : w1.cell? ⟨w.heap.size, 3, none⟩ = some (.int .i64 0) := cellOf hb 3 rfl
 have c4 : w1.cell? ⟨w.heap.size, 4, none⟩ = some (.int .i64 0) := cellOf hb 4 rfl
 have f0 := freeOf hb 0
 have f1 := freeOf hb 1
 have f2 := freeOf hb 2
 have f3 := freeOf hb 3
 have f4 := freeOf hb 4
 have ht : table.length = 22 := rfl
 rw [ht] at hc1
 unfold maxLen at hc2
 clear ho hs hb
 rw [ht]
 go_wp2
 go_loopg [4] 23 (fun gk t4 wr => ∃ i : Nat, gk + i = 23 ∧ i ≤ 22 ∧ t4 = .int .i64 i ∧ wr = w1 ∧ Hid (rowOf n = (table.drop i).find? (fun r => r.alg == n)))
 case atStart => exact ⟨0, rfl, Nat.zero_le _, rfl, rfl, Px.hid rfl⟩
 case round =>
  obtain ⟨i, hgk, hi, rfl, rfl, HS⟩ := hrel
  have HGK := Px.hid hgk
  clear hgk
  by_cases hlt : i < 22
  ·have hltz : (i : Int) < 22 := by omega
   obtain ⟨g, cap', hv, _, _, hcx, _⟩ := H.out.1.at cRow_len (j := i) (a := table[i]'(by rw [ht]; exact hlt)) (by simp)
   simp only [Value.slice.injEq, true_and] at hv
   obtain ⟨rfl, rfl⟩ := hv
   have x0 := hcx 0 _ rfl
   have x1 := hcx 1 _ rfl
   have x2 := hcx 2 _ rfl
   have x3 := hcx 3 _ rfl
   have x4 := hcx 4 _ rfl
   rw [Nat.add_zero] at x0
   have hst := rowOf_from i n (by rw [ht]; exact hlt)
   obtain ⟨x, hx⟩ : ∃ x, x = table[i]'(by rw [ht]; exact hlt) := ⟨_, rfl⟩
   rw [← hx] at x0 x1 x2 x3 x4 hst
   have HST := Px.hid hst
   clear hcx hx hst
   by_cases he : x.alg = n
   ·have HE := Px.hid (show rowOf n = some x by rw [HS.out, HST.out, if_pos he])
    rw [he] at x0
    have HA := Px.hid he
    clear he
    go_wp2
    rw [HE.out]
    refine bodyPost_ret (v := rrowV (some x)) (by simp [results, Tryd.results32, go_sem, rrowV, HA.out, *]) rfl ⟨rfl, ?_⟩
    repeat' first
     | exact H.out.2.1
     | refine Fr.setCell ?_ (.inr (by simp)) _
   ·have HE := Px.hid (show rowOf n = (table.drop (i + 1)).find? (fun r => r.alg == n) by rw [HS.out, HST.out, if_neg he])
    go_wp2
    go_roundg (22 - i)
    case measure => have := HGK.out; omega
    case rel => exact ⟨i + 1, by omega, by omega, by go_num, rfl, HE⟩
  ·have hltz : ¬ (i : Int) < 22 := by omega
   have h22 : i = 22 := by omega
   have HE := Px.hid (show rowOf n = none by rw [HS.out, h22]; rfl)
   clear h22
   go_wp2
   rw [HE.out]
   refine bodyPost_ret (v := rrowV none) (by simp [results, Tryd.results32, go_sem, rrowV, zr, *]) rfl ⟨rfl, ?_⟩
   repeat' first
    | exact H.out.2.1
    | refine Fr.setCell ?_ (.inr (by simp)) _
end Go.Proofs.YtddiabaagpmkgaaDoor

/-! The walks over the reference's row, find and both (layer 25). -/
namespace Go.Px.Co
def findA (h : Hdr) (a : Atom) : Option Atom := (h.find? fun p => p.1 == a).map Prod.snd
theorem findA_step (h : Hdr) (i : Nat) (a : Atom) (hi : i < h.length) : findA (h.drop i) a = if (h[i].1 == a) = true then some h[i].2 else findA (h.drop (i + 1)) a := by
 unfold findA
 rw [List.drop_eq_getElem_cons hi, List.find?_cons]
 cases (h[i].1 == a) <;> rfl
theorem findA_app (a b : Hdr) (x : Atom) : findA (a ++ b) x = (findA a x).or (findA b x) := by
 unfold findA
 rw [List.find?_append]
 cases a.find? (fun p => p.1 == x) <;> rfl
end Go.Px.Co
namespace Go.Proofs.YtddiabaagpmkgaaDoor
open Go.RowKit Go.Px Go.Px.E7 Go.Px.Co
set_option maxRecDepth 100000 in
set_option maxHeartbeats 4000000 in
theorem rrow_any (mac : Bool) (n : Nat) (w : World) (hn : n < 18446744073709551616) : Calls Tryd.prog 67 #[.int .i64 (fmtOf mac), .int .u64 n] w fun e w' => e = .returned (rrowV (rrow mac n)) ∧ Same w w' := by
 by_cases h5 : 50 < n
 ·have hz : (50 : Int) < (n : Int) := by omega
  have HR := Px.hid (show rrow mac n = none by unfold rrow; rw [if_pos h5])
  clear h5
  go_enter Tryd.func67, Tryd.ntmps67
  go_wp2
  rw [HR.out]
  refine bodyPost_ret (v := rrowV none) (by simp [results, Tryd.results67, go_sem, rrowV, zr, *]) rfl ⟨rfl, ?_⟩
  repeat' first
   | refine Fr.setCell ?_ (.inr (by simp)) _
   | refine Fr.alloc ?_ _
   | exact Fr.refl _ _
 ·have hz : ¬ (50 : Int) < (n : Int) := by omega
  have hz2 : (n : Int) ≤ 50 := by omega
  cases mac with
  | true =>
   have HR := Px.hid (show rrow true n = rowOf ((n : Int) + 100) by unfold rrow; rw [if_neg h5, if_pos rfl])
   rw [show fmtOf true = 6 from rfl]
   clear h5 hn
   go_enter Tryd.func67, Tryd.ntmps67
   go_wp2_with fail
   refine (refOf_any _ _).mono ?_
   rintro e w1 ⟨rfl, hs⟩
   have HS := Px.hid (show Same w w1 from Fr.trans (Fr.alloc (Fr.refl _ w) _) hs (fun _ _ x => x))
   have hb : w1.heap[w.heap.size]? = some (.cells #[.int .i64 0, .int .i64 0, .int .i64 0, .int .i64 0, .int .i64 0] 71 (0, 0)) := (hs.block _ (by simp) (fun x => x)).trans (heap_alloc_new w _)
   have c0 : w1.cell? ⟨w.heap.size, 0, none⟩ = some (.int .i64 0) := cellOf hb 0 rfl
   have c1 : w1.cell? ⟨w.heap.size, 1, none⟩ = some (.int .i64 0) := cellOf hb 1 rfl
   have c2 : w1.cell? ⟨w.heap.size, 2, none⟩ = some (.int .i64 0) := cellOf hb 2 rfl
   have c3 : w1.cell? ⟨w.heap.size, 3, none⟩ = some (.int .i64 0) := cellOf hb 3 rfl
   have c4 : w1.cell? ⟨w.heap.size, 4, none⟩ = some (.int .i64 0) := cellOf hb 4 rfl
   have f0 := freeOf hb 0
   have f1 := freeOf hb 1
   have f2 := freeOf hb 2
   have f3 := freeOf hb 3
   have f4 := freeOf hb 4
   have hbl : w.heap.size < w1.heap.size := ltOf hb
   clear hs hb
   obtain ⟨o, ho⟩ : ∃ o, o = rowOf ((n : Int) + 100) := ⟨_, rfl⟩
   rw [← ho] at HR ⊢
   clear ho
   unfold rrowV
   go_wp2
   rw [HR.out]
   refine bodyPost_ret (v := rrowV o) (by simp [results, Tryd.results67, go_sem, rrowV, *]) rfl ⟨rfl, ?_⟩
   repeat' first
    | refine Fr.setCell ?_ (.inr (by dsimp only; omega)) _
    | refine Fr.alloc ?_ _
    | exact HS.out
  | false =>
   rw [show fmtOf false = 5 from rfl]
   have HR := Px.hid (show rrow false n = match rowOf (n : Int) with
    | none => none
    | some r => if r.iv = 16 then none else some r by unfold rrow; rw [if_neg h5, if_neg (by decide)]; try (cases rowOf (n : Int) <;> rfl))
   clear h5 hn
   go_enter Tryd.func67, Tryd.ntmps67
   go_wp2_with fail
   refine (refOf_any _ _).mono ?_
   rintro e w1 ⟨rfl, hs⟩
   have HS := Px.hid (show Same w w1 from Fr.trans (Fr.alloc (Fr.refl _ w) _) hs (fun _ _ x => x))
   have hb : w1.heap[w.heap.size]? = some (.cells #[.int .i64 0, .int .i64 0, .int .i64 0, .int .i64 0, .int .i64 0] 71 (0, 0)) := (hs.block _ (by simp) (fun x => x)).trans (heap_alloc_new w _)
   have c0 : w1.cell? ⟨w.heap.size, 0, none⟩ = some (.int .i64 0) := cellOf hb 0 rfl
   have c1 : w1.cell? ⟨w.heap.size, 1, none⟩ = some (.int .i64 0) := cellOf hb 1 rfl
   have c2 : w1.cell? ⟨w.heap.size, 2, none⟩ = some (.int .i64 0) := cellOf hb 2 rfl
   have c3 : w1.cell? ⟨w.heap.size, 3, none⟩ = some (.int .i64 0) := cellOf hb 3 rfl
   have c4 : w1.cell? ⟨w.heap.size, 4, none⟩ = some (.int .i64 0) := cellOf hb 4 rfl
   have f0 := freeOf hb 0
   have f1 := freeOf hb 1
   have f2 := freeOf hb 2
   have f3 := freeOf hb 3
   have f4 := freeOf hb 4
   have hbl : w.heap.size < w1.heap.size := ltOf hb
   clear hs hb
   obtain ⟨o, ho⟩ : ∃ o, o = rowOf (n : Int) := ⟨_, rfl⟩
   rw [← ho] at HR ⊢
   clear ho
   have HR2 : Hid (rrow false n = if (o.getD zr).iv = 16 then none else o) := Px.hid (by rw [HR.out]; cases o <;> rfl)
   clear HR
   obtain ⟨z, hz⟩ : ∃ z, z = o.getD zr := ⟨_, rfl⟩
   unfold rrowV
   rw [← hz] at HR2 ⊢
   have HZ := Px.hid hz
   clear hz
   by_cases h16 : z.iv = 16
   ·have hz16 : (z.iv : Int) = 16 := by omega
    have HE : Hid (rrow false n = none) := Px.hid (by rw [HR2.out, if_pos h16])
    clear h16
    go_wp2
    rw [HE.out]
    refine bodyPost_ret (v := rrowV none) (by simp [results, Tryd.results67, go_sem, rrowV, zr, *]) rfl ⟨rfl, ?_⟩
    repeat' first
     | refine Fr.setCell ?_ (.inr (by dsimp only; omega)) _
     | refine Fr.alloc ?_ _
     | exact HS.out
   ·have hz16 : ¬ (z.iv : Int) = 16 := by omega
    have HE : Hid (rrow false n = o) := Px.hid (by rw [HR2.out, if_neg h16])
    clear h16
    go_wp2
    rw [HE.out]
    refine bodyPost_ret (v := rrowV o) (by unfold rrowV; rw [← HZ.out]; simp [results, Tryd.results67, go_sem, *]) rfl ⟨rfl, ?_⟩
    repeat' first
     | refine Fr.setCell ?_ (.inr (by dsimp only; omega)) _
     | refine Fr.alloc ?_ _
     | exact HS.out
end Go.Proofs.YtddiabaagpmkgaaDoor

/-! The walks over the reference's find and both (layer 25). -/
namespace Go.Proofs.YtddiabaagpmkgaaDoor
open Go.RowKit Go.Px Go.Px.E7 Go.Px.Co
/-- A reference's header in memory: its labels and what they label. -/
structure RHdr (w : World) (vl vv : Value) (h : Hdr) : Prop where
 labels : Lies w 3 cAtom vl (h.map Prod.fst)
 values : Lies w 3 cAtom vv (h.map Prod.snd)
theorem RHdr.same {w w' : World} {vl vv : Value} {h : Hdr} (x : RHdr w vl vv h) (hs : Same w w') : RHdr w' vl vv h := ⟨Lies.same x.labels hs, Lies.same x.values hs⟩
theorem RHdr.lit {w : World} {vl vv : Value} {h : Hdr} (x : RHdr w vl vv h) : ∃ a c a2 c2, vl = .slice a h.length c ∧ vv = .slice a2 h.length c2 := by
 obtain ⟨a, c, h1, _⟩ := x.labels.slice
 obtain ⟨a2, c2, h2, _⟩ := x.values.slice
 rw [List.length_map] at h1 h2
 exact ⟨a, c, a2, c2, h1, h2⟩
theorem RHdr.at {w : World} {vl vv : Value} {h : Hdr} (x : RHdr w vl vv h) (i : Nat) (hi : i < h.length) :
  ∃ b o c b2 o2 c2, vl = .slice (some ⟨b, o, none⟩) h.length c ∧ vv = .slice (some ⟨b2, o2, none⟩) h.length c2 ∧
   (w.cell? ⟨b, o + i * 3, none⟩ = some (.int .i64 h[i].1.kind) ∧ w.cell? ⟨b, o + i * 3 + 1, none⟩ = some (.int .u64 (h[i].1.num : Nat)) ∧ w.cell? ⟨b, o + i * 3 + 2, none⟩ = some (S h[i].1.text)) ∧
   (w.cell? ⟨b2, o2 + i * 3, none⟩ = some (.int .i64 h[i].2.kind) ∧ w.cell? ⟨b2, o2 + i * 3 + 1, none⟩ = some (.int .u64 (h[i].2.num : Nat)) ∧ w.cell? ⟨b2, o2 + i * 3 + 2, none⟩ = some (S h[i].2.text)) := by
 obtain ⟨b, o, c, h1, _, k1⟩ := x.labels.cell i h[i].1 (by simp [hi])
 obtain ⟨b2, o2, c2, h2, _, k2⟩ := x.values.cell i h[i].2 (by simp [hi])
 rw [List.length_map] at h1 h2
 exact ⟨b, o, c, b2, o2, c2, h1, h2, ⟨k1 0 _ rfl, k1 1 _ rfl, k1 2 _ rfl⟩, ⟨k2 0 _ rfl, k2 1 _ rfl, k2 2 _ rfl⟩⟩
theorem blk2 {w : World} {b : Nat} {T : TypeId} {a0 a1 : Value} (h : Blk w b #[a0, a1] T) : w.cell? ⟨b, 0, none⟩ = some a0 ∧ w.cell? ⟨b, 1, none⟩ = some a1 := ⟨h.cell 0 rfl, h.cell 1 rfl⟩
set_option maxRecDepth 100000 in
set_option maxHeartbeats 8000000 in
theorem rfind_any (vl vv : Value) (h : Hdr) (x : Atom) (w : World) (hv : RHdr w vl vv h) (hl : h.length ≤ 10000) :
  Calls Tryd.prog 65 #[.agg #[vl, vv], .agg #[.int .i64 x.kind, .int .u64 (x.num : Nat), S x.text]] w fun e w' => e = .returned (fndV (findA h x)) ∧ Same w w' := by
 obtain ⟨la, lc, va, vc, rfl, rfl⟩ := hv.lit
 have H := Px.hid hv
 clear hv
 go_enter Tryd.func65, Tryd.ntmps65
 obtain ⟨w1, hw1⟩ : ∃ w1 : World, w1 = ((w.alloc (.cells #[.slice la h.length lc, .slice va h.length vc] 96)).alloc (.cells #[.int .i64 x.kind, .int .u64 (x.num : Nat), S x.text] 62)).alloc (.cells #[.int .i64 0, .int .u64 0, S []] 62) := ⟨_, rfl⟩
 have hs1 : Same w w1 := by rw [hw1]; exact Fr.alloc (Fr.alloc (Fr.alloc (Fr.refl _ w) _) _) _
 have e1 : ∀ o : Obj, (w.alloc o).heap.size = w.heap.size + 1 := fun o => by simp
 have b2 : Blk w1 w.heap.size #[.slice la h.length lc, .slice va h.length vc] 96 := by rw [hw1]; exact Blk.alloc (Blk.alloc (blk_new w _ _) _) _
 have b3 : Blk w1 (w.heap.size + 1) #[.int .i64 x.kind, .int .u64 (x.num : Nat), S x.text] 62 := by
  have z := blk_new (w.alloc (.cells #[.slice la h.length lc, .slice va h.length vc] 96)) #[.int .i64 x.kind, .int .u64 (x.num : Nat), S x.text] 62
  rw [e1] at z
  rw [hw1]
  exact z.alloc _
 have b4 : Blk w1 (w.heap.size + 2) #[.int .i64 0, .int .u64 0, S []] 62 := by
  have z := blk_new ((w.alloc (.cells #[.slice la h.length lc, .slice va h.length vc] 96)).alloc (.cells #[.int .i64 x.kind, .int .u64 (x.num : Nat), S x.text] 62)) #[.int .i64 0, .int .u64 0, S []] 62
  have e2 : ((w.alloc (.cells #[.slice la h.length lc, .slice va h.length vc] 96)).alloc (.cells #[.int .i64 x.kind, .int .u64 (x.num : Nat), S x.text] 62)).heap.size = w.heap.size + 2 := by simp
  rw [e2] at z
  rw [hw1]
  exact z
 have HW := Px.hid (And.intro hs1 (And.intro b2 (And.intro b3 b4)))
 clear hs1 b2 b3 b4 e1
 go_wp2
 go_loopg [6] (h.length + 1) (fun gk t6 wr => ∃ i : Nat, gk + i = h.length + 1 ∧ i ≤ h.length ∧ t6 = .int .i64 i ∧ Hid (findA h x = findA (h.drop i) x ∧ Same w1 wr))
 case atStart => exact ⟨0, rfl, Nat.zero_le _, rfl, Px.hid ⟨rfl, by rw [hw1]; exact Same.refl _⟩⟩
 case round =>
  clear hw1
  obtain ⟨i, hgk, hi, rfl, HS⟩ := hrel
  have HGK := Px.hid hgk
  clear hgk
  have b2 := HW.out.2.1.fr HS.out.2 (fun x => x)
  have b3 := HW.out.2.2.1.fr HS.out.2 (fun x => x)
  have b4 := HW.out.2.2.2.fr HS.out.2 (fun x => x)
  obtain ⟨p0, p1⟩ := blk2 b2
  obtain ⟨k0, k1, k2, _⟩ := blk3 b3
  obtain ⟨r0, r1, r2, q0, q1, q2⟩ := blk3 b4
  have hl4 := b4.lt
  clear b2 b3 b4
  by_cases hlt : i < h.length
  ·have hltz : (i : Int) < (h.length : Int) := by omega
   obtain ⟨xb, xo, xc, yb, yo, yc, hve, hve2, ⟨x0, x1, x2⟩, ⟨y0, y1, y2⟩⟩ := RHdr.at (H.out.same (HW.out.1.trans HS.out.2)) i hlt
   simp only [Value.slice.injEq, true_and] at hve hve2
   obtain ⟨rfl, rfl⟩ := hve
   obtain ⟨rfl, rfl⟩ := hve2
   have hst := findA_step h i x hlt
   obtain ⟨a, ha⟩ : ∃ a, a = h[i].1 := ⟨_, rfl⟩
   obtain ⟨b, hb⟩ : ∃ b, b = h[i].2 := ⟨_, rfl⟩
   rw [← ha] at x0 x1 x2 hst
   rw [← hb] at y0 y1 y2 hst
   have heq := fun W => run_eql_atom a x W
   obtain ⟨r, hr⟩ : ∃ r, r = (a == x) := ⟨_, rfl⟩
   rw [← hr] at heq hst
   have HST := Px.hid hst
   clear ha hb hst hr
   cases r
   ·have HN := Px.hid (show findA h x = findA (h.drop (i + 1)) x by rw [HS.out.1, HST.out]; rfl)
    go_wp2_with fail
    go_quiet (fail)
    go_wp2
    go_roundg (h.length - i)
    case measure => have := HGK.out; omega
    case rel => exact ⟨i + 1, by omega, by omega, by go_num, Px.hid ⟨HN.out, Fr.drewN HS.out.2 _⟩⟩
   ·have HN := Px.hid (show findA h x = some b by rw [HS.out.1, HST.out]; rfl)
    go_wp2_with fail
    go_quiet (fail)
    go_wp2
    rw [HN.out]
    refine bodyPost_ret (v := fndV (some b)) (by simp [results, Tryd.results65, go_sem, fndV, *]) rfl ⟨rfl, ?_⟩
    repeat' first
     | refine Fr.setCell ?_ (.inr (by dsimp only; omega)) _
     | refine Fr.drewN ?_ _
     | exact HW.out.1.trans HS.out.2
  ·have hltz : ¬ (i : Int) < (h.length : Int) := by omega
   have HN := Px.hid (show findA h x = none by rw [HS.out.1, List.drop_of_length_le (by omega)]; rfl)
   go_wp2
   rw [HN.out]
   refine bodyPost_ret (v := fndV none) (by simp [results, Tryd.results65, go_sem, fndV, za, *]) rfl ⟨rfl, ?_⟩
   repeat' first
    | refine Fr.setCell ?_ (.inr (by dsimp only; omega)) _
    | exact HW.out.1.trans HS.out.2
end Go.Proofs.YtddiabaagpmkgaaDoor

/-! The walk over the reference's both (layer 25). -/
namespace Go.Proofs.YtddiabaagpmkgaaDoor
open Go.RowKit Go.Px Go.Px.E7 Go.Px.Co
set_option maxRecDepth 100000 in
set_option maxHeartbeats 8000000 in
theorem rboth_any (v1 v2 v3 v4 : Value) (a b : Hdr) (n : Nat) (w : World) (ha : RHdr w v1 v2 a) (hb : RHdr w v3 v4 b) (hl : a.length ≤ 10000) (hl2 : b.length ≤ 10000) :
  Calls Tryd.prog 66 #[.agg #[v1, v2], .agg #[v3, v4], .int .u64 n] w fun e w' => e = .returned (fndV (Co.find (a ++ b) n)) ∧ Same w w' := by
 have HF := Px.hid (show ∀ W, Same w W → Calls Tryd.prog 65 #[.agg #[v1, v2], .agg #[.int .i64 0, .int .u64 (n : Nat), S []]] W fun e w' => e = .returned (fndV (findA a ⟨0, n, []⟩)) ∧ Same W w' from fun W hW => rfind_any v1 v2 a ⟨0, n, []⟩ W (ha.same hW) hl)
 have HG := Px.hid (show ∀ W, Same w W → Calls Tryd.prog 65 #[.agg #[v3, v4], .agg #[.int .i64 0, .int .u64 (n : Nat), S []]] W fun e w' => e = .returned (fndV (findA b ⟨0, n, []⟩)) ∧ Same W w' from fun W hW => rfind_any v3 v4 b ⟨0, n, []⟩ W (hb.same hW) hl2)
 have HE := Px.hid (show Co.find (a ++ b) n = (findA a ⟨0, n, []⟩).or (findA b ⟨0, n, []⟩) from findA_app a b _)
 obtain ⟨la, lc, va, vc, rfl, rfl⟩ := ha.lit
 obtain ⟨lb, ld, vb, vd, rfl, rfl⟩ := hb.lit
 clear ha hb
 obtain ⟨f, hf⟩ : ∃ f, f = Co.find (a ++ b) n := ⟨_, rfl⟩
 rw [← hf] at HE ⊢
 clear hf
 go_enter Tryd.func66, Tryd.ntmps66
 obtain ⟨w1, hw1⟩ : ∃ w1 : World, w1 = ((w.alloc (.cells #[.slice la a.length lc, .slice va a.length vc] 96)).alloc (.cells #[.slice lb b.length ld, .slice vb b.length vd] 96)).alloc (.cells #[.int .i64 0, .int .u64 0, S []] 62) := ⟨_, rfl⟩
 have hs1 : Same w w1 := by rw [hw1]; exact Fr.alloc (Fr.alloc (Fr.alloc (Fr.refl _ w) _) _) _
 have e1 : ∀ o : Obj, (w.alloc o).heap.size = w.heap.size + 1 := fun o => by simp
 have b3 : Blk w1 (w.heap.size + 1) #[.slice lb b.length ld, .slice vb b.length vd] 96 := by
  have z := blk_new (w.alloc (.cells #[.slice la a.length lc, .slice va a.length vc] 96)) #[.slice lb b.length ld, .slice vb b.length vd] 96
  rw [e1] at z
  rw [hw1]
  exact z.alloc _
 have b4 : Blk w1 (w.heap.size + 2) #[.int .i64 0, .int .u64 0, S []] 62 := by
  have z := blk_new ((w.alloc (.cells #[.slice la a.length lc, .slice va a.length vc] 96)).alloc (.cells #[.slice lb b.length ld, .slice vb b.length vd] 96)) #[.int .i64 0, .int .u64 0, S []] 62
  have e2 : ((w.alloc (.cells #[.slice la a.length lc, .slice va a.length vc] 96)).alloc (.cells #[.slice lb b.length ld, .slice vb b.length vd] 96)).heap.size = w.heap.size + 2 := by simp
  rw [e2] at z
  rw [hw1]
  exact z
 have HW := Px.hid (And.intro hs1 (And.intro b3 b4))
 have HF1 := Px.hid (HF.out w1 hs1)
 rw [hw1] at HF1
 clear hs1 b3 b4 e1
 go_wp2_with fail
 refine HF1.out.mono ?_
 rintro e w2 ⟨rfl, hs⟩
 have HS2 : Hid (Same w1 w2) := Px.hid (by rw [hw1]; exact hs)
 clear hs hw1 HF1
 have b3 := HW.out.2.1.fr HS2.out (fun x => x)
 have b4 := HW.out.2.2.fr HS2.out (fun x => x)
 obtain ⟨p0, p1⟩ := blk2 b3
 obtain ⟨r0, r1, r2, q0, q1, q2⟩ := blk3 b4
 have hl4 := b4.lt
 have hl3 := b3.lt
 have HB := Px.hid b4
 clear b3 b4
 obtain ⟨o1, ho1⟩ : ∃ o, o = findA a ⟨0, n, []⟩ := ⟨_, rfl⟩
 rw [← ho1] at HE ⊢
 clear ho1
 cases o1 with
 | some y =>
  have HE2 : Hid (f = some y) := Px.hid HE.out
  rw [show fndV (some y) = .tuple #[.agg #[.int .i64 y.kind, .int .u64 (y.num : Nat), S y.text], .bool true] from rfl]
  clear HE
  go_wp2
  rw [HE2.out]
  refine bodyPost_ret (v := fndV (some y)) (by simp [results, Tryd.results66, go_sem, fndV, *]) rfl ⟨rfl, ?_⟩
  repeat' first
   | refine Fr.setCell ?_ (.inr (by dsimp only; omega)) _
   | refine Fr.alloc ?_ _
   | exact HW.out.1.trans HS2.out
 | none =>
  have HE2 : Hid (f = findA b ⟨0, n, []⟩) := Px.hid HE.out
  rw [show fndV none = .tuple #[.agg #[.int .i64 0, .int .u64 0, S []], .bool false] from rfl]
  clear HE
  go_wp2_with fail
  refine (HG.out _ (Fr.alloc (HW.out.1.trans HS2.out) _)).mono ?_
  rintro e w3 ⟨rfl, hs⟩
  rw [← HE2.out]
  have b8 : Blk w3 w2.heap.size #[.int .i64 0, .int .u64 0, S []] 62 := Blk.fr (blk_new w2 _ _) hs (fun x => x)
  have b4 := Blk.fr (Blk.alloc HB.out _) hs (fun x => x)
  have HS3 := Px.hid (show Same w w3 from Same.trans (Fr.alloc (HW.out.1.trans HS2.out) _) hs)
  clear hs p0 p1 r0 r1 r2 q0 q1 q2
  obtain ⟨r0, r1, r2, q0, q1, q2⟩ := blk3 b4
  obtain ⟨t0, t1, t2, u0, u1, u2⟩ := blk3 b8
  have hl5 := b4.lt
  have hl8 := b8.lt
  clear b4 b8 HE2
  obtain ⟨z, hz⟩ : ∃ z, z = f.getD za := ⟨_, rfl⟩
  rw [show fndV f = .tuple #[.agg #[.int .i64 (f.getD za).kind, .int .u64 ((f.getD za).num : Nat), S (f.getD za).text], .bool f.isSome] from rfl, ← hz]
  have HZ := Px.hid hz
  clear hz
  have hne : ¬ w2.heap.size = w.heap.size + 2 := by omega
  go_wp2
  refine bodyPost_ret (v := .tuple #[.agg #[.int .i64 z.kind, .int .u64 (z.num : Nat), S z.text], .bool f.isSome]) (by simp [results, Tryd.results66, go_sem, *]) rfl ⟨by rw [HZ.out]; rfl, ?_⟩
  repeat' first
   | refine Fr.setCell ?_ (.inr (by dsimp only; omega)) _
   | exact HS3.out
end Go.Proofs.YtddiabaagpmkgaaDoor

/-! The walk over the reference's labels (layer 25). -/
namespace Go.Px.Co
theorem findA_any (a : Hdr) (x : Atom) : (findA a x).isSome = a.any (fun q => q.1 == x) := by
 unfold findA
 rw [Option.isSome_map, List.isSome_find?]
end Go.Px.Co
namespace Go.Proofs.YtddiabaagpmkgaaDoor
open Go.RowKit Go.Px Go.Px.E7 Go.Px.Co
theorem rblk_new1 (w : World) (o : Obj) (cs : Array Value) (T : TypeId) : Blk ((w.alloc o).alloc (.cells cs T (0, 0))) (w.heap.size + 1) cs T := by
 have z := blk_new (w.alloc o) cs T
 have e : (w.alloc o).heap.size = w.heap.size + 1 := by simp
 rw [e] at z
 exact z
set_option maxRecDepth 100000 in
set_option maxHeartbeats 20000000 in
theorem rlabels_any (v1 v2 v3 v4 : Value) (a b : Hdr) (w : World) (ha : RHdr w v1 v2 a) (hb : RHdr w v3 v4 b) (hl : a.length ≤ 4096) (hl2 : b.length ≤ 4096) :
  Calls Tryd.prog 45 #[.agg #[v1, v2], .agg #[v3, v4]] w fun e w' => e = .returned (.int .i64 (Co.labels a b)) ∧ Same w w' := by
 have HB := Px.hid (show ∀ (n : Nat) (W : World), Same w W → Calls Tryd.prog 66 #[.agg #[v1, v2], .agg #[v3, v4], .int .u64 (n : Nat)] W fun e w' => e = .returned (.tuple #[.agg #[.int .i64 ((Co.find (a ++ b) n).getD za).kind, .int .u64 (((Co.find (a ++ b) n).getD za).num : Nat), S ((Co.find (a ++ b) n).getD za).text], .bool (Co.find (a ++ b) n).isSome]) ∧ Same W w' from fun n W hW => rboth_any v1 v2 v3 v4 a b n W (ha.same hW) (hb.same hW) (by omega) (by omega))
 have HFI := Px.hid (show ∀ (x : Atom) (W : World), Same w W → Calls Tryd.prog 65 #[.agg #[v1, v2], .agg #[.int .i64 x.kind, .int .u64 (x.num : Nat), S x.text]] W fun e w' => e = .returned (.tuple #[.agg #[.int .i64 ((findA a x).getD za).kind, .int .u64 (((findA a x).getD za).num : Nat), S ((findA a x).getD za).text], .bool (findA a x).isSome]) ∧ Same W w' from fun x W hW => rfind_any v1 v2 a x W (ha.same hW) (by omega))
 obtain ⟨la, lc, va, vc, rfl, rfl⟩ := ha.lit
 obtain ⟨lb, ld, vb, vd, rfl, rfl⟩ := hb.lit
 have H := Px.hid (And.intro ha hb)
 clear ha hb
 obtain ⟨fa, hfa⟩ : ∃ f, f = (fun p : Atom × Atom => !okL p.1) := ⟨_, rfl⟩
 obtain ⟨fb, hfb⟩ : ∃ f, f = (fun p : Atom × Atom => !okL p.1 || a.any (fun q => q.1 == p.1)) := ⟨_, rfl⟩
 have HL := Px.hid (show Co.labels a b = if a.any fa then 9 else if b.any fb then 9 else if (Co.find (a ++ b) 2).isSome || (Co.find (a ++ b) 6).isSome then 11 else 0 by rw [hfa, hfb]; rfl)
 have HF := Px.hid (And.intro hfa hfb)
 clear hfa hfb
 go_enter Tryd.func45, Tryd.ntmps45
 obtain ⟨w1, hw1⟩ : ∃ w1 : World, w1 = (w.alloc (.cells #[.slice la a.length lc, .slice va a.length vc] 96)).alloc (.cells #[.slice lb b.length ld, .slice vb b.length vd] 96) := ⟨_, rfl⟩
 have hs1 : Same w w1 := by rw [hw1]; exact Fr.alloc (Fr.alloc (Fr.refl _ w) _) _
 have b2 : Blk w1 w.heap.size #[.slice la a.length lc, .slice va a.length vc] 96 := by rw [hw1]; exact Blk.alloc (blk_new w _ _) _
 have b3 : Blk w1 (w.heap.size + 1) #[.slice lb b.length ld, .slice vb b.length vd] 96 := by rw [hw1]; exact rblk_new1 w _ _ _
 have HW := Px.hid (And.intro hs1 (And.intro b2 b3))
 clear hs1 b2 b3
 go_wp2
 go_loopg [5] (a.length + 1) (fun gk t5 wr => ∃ i : Nat, gk + i = a.length + 1 ∧ i ≤ a.length ∧ t5 = .int .i64 i ∧ Hid (a.any fa = (a.drop i).any fa ∧ Same w1 wr))
 case atStart => exact ⟨0, rfl, Nat.zero_le _, rfl, Px.hid ⟨rfl, by rw [hw1]; exact Same.refl _⟩⟩
 case round =>
  clear hw1
  obtain ⟨i, hgk, hi, rfl, HS⟩ := hrel
  have HGK := Px.hid hgk
  clear hgk
  obtain ⟨p0, p1⟩ := blk2 (HW.out.2.1.fr HS.out.2 (fun x => x))
  obtain ⟨p2, p3⟩ := blk2 (HW.out.2.2.fr HS.out.2 (fun x => x))
  by_cases hlt : i < a.length
  ·have hltz : (i : Int) < (a.length : Int) := by omega
   obtain ⟨xb, xo, xc, yb, yo, yc, hve, hve2, ⟨x0, x1, x2⟩, _⟩ := RHdr.at (H.out.1.same (HW.out.1.trans HS.out.2)) i hlt
   simp only [Value.slice.injEq, true_and] at hve hve2
   obtain ⟨rfl, rfl⟩ := hve
   obtain ⟨rfl, rfl⟩ := hve2
   have hst := any_drop fa a i hlt
   obtain ⟨p, hp⟩ : ∃ p, p = a[i] := ⟨_, rfl⟩
   rw [← hp] at x0 x1 x2 hst
   have HST := Px.hid hst
   clear hp hst
   rcases okL_ways p.1 with ⟨e1, e2⟩ | ⟨e1, e2⟩ | ⟨e1, e2⟩ | ⟨e1, e2, e3, e4⟩
   rotate_right
   ·have HN := Px.hid (show Co.labels a b = 9 by
     have e : fa p = true := by rw [HF.out.1]; show (!okL p.1) = true; rw [e1]; rfl
     rw [HL.out, HS.out.1, HST.out, e]
     rfl)
    have n0 : (p.1.kind != 0) = true := by simpa using e2
    have n1 : (p.1.kind != 1) = true := by simpa using e3
    have n3 : (p.1.kind != 3) = true := by simpa using e4
    clear e1 e2 e3 e4
    go_wp2
    go_ret
    rw [HN.out]
    exact ⟨rfl, HW.out.1.trans HS.out.2⟩
   all_goals
    have HN := Px.hid (show a.any fa = (a.drop (i + 1)).any fa by
     have e : fa p = false := by rw [HF.out.1]; show (!okL p.1) = false; rw [e1]; rfl
     rw [HS.out.1, HST.out, e]
     rfl)
    rw [e2] at x0
    clear e1 e2
    go_wp2
    go_roundg (a.length - i)
   all_goals first
    | (have := HGK.out; omega)
    | exact ⟨i + 1, by omega, by omega, by go_num, Px.hid ⟨HN.out, HS.out.2⟩⟩
  ·have hltz : ¬ (i : Int) < (a.length : Int) := by omega
   have HA := Px.hid (HS.out.1.trans (any_over fa a i hlt))
   have HW2 := Px.hid HS.out.2
   clear HS
   go_wp2
   go_loopg [7] (b.length + 1) (fun gk t7 wr => ∃ i : Nat, gk + i = b.length + 1 ∧ i ≤ b.length ∧ t7 = .int .i64 i ∧ Hid (b.any fb = (b.drop i).any fb ∧ Same w1 wr))
   case atStart => exact ⟨0, rfl, Nat.zero_le _, rfl, Px.hid ⟨rfl, HW2.out⟩⟩
   case round =>
    clear p0 p1 p2 p3
    obtain ⟨i, hgk, hi, rfl, HS⟩ := hrel
    have HGK := Px.hid hgk
    clear hgk
    obtain ⟨p0, p1⟩ := blk2 (HW.out.2.1.fr HS.out.2 (fun x => x))
    obtain ⟨p2, p3⟩ := blk2 (HW.out.2.2.fr HS.out.2 (fun x => x))
    have hwl3 := (HW.out.2.2.fr HS.out.2 (fun x => x)).lt
    have hwl2 := (HW.out.2.1.fr HS.out.2 (fun x => x)).lt
    by_cases hlt : i < b.length
    ·have hltz : (i : Int) < (b.length : Int) := by omega
     obtain ⟨xb, xo, xc, yb, yo, yc, hve, hve2, ⟨x0, x1, x2⟩, _⟩ := RHdr.at (H.out.2.same (HW.out.1.trans HS.out.2)) i hlt
     simp only [Value.slice.injEq, true_and] at hve hve2
     obtain ⟨rfl, rfl⟩ := hve
     obtain ⟨rfl, rfl⟩ := hve2
     have hst := any_drop fb b i hlt
     obtain ⟨p, hp⟩ : ∃ p, p = b[i] := ⟨_, rfl⟩
     rw [← hp] at x0 x1 x2 hst
     have HST := Px.hid hst
     clear hp hst
     have hxbl : xb < wr.heap.size := World.block_lt_of_cell? wr _ x0
     have HFP := Px.hid (HFI.out p.1)
     obtain ⟨o9, ho9⟩ : ∃ o, o = findA a p.1 := ⟨_, rfl⟩
     rw [← ho9] at HFP
     have HO9 := Px.hid (show o9.isSome = a.any (fun q => q.1 == p.1) by rw [ho9]; exact findA_any a p.1)
     clear ho9
     go_upto_region 11 with fail
     go_cut [10] (fun t10 wx => t10 = .bool o9.isSome ∧ Same w1 wx)
     case first =>
      go_region_with (go_at_call 65; refine (HFP.out _ (by repeat' first | refine Fr.alloc ?_ _ | refine Fr.drew ?_ | exact HW.out.1.trans HS.out.2)).mono ?_; rintro e wa ⟨rfl, hs⟩; have HS9 := Px.hid hs; try (have hz : Blk wa wr.heap.size #[.int .i64 0, .int .u64 0, S []] 62 := (by first | exact Blk.fr (blk_new wr.drew #[.int .i64 0, .int .u64 0, S []] 62) hs (fun x => x) | exact Blk.fr (Blk.drew (blk_new wr #[.int .i64 0, .int .u64 0, S []] 62)) hs (fun x => x)); obtain ⟨z0, z1, z2, y0, y1, y2⟩ := blk3 hz; have hzl := hz.lt; clear hz); clear hs)
      all_goals
       go_wp2_with fail
       go_meet
       refine ⟨rfl, ?_⟩
       refine Same.trans HS.out.2 ?_
       first
        | exact Fr.alloc (Same.trans (Fr.drew (Fr.refl _ wr)) HS9.out) _
        | exact Fr.setCell (Fr.setCell (Fr.setCell (Same.trans (Fr.alloc (Fr.drew (Fr.refl _ wr)) _) HS9.out) (.inr (Nat.le_refl _)) _) (.inr (Nat.le_refl _)) _) (.inr (Nat.le_refl _)) _
     case rest =>
      obtain ⟨rfl, hs⟩ := hcut
      have HS9 := Px.hid hs
      clear hs x0 x1 x2 p0 p1 p2 p3
      obtain ⟨r9, hr9⟩ : ∃ r9, r9 = o9.isSome := ⟨_, rfl⟩
      rw [← hr9] at HO9 ⊢
      clear hr9
      rcases okL_ways p.1 with ⟨e1, e2⟩ | ⟨e1, e2⟩ | ⟨e1, e2⟩ | ⟨e1, e2, e3, e4⟩
      rotate_right
      ·have HN := Px.hid (show Co.labels a b = 9 by
        have e : fb p = true := by rw [HF.out.2]; show (!okL p.1 || _) = true; rw [e1]; rfl
        rw [HL.out, HA.out, HS.out.1, HST.out, e]
        rfl)
       have n0 : (p.1.kind != 0) = true := by simpa using e2
       have n1 : (p.1.kind != 1) = true := by simpa using e3
       have n3 : (p.1.kind != 3) = true := by simpa using e4
       clear e1 e2 e3 e4
       go_wp2
       go_ret
       rw [HN.out]
       exact ⟨rfl, HW.out.1.trans HS9.out⟩
      all_goals
       have HE9 := Px.hid (show fb p = r9 by rw [HF.out.2, HO9.out]; show (!okL p.1 || _) = _; rw [e1]; rfl)
       have n0 : (p.1.kind != 0) = (p.1.kind != 0) := rfl
       clear n0
       rw [e2]
       clear e1 e2
       cases r9
      all_goals first
       | (have HN := Px.hid (show b.any fb = (b.drop (i + 1)).any fb by rw [HS.out.1, HST.out, HE9.out]; rfl)
          go_wp2
          go_roundg (b.length - i)
          all_goals first
           | (have := HGK.out; omega)
           | exact ⟨i + 1, by omega, by omega, by go_num, Px.hid ⟨HN.out, HS9.out⟩⟩)
       | (have HN := Px.hid (show Co.labels a b = 9 by rw [HL.out, HA.out, HS.out.1, HST.out, HE9.out]; rfl)
          go_wp2
          go_ret
          rw [HN.out]
          exact ⟨rfl, HW.out.1.trans HS9.out⟩)
    ·have hltz : ¬ (i : Int) < (b.length : Int) := by omega
     have HBE := Px.hid (show Co.labels a b = if (Co.find (a ++ b) 2).isSome || (Co.find (a ++ b) 6).isSome then 11 else 0 by
      rw [HL.out, HA.out, HS.out.1.trans (any_over fb b i hlt)]
      rfl)
     have HB2 := Px.hid (HB.out 2)
     have HB6 := Px.hid (HB.out 6)
     obtain ⟨o2, ho2⟩ : ∃ o, o = Co.find (a ++ b) 2 := ⟨_, rfl⟩
     obtain ⟨o6, ho6⟩ : ∃ o, o = Co.find (a ++ b) 6 := ⟨_, rfl⟩
     rw [← ho2] at HB2 HBE
     rw [← ho6] at HB6 HBE
     clear ho2 ho6
     go_wp2_with fail
     refine (HB2.out _ (HW.out.1.trans HS.out.2)).mono ?_
     rintro e w4 ⟨rfl, hs⟩
     have HS4 := Px.hid (HS.out.2.trans hs)
     clear hs p0 p1 p2 p3
     obtain ⟨p0, p1⟩ := blk2 ((HW.out.2.1.fr HS4.out (fun x => x)))
     obtain ⟨p2, p3⟩ := blk2 ((HW.out.2.2.fr HS4.out (fun x => x)))
     have hwl5 := (HW.out.2.2.fr HS4.out (fun x => x)).lt
     have hwl4 := (HW.out.2.1.fr HS4.out (fun x => x)).lt
     go_wp2_with fail
     refine (HB6.out _ (Fr.alloc (HW.out.1.trans HS4.out) _)).mono ?_
     rintro e w5 ⟨rfl, hs⟩
     have HS5 := Px.hid (Same.trans (Fr.alloc (HW.out.1.trans HS4.out) _) hs)
     clear hs p0 p1 p2 p3
     obtain ⟨r2, hr2⟩ : ∃ r, r = o2.isSome := ⟨_, rfl⟩
     obtain ⟨r6, hr6⟩ : ∃ r, r = o6.isSome := ⟨_, rfl⟩
     rw [← hr2, ← hr6] at HBE ⊢
     clear hr2 hr6
     cases r2 <;> cases r6
     all_goals
      go_wp2
      go_ret
      rw [HBE.out]
      exact ⟨rfl, Fr.alloc HS5.out _⟩
end Go.Proofs.YtddiabaagpmkgaaDoor

/-! The walks over the reference's Bytes and item (layer 25). -/
namespace Go.Proofs.YtddiabaagpmkgaaDoor
open Go.RowKit Go.Px Go.Px.E7 Go.Px.Co
set_option maxRecDepth 100000 in
set_option maxHeartbeats 4000000 in
theorem rbytes_any (s : Bytes) (w : World) (hs : s.length ≤ 140737488351232) : Calls Tryd.prog 30 #[S s] w fun e w' => e = .returned (S (bytesI s)) ∧ Same w w' := by
 have HH := Px.hid (head17_any 2 s.length w (by omega) (by omega))
 have hz : (s.length : Int) ≤ 140737488351232 := by omega
 have hsum : ¬ 9223372036854775807 < (R7.headB 2 s.length).length + s.length := by
  have := headB_le 2 s.length (by omega)
  omega
 go_enter Tryd.func30, Tryd.ntmps30
 go_wp2_with fail
 refine HH.out.mono ?_
 rintro e w1 ⟨rfl, h1⟩
 have HS := Px.hid h1
 clear h1
 go_wp2
 go_ret
 exact ⟨rfl, HS.out⟩
theorem rbehind_any (v : Value) (L : List Atom) (p q : Nat) (w : World) (h : Lies w 3 cAtom v L) (hl : L.length ≤ 4096) (ha : At L p q) :
  Calls Tryd.prog 63 #[v, .int .i64 p] w fun e w' => (∃ m : Int, e = .returned (.tuple #[.int .i64 q, .int .i64 m])) ∧ Same w w' := by
 have hb := behind_at v L p w h hl (by have := ha.lt; omega)
 obtain ⟨m, e⟩ := ha.behind hl
 rw [e] at hb
 exact hb.mono fun r w' ⟨h1, h2⟩ => ⟨⟨_, h1⟩, h2⟩
set_option maxRecDepth 100000 in
set_option maxHeartbeats 4000000 in
theorem ritem_any (v : Value) (L : List Atom) (p q : Nat) (w : World) (h : Lies w 3 cAtom v L) (hl : L.length ≤ 4096) (hw : Wf L) (hb : (encB L).length ≤ 262144) (hx : ∀ a ∈ L, a.num < 18446744073709551616 ∧ a.text.length ≤ 9223372036854775807) (ha : At L p q) :
  Calls Tryd.prog 44 #[v, .int .i64 p] w fun e w' => e = .returned (.tuple #[S (Co.part L p), .int .i64 q]) ∧ Same w w' := by
 have hlt := ha.lt
 obtain ⟨xb, xo, xc, hve, hxb, _⟩ := h.cell p L[p] (by rw [List.getElem?_eq_getElem (by omega)])
 subst hve
 obtain ⟨_, _, hcap1, hcap2, _⟩ := h.slice
 simp only [Value.slice.injEq, true_and] at hcap1
 obtain ⟨rfl, rfl⟩ := hcap1
 have HB := Px.hid (rbehind_any _ L p q w h hl ha)
 have HE := Px.hid (show ∀ W, Same w W → Calls Tryd.prog 64 #[.slice (some ⟨xb, xo + p * 3, none⟩) (q - p) (xc - p)] W (Tells W (Co.part L p, 0)) from fun W hW => by
  have z := refencode_any _ _ W (Lies.piece (Lies.same h hW) p q (by omega) (by omega)) (fun a ha => by have := hx a (List.mem_of_mem_drop (List.mem_of_mem_take ha)); unfold maxLen; exact ⟨this.1, by omega⟩)
  rw [part_enc ha hl hw hb] at z
  exact z)
 have hpz : (p : Int) ≤ (q : Int) := by omega
 have hqz : (q : Int) ≤ (xc : Int) := by omega
 have hne : ¬ xc = p := by omega
 clear h hw hb hx ha hxb
 go_enter Tryd.func44, Tryd.ntmps44
 go_wp2_with fail
 refine HB.out.mono ?_
 rintro e w1 ⟨⟨m, rfl⟩, hs⟩
 have HS := Px.hid hs
 clear hs
 go_wp2_with fail
 refine (HE.out _ HS.out).mono ?_
 rintro e w2 ⟨rfl, hs⟩
 have HS2 := Px.hid (HS.out.trans hs)
 clear hs
 go_wp2
 go_ret2
 exact ⟨rfl, HS2.out⟩
end Go.Proofs.YtddiabaagpmkgaaDoor
