/-
  Several texts in one: The walk over the reference's Told (layer 15): an element that holds no other.
-/
import Derived.Test.YtceffhkgnifmeaaDoorMW
/-! The walk over the reference's Told (layer 15): an element that holds no other. -/
namespace Go.Proofs.YtceffhkgnifmeaaDoor
open Go.RowKit Go.Px Go.Px.R5

set_option maxRecDepth 100000 in
set_option maxHeartbeats 16000000 in
theorem told_leaf (w0 : World) (b xb xo cap : Nat) (L : List Px.Node) (hL : Lst w0 b xb xo L) (a : Px.Node)
    (w : World) (k : Nat) (r : List Px.Node) (out : Bool) (ht : Tl w b (.slice (some ⟨xb, xo, none⟩) L.length cap) false out) (hs : Same w0 w) (hlf : E5.leaf a = true) (hd : L.drop k = [a] ++ r) (hB : (E5.wrap a.tag a.body).length ≤ 1000000) :
    Calls Tryd.prog 40 #[.pointer (some ⟨b, 0, none⟩), .int .i64 (k : Nat)] w (ToldP w0 w b (.slice (some ⟨xb, xo, none⟩) L.length cap) k [a] (E5.wrap a.tag a.body) false out) := by
  obtain ⟨hkl, hget, hdrop⟩ := drop_head15 hd
  have hcx := hL.cell k a hget
  have hxb := hL.lt
  have hx0 := hcx 0 _ rfl
  have hx1 := hcx 1 _ rfl
  have hx2 := hcx 2 _ rfl
  rw [← Nat.add_assoc] at hx0 hx1 hx2
  rw [Nat.add_zero] at hx0
  have x0 := (hs.cell (p := ⟨xb, xo + k * 3, none⟩) hxb (fun x => x)).trans hx0
  have x1 := (hs.cell (p := ⟨xb, xo + k * 3 + 1, none⟩) hxb (fun x => x)).trans hx1
  have x2 := (hs.cell (p := ⟨xb, xo + k * 3 + 2, none⟩) hxb (fun x => x)).trans hx2
  obtain ⟨t0, t1, t2⟩ := ht.cells
  have hlen := hL.len
  have hklz : (k : Int) < (L.length : Int) := by omega
  have hneg : a.kids < 0 := by simpa [E5.leaf] using hlf
  have HH := Px.hid (And.intro ht hs)
  have hbl : a.body.length ≤ 1000000 := by rw [E5.wrap_size] at hB; omega
  have htl := tagLen a.tag a.body
  have HLEN0 := fun W => reflen_any a.body.length (by omega) W
  have HCV0 := fun q W h => conv1 a.tag.toNat (UInt8.toNat_lt _) q W h
  rw [UInt8.ofNat_toNat] at HCV0
  obtain ⟨ct, hct⟩ : ∃ ct, ct = [a.tag] := ⟨_, rfl⟩
  obtain ⟨LB, hLB⟩ : ∃ LB, LB = E5.lenB a.body.length := ⟨_, rfl⟩
  obtain ⟨HB, hHB⟩ : ∃ HB, HB = [a.tag] ++ E5.lenB a.body.length := ⟨_, rfl⟩
  obtain ⟨AB, hAB⟩ : ∃ AB, AB = E5.wrap a.tag a.body := ⟨_, rfl⟩
  rw [← hHB, ← hct, ← hLB, ← hAB] at htl
  rw [← hct] at HCV0
  rw [← hLB] at HLEN0
  rw [← hAB]
  have HCV := Px.hid HCV0
  have HLEN := Px.hid HLEN0
  have hszC : (ByteArray.mk ct.toArray).size = 1 := by rw [size_S]; exact htl.one
  have hszL : (ByteArray.mk LB.toArray).size = LB.length := size_S LB
  have hszH : (ByteArray.mk HB.toArray).size = HB.length := size_S HB
  have hszB : (ByteArray.mk a.body.toArray).size = a.body.length := size_S a.body
  have hn9 := htl.nine
  have hn10 := htl.hl
  have happ1 := htl.h1
  have happ2 := htl.h2
  clear ht hs hlf hd hB hget hdrop hcx hx0 hx1 hx2 htl hct hLB hHB hAB HCV0 HLEN0
  go_enter Tryd.func40, Tryd.ntmps40
  go_upto_region 2 with fail
  obtain ⟨q, hq⟩ : ∃ q, q = w.heap.size := ⟨_, rfl⟩
  obtain ⟨W2, hW2⟩ : ∃ W2, W2 = w.alloc (.cells #[.int .u8 a.tag.toNat, .int .i64 a.kids, .string ⟨a.body.toArray⟩] 63 (0, 0)) := ⟨_, rfl⟩
  rw [← hW2, ← hq]
  have hs2 : Same w W2 := by rw [hW2]; exact (Same.refl w).alloc _
  have hb2 : W2.heap[q]? = some (.cells #[.int .u8 a.tag.toNat, .int .i64 a.kids, S a.body] 63 (0, 0)) := by rw [hW2, hq]; exact heap_alloc_new w _
  have HX := Px.hid (And.intro hs2 (And.intro hb2 hq))
  have HY := Px.hid (show ∀ W, Same W2 W → W.cell? ⟨q, 0, none⟩ = some (.int .u8 a.tag.toNat) ∧ W.cell? ⟨q, 2, none⟩ = some (S a.body) from fun W h => by
    have hk := same_keeps15 h _ _ hb2
    exact ⟨cellOf hk 0 rfl, cellOf hk 2 rfl⟩)
  have y0 := cellOf hb2 0 rfl
  have y1 := cellOf hb2 1 rfl
  have y2 := cellOf hb2 2 rfl
  have hwl : q < W2.heap.size := ltOf hb2
  clear hs2 hb2 hW2 hq x0 x1 x2 t0 t1 t2
  go_upto_region 3 with fail
  have hw1 : IntKind.i64.wrap ((k : Int) + 1) = (k : Int) + 1 := IntWalk.i64_in _ ⟨by omega, by omega⟩
  have hca := HCV.out W2.heap.size (W2.alloc (.cells #[.int .u8 (a.tag.toNat : Nat)] 5 (0, 0))) (heap_alloc_new _ _)
  have hcd := HCV.out W2.heap.size (W2.alloc (.cells #[.int .u8 (a.tag.toNat : Nat)] 5 (0, 0))).drew (heap_alloc_new _ _)
  go_cut [4, 5] (fun t4 t5 wx => t4 = S AB ∧ t5 = .int .i64 (k + 1 : Nat) ∧ Same W2 wx)
  case first =>
    go_region_with (go_at_call 51; refine (HLEN.out _).mono ?_; rintro e wm ⟨rfl, hm⟩; have hke := HCV.out wm.heap.size (wm.alloc (.cells #[.int .u8 (a.tag.toNat : Nat)] 5 (0, 0))) (heap_alloc_new _ _); (try (have hkf := HCV.out W2.heap.size wm (same_keeps15 hm _ _ (heap_alloc_new _ _)))); have hM0 : Same W2 wm := (by first | exact Same.trans (Fr.drew (Same.refl W2)) hm | exact Same.trans (Fr.alloc (Fr.drew (Same.refl W2)) _) hm); have z0 := (HY.out wm hM0).1; have z2 := (HY.out wm hM0).2; have HM := Px.hid hM0; have hwm := Nat.lt_of_lt_of_le hwl hM0.size; clear hm hM0)
    all_goals
      go_wp2_with fail
      go_meet
      first
        | exact ⟨rfl, by go_num, HM.out⟩
        | exact ⟨rfl, by go_num, Fr.alloc HM.out _⟩
  case rest =>
    obtain ⟨rfl, rfl, hsc⟩ := hcut
    have HS := Px.hid (HX.out.1.trans hsc)
    clear hsc
    go_wp2
    go_ret2
    exact ToldP.mk AB (k + 1) false out rfl ⟨HH.out.1.sm HS.out, HH.out.2.trans HS.out, .inl ⟨rfl, rfl, rfl, by rw [Bool.or_false]⟩⟩ (HS.out.fr _)
end Go.Proofs.YtceffhkgnifmeaaDoor
