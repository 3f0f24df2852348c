/-
 Several texts in one: The walk over the reference's Heads (layer 25; printed by gen_cqo.py). The walk over cose.Heads (layer 25; printed by gen_cps.py).
-/
import Derived.Test.YtddiabaagpmkgaaDoorCN
import Derived.Test.YtddiabaagpmkgaaDoorAdS
import Derived.IntWalk
import Derived.BigRegion
import Derived.Test.YtddiabaagpmkgaaDoorCH
/-! The walk over the reference's Heads (layer 25; printed by gen_cqo.py). -/
namespace Go.Px.Co
theorem rowOf_facts {k : Int} {r : Row} (h : rowOf k = some r) : r.alg = k ∧ r.alg ≠ 0 ∧ r.iv ≤ 16 ∧ (r.iv = 0 → 100 ≤ r.alg) ∧ 0 ≤ r.alg ∧ r.alg ≤ 200 := by
 have hm := List.mem_of_find?_eq_some h
 have he := List.find?_some h
 have : ∀ r ∈ table, r.alg ≠ 0 ∧ r.iv ≤ 16 ∧ (r.iv = 0 → 100 ≤ r.alg) ∧ 0 ≤ r.alg ∧ r.alg ≤ 200 := by decide
 exact ⟨by simpa using he, this _ hm⟩
def loose1 (name : Bytes) : Bytes := if name = [] then [] else [4] ++ bytesI name
def cnt1 (name : Bytes) : Nat := if name = [] then 0 else 1
end Go.Px.Co
namespace Go.Proofs.YtddiabaagpmkgaaDoor
open Go.RowKit Go.Px Go.Px.E7 Go.Px.Co
set_option maxRecDepth 100000 in
set_option maxHeartbeats 8000000 in
theorem rheads_any (k : Int) (name iv : Bytes) (w : World) (hn : name.length ≤ 140737488351232) (hi : iv.length ≤ 140737488351232) :
  Calls Tryd.prog 18 #[.int .i64 k, S name, S iv] w fun e w' => e = .returned (.tuple #[S (heads k name iv).1, S (heads k name iv).2.1, .int .i64 (heads k name iv).2.2]) ∧ Same w w' := by
 have HM := Px.hid (show heads k name iv = match rowOf k with
  | none => ([], [], 11)
  | some r => if r.iv = 16 then ([], [], 11) else if 128 < name.length ∨ 16 < iv.length then ([], [], 2) else ([161, 1] ++ R7.headB 0 (if r.iv = 0 then k - 100 else k).toNat, R7.headB 5 (cntOf name iv) ++ looseB name iv, 0) from rfl)
 obtain ⟨H, hH⟩ : ∃ H, H = heads k name iv := ⟨_, rfl⟩
 rw [← hH] at HM ⊢
 clear hH
 go_enter Tryd.func18, Tryd.ntmps18
 go_wp2_with fail
 refine (refOf_any _ _).mono ?_
 rintro e w1 ⟨rfl, hs⟩
 have HS := Px.hid hs
 clear hs
 obtain ⟨o, ho⟩ : ∃ o, o = rowOf k := ⟨_, rfl⟩
 rw [← ho] at HM ⊢
 have HO := Px.hid ho
 clear ho
 cases o with
 | none =>
  have HE : Hid (H = ([], [], 11)) := Px.hid HM.out
  rw [show rrowV none = .agg #[.int .i64 0, .int .i64 0, .int .i64 0, .int .i64 0, .int .i64 0] from rfl]
  go_wp2_with fail
  try go_quiet (fail)
  go_wp2
  refine bodyPost_ret (v := .tuple #[S [], S [], .int .i64 11]) (by simp [results, Tryd.results18, go_sem, *]) rfl ?_
  rw [HE.out]
  exact ⟨rfl, by first | exact Fr.alloc HS.out _ | exact Fr.drewN Fr.alloc HS.out _ _⟩
 | some r =>
  obtain ⟨hk, h0, h16, hlo, hge, hle⟩ := rowOf_facts HO.out.symm
  have HF := Px.hid (And.intro hk (And.intro hlo (And.intro hge hle)))
  have h0z : (r.alg == 0) = false := by simpa using h0
  have HM : Hid (H = if r.iv = 16 then ([], [], 11) else if 128 < name.length ∨ 16 < iv.length then ([], [], 2) else ([161, 1] ++ R7.headB 0 (if r.iv = 0 then k - 100 else k).toNat, R7.headB 5 (cntOf name iv) ++ looseB name iv, 0)) := Px.hid HM.out
  rw [show rrowV (some r) = .agg #[.int .i64 r.alg, .int .i64 (r.key : Nat), .int .i64 (r.iv : Nat), .int .i64 (r.tag : Nat), .int .i64 (r.layer : Nat)] from rfl]
  clear hk hlo hge hle h16 HO
  by_cases hv : r.iv = 16
  ·have HE : Hid (H = ([], [], 11)) := Px.hid (by rw [HM.out, if_pos hv])
   rw [hv]
   clear hv
   go_wp2_with fail
   try go_quiet (fail)
   go_wp2
   refine bodyPost_ret (v := .tuple #[S [], S [], .int .i64 11]) (by simp [results, Tryd.results18, go_sem, *]) rfl ?_
   rw [HE.out]
   exact ⟨rfl, by first | exact Fr.alloc HS.out _ | exact Fr.drewN Fr.alloc HS.out _ _⟩
  ·have hvz : ((r.iv : Int) == 16) = false := by simp; omega
   have hvz2 : ¬ (r.iv : Int) = 16 := by omega
   by_cases hl : 128 < name.length
   ·have hlz : (128 : Int) < (name.length : Int) := by omega
    have HE : Hid (H = ([], [], 2)) := Px.hid (by rw [HM.out, if_neg hv, if_pos (.inl hl)])
    clear hv hl
    go_wp2_with fail
    try go_quiet (fail)
    go_wp2
    refine bodyPost_ret (v := .tuple #[S [], S [], .int .i64 2]) (by simp [results, Tryd.results18, go_sem, *]) rfl ?_
    rw [HE.out]
    exact ⟨rfl, by first | exact Fr.alloc HS.out _ | exact Fr.drewN Fr.alloc HS.out _ _⟩
   ·have hlz : ¬ (128 : Int) < (name.length : Int) := by omega
    by_cases hl2 : 16 < iv.length
    ·have hlz2 : (16 : Int) < (iv.length : Int) := by omega
     have HE : Hid (H = ([], [], 2)) := Px.hid (by rw [HM.out, if_neg hv, if_pos (.inr hl2)])
     clear hv hl hl2
     go_wp2_with fail
     try go_quiet (fail)
     go_wp2
     refine bodyPost_ret (v := .tuple #[S [], S [], .int .i64 2]) (by simp [results, Tryd.results18, go_sem, *]) rfl ?_
     rw [HE.out]
     exact ⟨rfl, by first | exact Fr.alloc HS.out _ | exact Fr.drewN Fr.alloc HS.out _ _⟩
    ·have hlz2 : ¬ (16 : Int) < (iv.length : Int) := by omega
     obtain ⟨n, hn2⟩ : ∃ n, n = (if r.iv = 0 then k - 100 else k).toNat := ⟨_, rfl⟩
     have hni : (if r.iv = 0 then k - 100 else k) = (n : Int) ∧ n ≤ 200 := by
      obtain ⟨q1, q2, q3, q4⟩ := HF.out
      rw [hn2]
      split
      ·rename_i c
       have := q2 c
       omega
      ·omega
     have HE : Hid (H = ([161, 1] ++ R7.headB 0 n, R7.headB 5 (cntOf name iv) ++ looseB name iv, 0)) := Px.hid (by rw [HM.out, if_neg hv, if_neg (by rintro (e | e); exact hl e; exact hl2 e), hn2])
     have HNI := Px.hid hni
     have HLL := Px.hid (And.intro hl hl2)
     have hkr : IntKind.i64.wrap (k - 100) = k - 100 := by
      obtain ⟨q1, q2, q3, q4⟩ := HF.out
      exact IntWalk.i64_in _ (by omega)
     clear hv hl hl2 hni hn2 HM
     go_upto_if 34 with fail
     go_cut [10] (fun t10 wx => t10 = .int .i64 (n : Nat) ∧ Same w wx)
     case first =>
      by_cases hz : r.iv = 0
      ·have hkn : k - 100 = (n : Int) := by have := HNI.out.1; rw [if_pos hz] at this; exact this
       have HK := Px.hid hkn
       rw [hz]
       clear hz hkn
       go_wp2_with fail
       go_meet
       exact ⟨by rw [HK.out], Fr.alloc HS.out _⟩
      ·have hkn : k = (n : Int) := by have := HNI.out.1; rw [if_neg hz] at this; exact this
       have hzz : ((r.iv : Int) == 0) = false := by simpa using hz
       have hzz2 : ¬ (r.iv : Int) = 0 := by omega
       have HK := Px.hid hkn
       clear hz hkn hkr
       go_wp2_with fail
       go_meet
       exact ⟨by rw [HK.out], Fr.alloc HS.out _⟩
     case rest =>
      obtain ⟨rfl, hs⟩ := hcut
      have HS2 := Px.hid hs
      clear hs HS hkr h0z hvz hvz2 hlz hlz2
      obtain ⟨B1, hB1⟩ : ∃ B, B = bytesI name := ⟨_, rfl⟩
      obtain ⟨B2, hB2⟩ : ∃ B, B = bytesI iv := ⟨_, rfl⟩
      have HB1 := Px.hid (show ∀ W, Calls Tryd.prog 30 #[S name] W fun e w' => e = .returned (S B1) ∧ Same W w' from fun W => by rw [hB1]; exact rbytes_any _ W hn)
      have HB2 := Px.hid (show ∀ W, Calls Tryd.prog 30 #[S iv] W fun e w' => e = .returned (S B2) ∧ Same W w' from fun W => by rw [hB2]; exact rbytes_any _ W hi)
      have lb1 := bytesI_le name (by omega)
      have lb2 := bytesI_le iv (by omega)
      rw [← hB1] at lb1
      rw [← hB2] at lb2
      have hll := HLL.out
      obtain ⟨C1, hC1⟩ : ∃ C, C = ([4] : Bytes) ++ B1 := ⟨_, rfl⟩
      obtain ⟨C2, hC2⟩ : ∃ C, C = ([5] : Bytes) ++ B2 := ⟨_, rfl⟩
      have lc1 : C1.length = 1 + B1.length := by rw [hC1, List.length_append]; rfl
      have lc2 : C2.length = 1 + B2.length := by rw [hC2, List.length_append]; rfl
      obtain ⟨L1, hL1⟩ : ∃ L, L = loose1 name := ⟨_, rfl⟩
      obtain ⟨L2, hL2⟩ : ∃ L, L = L1 ++ C2 := ⟨_, rfl⟩
      have ll1 : L1.length ≤ C1.length := by
       rw [hL1, hC1, hB1]
       unfold loose1
       split
       ·simp
       ·exact Nat.le_refl _
      have f1 : ∀ W : World, (Op.stringOp .add ⟨#[4]⟩ ⟨B1.toArray⟩).run Tryd.prog W = .ok (.string ⟨C1.toArray⟩) W := fun W => add_S [4] B1 C1 hC1 (by simp only [List.length_cons, List.length_nil]; omega) W
      have f2 : ∀ W : World, (Op.stringOp .add ⟨#[]⟩ ⟨C1.toArray⟩).run Tryd.prog W = .ok (.string ⟨C1.toArray⟩) W := fun W => add_S [] C1 C1 rfl (by simp only [List.length_nil]; omega) W
      have f3 : ∀ W : World, (Op.stringOp .add ⟨#[5]⟩ ⟨B2.toArray⟩).run Tryd.prog W = .ok (.string ⟨C2.toArray⟩) W := fun W => add_S [5] B2 C2 hC2 (by simp only [List.length_cons, List.length_nil]; omega) W
      have f4 : ∀ W : World, (Op.stringOp .add ⟨L1.toArray⟩ ⟨C2.toArray⟩).run Tryd.prog W = .ok (.string ⟨L2.toArray⟩) W := fun W => add_S L1 C2 L2 hL2 (by omega) W
      have HL1 := Px.hid (show (name = [] → L1 = [] ∧ cnt1 name = 0) ∧ (name ≠ [] → L1 = C1 ∧ cnt1 name = 1) from ⟨fun e => by subst e; exact ⟨hL1, rfl⟩, fun e => by rw [hL1, hC1, hB1]; unfold loose1 cnt1; rw [if_neg e, if_neg e]; exact ⟨rfl, rfl⟩⟩)
      obtain ⟨L, hL⟩ : ∃ L, L = looseB name iv := ⟨_, rfl⟩
      have HL2 := Px.hid (show (iv = [] → L = L1 ∧ cntOf name iv = cnt1 name) ∧ (iv ≠ [] → L = L2 ∧ cntOf name iv = cnt1 name + 1) from ⟨fun e => by subst e; rw [hL, hL1]; unfold looseB loose1 cntOf cnt1; exact ⟨List.append_nil _, rfl⟩, fun e => by rw [hL, hL2, hL1, hC2, hB2]; unfold looseB loose1 cntOf cnt1; rw [if_neg e, if_neg e]; exact ⟨rfl, rfl⟩⟩)
      have hLl : L.length ≤ 400 := by
       by_cases c : iv = []
       ·rw [(HL2.out.1 c).1]; omega
       ·rw [(HL2.out.2 c).1, hL2, List.length_append]; omega
      rw [← hL] at HE
      have hcc : cnt1 name ≤ 1 ∧ cntOf name iv ≤ 2 := by
       unfold cnt1 cntOf
       constructor
       ·split <;> omega
       ·split <;> split <;> omega
      obtain ⟨n1, hn1⟩ : ∃ n, n = cnt1 name := ⟨_, rfl⟩
      obtain ⟨n2, hn2⟩ : ∃ n, n = cntOf name iv := ⟨_, rfl⟩
      rw [← hn1] at HL1 HL2 hcc
      rw [← hn2] at HL2 HE hcc
      have HCC := Px.hid hcc
      have HLL2 := Px.hid hLl
      clear hB1 hB2 hC1 hC2 hL1 hL2 hL hn1 hn2 lb1 lb2 lc1 lc2 ll1 hll hcc hLl
      go_upto_if 39 with fail
      go_cut [11, 12] (fun t11 t12 wx => t11 = S L1 ∧ t12 = .int .u64 (n1 : Nat) ∧ Same w wx)
      case first =>
       by_cases hem : name = []
       ·obtain ⟨e1, e2⟩ := HL1.out.1 hem
        have hz : ¬ (0 : Int) < (name.length : Int) := by rw [hem]; decide
        have HEE := Px.hid (And.intro e1 e2)
        clear hem e1 e2
        go_wp2_with fail
        go_meet
        rw [HEE.out.1, HEE.out.2]
        exact ⟨rfl, rfl, HS2.out⟩
       ·obtain ⟨e1, e2⟩ := HL1.out.2 hem
        have hz : (0 : Int) < (name.length : Int) := by
         have : name.length ≠ 0 := fun e => hem (List.length_eq_zero_iff.1 e)
         omega
        have HEE := Px.hid (And.intro e1 e2)
        clear hem e1 e2
        go_wp2_with fail
        refine (HB1.out _).mono ?_
        rintro e w3 ⟨rfl, hs⟩
        have HS3 := Px.hid (HS2.out.trans hs)
        clear hs
        go_wp2_with fail
        go_meet
        rw [HEE.out.1, HEE.out.2]
        exact ⟨rfl, rfl, HS3.out⟩
      case rest =>
       obtain ⟨rfl, rfl, hs⟩ := hcut
       have HS3 := Px.hid hs
       clear hs HS2 f1 f2
       have hwz : IntKind.u64.wrap ((n1 : Int) + 1) = (n1 : Int) + 1 := by
        have := HCC.out.1
        exact IntWalk.u64_in _ (by omega)
       go_upto_if 49 with fail
       go_cut [11, 12] (fun t11 t12 wx => t11 = S L ∧ t12 = .int .u64 (n2 : Nat) ∧ Same w wx)
       case first =>
        by_cases hem : iv = []
        ·obtain ⟨e1, e2⟩ := HL2.out.1 hem
         have hz : ¬ (0 : Int) < (iv.length : Int) := by rw [hem]; decide
         have HEE := Px.hid (And.intro e1 e2)
         clear hem e1 e2
         go_wp2_with fail
         go_meet
         rw [HEE.out.1, HEE.out.2]
         exact ⟨rfl, rfl, HS3.out⟩
        ·obtain ⟨e1, e2⟩ := HL2.out.2 hem
         have hz : (0 : Int) < (iv.length : Int) := by
          have : iv.length ≠ 0 := fun e => hem (List.length_eq_zero_iff.1 e)
          omega
         have HEE := Px.hid (And.intro e1 e2)
         clear hem e1 e2
         go_wp2_with fail
         refine (HB2.out _).mono ?_
         rintro e w4 ⟨rfl, hs⟩
         have HS4 := Px.hid (HS3.out.trans hs)
         clear hs
         go_wp2_with fail
         go_meet
         rw [HEE.out.1, HEE.out.2]
         exact ⟨rfl, by push_cast; rfl, HS4.out⟩
       case rest =>
        obtain ⟨rfl, rfl, hs⟩ := hcut
        have HS4 := Px.hid hs
        clear hs HS3 f3 f4 hwz
        have hn200 : n ≤ 200 := HNI.out.2
        have hn22 : n2 ≤ 2 := HCC.out.2
        obtain ⟨D1, hD1⟩ : ∃ D, D = R7.headB 0 n := ⟨_, rfl⟩
        obtain ⟨D2, hD2⟩ : ∃ D, D = R7.headB 5 n2 := ⟨_, rfl⟩
        have ld1 : D1.length ≤ 9 := by rw [hD1]; exact headB_le 0 n (by omega)
        have ld2 : D2.length ≤ 9 := by rw [hD2]; exact headB_le 5 n2 (by omega)
        have HD1 := Px.hid (show ∀ W, Calls Tryd.prog 33 #[.int .i64 0, .int .u64 (n : Nat)] W fun e w' => e = .returned (S D1) ∧ Same W w' from fun W => by rw [hD1]; exact head17_any 0 n W (by omega) (by omega))
        have HD2 := Px.hid (show ∀ W, Calls Tryd.prog 33 #[.int .i64 5, .int .u64 (n2 : Nat)] W fun e w' => e = .returned (S D2) ∧ Same W w' from fun W => by rw [hD2]; exact head17_any 5 n2 W (by omega) (by omega))
        rw [← hD1, ← hD2] at HE
        obtain ⟨E1, hE1⟩ : ∃ E, E = ([161, 1] : Bytes) ++ D1 := ⟨_, rfl⟩
        obtain ⟨E2, hE2⟩ : ∃ E, E = D2 ++ L := ⟨_, rfl⟩
        rw [← hE1, ← hE2] at HE
        have hLl := HLL2.out
        have g1 : ∀ W : World, (Op.stringOp .add ⟨#[161, 1]⟩ ⟨D1.toArray⟩).run Tryd.prog W = .ok (.string ⟨E1.toArray⟩) W := fun W => add_S [161, 1] D1 E1 hE1 (by simp only [List.length_cons, List.length_nil]; omega) W
        have g2 : ∀ W : World, (Op.stringOp .add ⟨D2.toArray⟩ ⟨L.toArray⟩).run Tryd.prog W = .ok (.string ⟨E2.toArray⟩) W := fun W => add_S D2 L E2 hE2 (by omega) W
        have hnz : (n : Int) ≤ 200 := by omega
        have hnz0 : (0 : Int) ≤ (n : Int) := by omega
        have hwn : IntKind.u64.wrap (n : Int) = (n : Int) := IntWalk.u64_in _ (by omega)
        clear hD1 hD2 hE1 hE2 ld1 ld2 hLl hn200 hn22
        go_wp2_with fail
        refine (HD1.out _).mono ?_
        rintro e w5 ⟨rfl, hs⟩
        have HS5 := Px.hid (HS4.out.trans hs)
        clear hs
        go_wp2_with fail
        refine (HD2.out _).mono ?_
        rintro e w6 ⟨rfl, hs⟩
        have HS6 := Px.hid (HS5.out.trans hs)
        clear hs
        go_wp2
        refine bodyPost_ret (v := .tuple #[S E1, S E2, .int .i64 0]) (by simp [results, Tryd.results18, go_sem, *]) rfl ?_
        rw [HE.out]
        exact ⟨rfl, by first | exact HS6.out | exact Fr.drewN HS6.out _⟩
end Go.Proofs.YtddiabaagpmkgaaDoor

/-! The walk over cose.Heads (layer 25; printed by gen_cps.py). -/
namespace Go.Px
open Go.RowKit
theorem Owns.setFirst {α : Type} {w : World} {T sz : Nat} {c : α → List Value} {a b : α} {r : List α} {g cap : Nat} (hc : ∀ a, (c a).length = sz) (h : Owns w T sz c (.slice (some ⟨g, 0, none⟩) (r.length + 1) cap) (a :: r)) (i : Nat) (hi : i < sz) (u : Value) (hb : c b = (c a).set i u) :
  Owns (w.setCell ⟨g, i, none⟩ u) T sz c (.slice (some ⟨g, 0, none⟩) (r.length + 1) cap) (b :: r) := by
 have hs := World.ownsRow.stored (show w.ownsRow 0 T sz (.slice (some ⟨g, 0, none⟩) (r.length + 1) cap) (r.length + 1) ((a :: r).flatMap c) from h) i u
 unfold Owns
 rw [List.flatMap_cons, List.set_append_left _ _ (by rw [hc]; exact hi)] at hs
 rw [List.flatMap_cons, hb]
 exact hs.1
end Go.Px
namespace Go.Px.Co
def lst (n : Nat) (l : List Atom) : List Atom := ⟨5, n, []⟩ :: l
theorem nameL_cnt (name : Bytes) : lst (cnt1 name) (nameL name) = if name = [] then lst 0 [] else lst 1 [⟨0, 4, []⟩, octets name] := by
 unfold cnt1 nameL
 split <;> rfl
theorem ivL_cnt (name iv : Bytes) : lst (cntOf name iv) (nameL name ++ ivL iv) = if iv = [] then lst (cnt1 name) (nameL name) else lst (cnt1 name + 1) (nameL name ++ [⟨0, 5, []⟩, octets iv]) := by
 unfold cntOf ivL cnt1
 by_cases c : iv = []
 ·rw [if_pos c, if_pos c, if_pos c, List.append_nil]; rfl
 ·rw [if_neg c, if_neg c, if_neg c]
theorem nameL_len (name : Bytes) : (nameL name).length ≤ 2 := by
 unfold nameL
 split <;> simp
end Go.Px.Co
namespace Go.Proofs.YtddiabaagpmkgaaDoor
open Go.RowKit Go.Px Go.Px.E7 Go.Px.Co
/-- A list of the call's own. -/
structure OwnL (w wx : World) (v : Value) (g c : Nat) (l : List Atom) : Prop where
 eq : v = .slice (some ⟨g, 0, none⟩) l.length c
 own : Owns wx 62 3 cAtom (.slice (some ⟨g, 0, none⟩) l.length c) l
 same : Same w wx
 new : w.heap.size ≤ g
theorem OwnL.sm {w wx wy : World} {v : Value} {g c : Nat} {l : List Atom} (h : OwnL w wx v g c l) (hs : Same wx wy) : OwnL w wy v g c l := ⟨h.eq, Owns.same h.own hs, h.same.trans hs, h.new⟩
theorem OwnL.count {w wx : World} {v : Value} {g c n : Nat} {l : List Atom} (h : OwnL w wx v g c (lst n l)) : wx.cell? ⟨g, 1, none⟩ = some (.int .u64 (n : Nat)) ∧ wx.frozen? ⟨g, 1, none⟩ = false ∧ g < wx.heap.size := by
 obtain ⟨g', cap, hv, _, _, hc, hf⟩ := h.own.at cAtom_len (j := 0) (a := ⟨5, n, []⟩) rfl
 simp only [Value.slice.injEq, Option.some.injEq, Addr.mk.injEq, and_true, true_and] at hv
 obtain ⟨rfl, rfl⟩ := hv
 exact ⟨by have := hc 1 _ rfl; simpa using this, hf 1, h.own.lt rfl⟩
theorem OwnL.more {w wx : World} {v : Value} {g c n : Nat} {l : List Atom} (h : OwnL w wx v g c (lst n l)) : OwnL w (wx.setCell ⟨g, 1, none⟩ (.int .u64 ((n + 1 : Nat) : Int))) v g c (lst (n + 1) l) :=
 ⟨h.eq, Owns.setFirst (b := ⟨5, n + 1, []⟩) cAtom_len h.own 1 (by decide) _ rfl, h.same.setCell (.inr h.new) _, h.new⟩
theorem OwnL.push {w W w' : World} {v : Value} {g c cap : Nat} {L : List Atom} {x y : Atom} {b : Option Addr} (h : OwnL w W v g c L) (hown : w'.ownsRow 0 62 3 (.slice b (L.length + 2) cap) (L.length + 2) (L.flatMap cAtom ++ [x, y].flatMap cAtom)) (hgrow : W.grownBy w' (some g)) (hat : ∀ k, (Value.slice b (L.length + 2) cap).ownBlock = some k → some g = some k ∨ k = W.heap.size) :
  ∃ g' c', OwnL w w' (.slice b (L.length + 2) cap) g' c' (L ++ [x, y]) := by
 have ho : Owns w' 62 3 cAtom (.slice b (L.length + 2) cap) (L ++ [x, y]) := atoms_append (k := [x, y]) hown
 obtain ⟨a, ca, hv, _, _, hnil⟩ := ho.len
 simp only [Value.slice.injEq] at hv
 obtain ⟨rfl, hlen, rfl⟩ := hv
 rcases ho.2 with ⟨hv, h0⟩ | ⟨g', cap', cur, hv, _, hg, _⟩
 ·simp at h0
 ·simp only [Value.slice.injEq] at hv
  obtain ⟨rfl, _, rfl⟩ := hv
  refine ⟨g', cap, by rw [hlen], by rw [← hlen]; exact ho, Fr.grown h.same hgrow (fun k e => by cases e; exact .inr h.new), ?_⟩
  rcases hat g' rfl with e | e
  ·cases e; exact h.new
  ·exact Nat.le_trans h.same.size (by omega)
set_option maxRecDepth 100000 in
set_option maxHeartbeats 8000000 in
theorem cheads_any (k : Int) (name iv : Bytes) (w : World) (hn : name.length ≤ 140737488351232) (hi : iv.length ≤ 140737488351232) (hT : Tabs w) :
  Calls Tryd.prog 17 #[.int .i64 k, S name, S iv] w fun e w' => e = .returned (.tuple #[S (heads k name iv).1, S (heads k name iv).2.1, .int .i64 (heads k name iv).2.2]) ∧ Same w w' := by
 have HT := Px.hid hT
 have HM := Px.hid (show heads k name iv = match rowOf k with
  | none => ([], [], 11)
  | some r => if r.iv = 16 then ([], [], 11) else if 128 < name.length ∨ 16 < iv.length then ([], [], 2) else ([161, 1] ++ R7.headB 0 (if r.iv = 0 then k - 100 else k).toNat, R7.headB 5 (cntOf name iv) ++ looseB name iv, 0) from rfl)
 obtain ⟨H, hH⟩ : ∃ H, H = heads k name iv := ⟨_, rfl⟩
 rw [← hH] at HM ⊢
 clear hH hT
 obtain ⟨i0, hi0, hz0, hz1, hz2⟩ := info_parts Tryd.infoAtom
 go_enter Tryd.func17, Tryd.ntmps17
 go_wp2_with fail
 refine (suite_any _ _).mono ?_
 rintro e w1 ⟨rfl, hs⟩
 have HS := Px.hid hs
 clear hs
 obtain ⟨o, ho⟩ : ∃ o, o = rowOf k := ⟨_, rfl⟩
 rw [← ho] at HM ⊢
 have HO := Px.hid ho
 clear ho
 unfold suiteV rowV rowE
 cases o with
 | none =>
  have HE : Hid (H = ([], [], 11)) := Px.hid HM.out
  dsimp only
  go_wp2_with fail
  try go_quiet (fail)
  go_wp2
  refine bodyPost_ret (v := .tuple #[S [], S [], .int .i64 11]) (by simp [results, Tryd.results17, go_sem, *]) rfl ?_
  rw [HE.out]
  exact ⟨rfl, by first | exact Fr.alloc HS.out _ | exact Fr.drewN Fr.alloc HS.out _ _⟩
 | some r =>
  obtain ⟨hk, h0, h16, hlo, hge, hle⟩ := rowOf_facts HO.out.symm
  have HF := Px.hid (And.intro hk (And.intro hlo (And.intro hge hle)))
  replace HM : Hid (H = if r.iv = 16 then ([], [], 11) else if 128 < name.length ∨ 16 < iv.length then ([], [], 2) else ([161, 1] ++ R7.headB 0 (if r.iv = 0 then k - 100 else k).toNat, R7.headB 5 (cntOf name iv) ++ looseB name iv, 0)) := Px.hid HM.out
  dsimp only
  clear hk hlo hge hle h16 HO h0
  by_cases hv : r.iv = 16
  ·have HE : Hid (H = ([], [], 11)) := Px.hid (by rw [HM.out, if_pos hv])
   rw [hv]
   clear hv
   go_wp2_with fail
   try go_quiet (fail)
   go_wp2
   refine bodyPost_ret (v := .tuple #[S [], S [], .int .i64 11]) (by simp [results, Tryd.results17, go_sem, *]) rfl ?_
   rw [HE.out]
   exact ⟨rfl, by first | exact Fr.alloc HS.out _ | exact Fr.drewN Fr.alloc HS.out _ _⟩
  ·have hvz : ((r.iv : Int) == 16) = false := by simp; omega
   have hvz2 : ¬ (r.iv : Int) = 16 := by omega
   by_cases hl : 128 < name.length
   ·have hlz : (128 : Int) < (name.length : Int) := by omega
    have HE : Hid (H = ([], [], 2)) := Px.hid (by rw [HM.out, if_neg hv, if_pos (.inl hl)])
    clear hv hl
    go_wp2_with fail
    try go_quiet (fail)
    go_wp2
    refine bodyPost_ret (v := .tuple #[S [], S [], .int .i64 2]) (by simp [results, Tryd.results17, go_sem, *]) rfl ?_
    rw [HE.out]
    exact ⟨rfl, by first | exact Fr.alloc HS.out _ | exact Fr.drewN Fr.alloc HS.out _ _⟩
   ·have hlz : ¬ (128 : Int) < (name.length : Int) := by omega
    by_cases hl2 : 16 < iv.length
    ·have hlz2 : (16 : Int) < (iv.length : Int) := by omega
     have HE : Hid (H = ([], [], 2)) := Px.hid (by rw [HM.out, if_neg hv, if_pos (.inr hl2)])
     clear hv hl hl2
     go_wp2_with fail
     try go_quiet (fail)
     go_wp2
     refine bodyPost_ret (v := .tuple #[S [], S [], .int .i64 2]) (by simp [results, Tryd.results17, go_sem, *]) rfl ?_
     rw [HE.out]
     exact ⟨rfl, by first | exact Fr.alloc HS.out _ | exact Fr.drewN Fr.alloc HS.out _ _⟩
    ·have hlz2 : ¬ (16 : Int) < (iv.length : Int) := by omega
     obtain ⟨n, hn2⟩ : ∃ n, n = (if r.iv = 0 then k - 100 else k).toNat := ⟨_, rfl⟩
     have hni : (if r.iv = 0 then k - 100 else k) = (n : Int) ∧ n ≤ 200 := by
      obtain ⟨q1, q2, q3, q4⟩ := HF.out
      rw [hn2]
      split
      ·rename_i c
       have := q2 c
       omega
      ·omega
     have HE : Hid (H = ([161, 1] ++ R7.headB 0 n, R7.headB 5 (cntOf name iv) ++ looseB name iv, 0)) := Px.hid (by rw [HM.out, if_neg hv, if_neg (by rintro (e | e); exact hl e; exact hl2 e), hn2])
     have HNI := Px.hid hni
     have HLL := Px.hid (And.intro hl hl2)
     have hkr : IntKind.i64.wrap (k - 100) = k - 100 := by
      obtain ⟨q1, q2, q3, q4⟩ := HF.out
      exact IntWalk.i64_in _ (by omega)
     clear hv hl hl2 hni hn2 HM
     go_upto_if 38 with fail
     go_cut [0] (fun t0 wx => t0 = .int .i64 (n : Nat) ∧ Same w wx)
     case first =>
      by_cases hz : r.iv = 0
      ·have hkn : k - 100 = (n : Int) := by have := HNI.out.1; rw [if_pos hz] at this; exact this
       have HK := Px.hid hkn
       rw [hz]
       clear hz hkn
       go_wp2_with fail
       go_meet
       exact ⟨by rw [HK.out], Fr.alloc HS.out _⟩
      ·have hkn : k = (n : Int) := by have := HNI.out.1; rw [if_neg hz] at this; exact this
       have hzz : ((r.iv : Int) == 0) = false := by simpa using hz
       have hzz2 : ¬ (r.iv : Int) = 0 := by omega
       have HK := Px.hid hkn
       clear hz hkn hkr
       go_wp2_with fail
       go_meet
       exact ⟨by rw [HK.out], Fr.alloc HS.out _⟩
     case rest =>
      obtain ⟨rfl, hs⟩ := hcut
      have HS2 := Px.hid hs
      clear hs HS hkr hvz hvz2 hlz hlz2
      have hn200 : n ≤ 200 := HNI.out.2
      have hnz : (n : Int) ≤ 200 := by omega
      have hnz0 : (0 : Int) ≤ (n : Int) := by omega
      have hwn : IntKind.u64.wrap (n : Int) = (n : Int) := IntWalk.u64_in _ (by omega)
      have HEP := Px.hid (prot_enc n hn200)
      have hln := HLL.out
      have HEL := Px.hid (loose_enc name iv (by omega) (by omega))
      have HTX := Px.hid (show name.length ≤ 128 ∧ iv.length ≤ 16 from ⟨by omega, by omega⟩)
      clear hn200 hln
      obtain ⟨P1, hP1⟩ : ∃ P, P = [161, 1] ++ R7.headB 0 n := ⟨_, rfl⟩
      rw [← hP1] at HE HEP
      clear hP1
      go_wp2_with fail
      refine (encode_any _ [⟨5, 1, []⟩, ⟨0, 1, []⟩, ⟨0, n, []⟩] _ ?hA ?hB ?hC).mono ?_
      case hA => exact Owns.lies (show Owns _ 62 3 cAtom _ [⟨5, 1, []⟩, ⟨0, 1, []⟩, ⟨0, n, []⟩] from ⟨rfl, .inr ⟨_, 3, _, rfl, Nat.zero_le _, heap_alloc_new wc _, Nat.le_refl _, by decide, rfl, rfl⟩⟩) cAtom_len
      case hB =>
       intro a ha
       simp only [List.mem_cons, List.not_mem_nil, or_false] at ha
       rcases ha with rfl | rfl | rfl
       ·exact ⟨by decide, by decide⟩
       ·exact ⟨by decide, by decide⟩
       ·exact ⟨by have := HNI.out.2; show n < _; omega, by show (0 : Nat) ≤ _; omega⟩
      case hC => exact HT.out.same (by first | exact Fr.alloc HS2.out _ | exact HS2.out)
      rintro e w3 ⟨rfl, hs⟩
      rw [HEP.out]
      have HS3 := Px.hid (Same.trans (Fr.alloc HS2.out _) hs)
      clear hs hnz hnz0 hwn
      obtain ⟨bn, hbn⟩ : ∃ b, name.isEmpty = b := ⟨_, rfl⟩
      go_upto_if 54 with fail
      have HBN := Px.hid hbn
      clear hbn
      have h9 : OwnL w (w3.alloc (.cells #[.int .i64 5, .int .u64 0, S []] 62)) (.slice (some ⟨w3.heap.size, 0, none⟩) 1 1) w3.heap.size 1 (lst 0 []) := ⟨rfl, ⟨rfl, .inr ⟨_, 1, _, rfl, Nat.zero_le _, heap_alloc_new w3 _, Nat.le_refl _, by decide, rfl, rfl⟩⟩, Fr.alloc HS3.out _, HS3.out.size⟩
      obtain ⟨w4, hw4⟩ : ∃ w4 : World, w4 = w3.alloc (.cells #[.int .i64 5, .int .u64 0, S []] 62) := ⟨_, rfl⟩
      have h34 : w3.heap.size < w4.heap.size := by rw [hw4]; simp
      rw [← hw4] at h9
      try rw [← hw4]
      have H9 := Px.hid h9
      clear hw4 h9
      obtain ⟨q1, q2, q3⟩ := H9.out.count
      go_cut [13] (fun t13 wx => ∃ g c, OwnL w wx t13 g c (lst (cnt1 name) (nameL name)))
      case first =>
       cases bn with
       | true =>
        have hem : name = [] := by simpa using HBN.out
        have HEM := Px.hid hem
        clear hem
        go_wp2_with fail
        go_meet
        rw [nameL_cnt, if_pos HEM.out]
        exact ⟨_, _, H9.out⟩
       | false =>
        have hem : ¬ name = [] := by intro e; have := HBN.out; rw [e] at this; cases this
        have HEM := Px.hid hem
        clear hem
        go_wp2_with fail
        refine (octets_any name _).mono ?_
        rintro e w5 ⟨rfl, hs⟩
        have H12 := Px.hid ((H9.out.more).sm hs)
        clear hs
        go_wp2_with (at_builtin; go_must (refine wpList_append_all rfl _ _ 50 50 rfl 62 i0 _ 3 32 Tryd.underlying50 hi0 hz0 hz1 hz2 rfl (.slice (some ⟨w3.heap.size, 0, none⟩) 1 1) 1 _ rfl (World.ownsRow.alloc H12.out.own _) (.slice (some ⟨w5.heap.size, 0, none⟩) 2 2) 2 [.int .i64 0, .int .u64 4, S [], .int .i64 2, .int .u64 0, S name] rfl (src_block (heap_alloc_new w5 _) (by simp [Value.oneCell'])) (by unfold maxLen; omega) (by omega) ?_))
        intro b cap w6 hown hgrow hat
        have hp := OwnL.push (x := ⟨0, 4, []⟩) (y := octets name) (H12.out.sm (Fr.alloc (Fr.refl _ w5) _)) hown hgrow (fun k e => (hat k e).imp id (fun e => by rw [e]; simp))
        have HP := Px.hid hp
        clear hown hgrow hat hp
        go_wp2_with fail
        go_meet
        rw [nameL_cnt, if_neg HEM.out]
        exact HP.out
      case rest =>
       obtain ⟨g, c, hL⟩ := hcut
       have hnl := nameL_len name
       obtain ⟨m, hm⟩ : ∃ m, m = (nameL name).length + 1 := ⟨_, rfl⟩
       obtain ⟨n1, hn1⟩ : ∃ n, n = cnt1 name := ⟨_, rfl⟩
       have hn1l : n1 ≤ 1 := by rw [hn1]; unfold cnt1; split <;> omega
       obtain ⟨nl, hnl2⟩ : ∃ nl, nl = nameL name := ⟨_, rfl⟩
       have HNL := Px.hid (And.intro hn1 hnl2)
       rw [← hn1, ← hnl2] at hL
       rw [← hnl2] at hm hnl
       have hv : u13 = .slice (some ⟨g, 0, none⟩) m c := by rw [hm]; exact hL.eq
       subst hv
       clear q1 q2 q3 hn1 hnl2
       obtain ⟨q1, q2, q3⟩ := hL.count
       have HQ := Px.hid hL
       have HMM := Px.hid hm
       have hm0 : (0 : Int) < (m : Int) := by omega
       have hm3 : m ≤ 3 := by omega
       have hwz : IntKind.u64.wrap ((n1 : Int) + 1) = (n1 : Int) + 1 := IntWalk.u64_in _ (by omega)
       clear hL hm hnl HS3 H9 h34 HS2
       obtain ⟨bi, hbi⟩ : ∃ b, iv.isEmpty = b := ⟨_, rfl⟩
       go_upto_if 69 with fail
       have HBI := Px.hid hbi
       clear hbi
       go_cut [13] (fun t13 wx => ∃ g c, OwnL w wx t13 g c (lst (cntOf name iv) (nameL name ++ ivL iv)))
       case first =>
        cases bi with
        | true =>
         have hem : iv = [] := by simpa using HBI.out
         have HEM := Px.hid hem
         clear hem
         go_wp2_with fail
         go_meet
         rw [ivL_cnt, if_pos HEM.out, ← HNL.out.1, ← HNL.out.2]
         exact ⟨_, _, HQ.out⟩
        | false =>
         have hem : ¬ iv = [] := by intro e; have := HBI.out; rw [e] at this; cases this
         have HEM := Px.hid hem
         clear hem
         go_wp2_with fail
         refine (octets_any iv _).mono ?_
         rintro e w5 ⟨rfl, hs⟩
         have H12 := Px.hid ((HQ.out.more).sm (by simpa using hs))
         have how : w5.ownsRow 0 62 3 (.slice (some ⟨g, 0, none⟩) m c) m ((lst (n1 + 1) nl).flatMap cAtom) := by
          have := H12.out.own
          rw [HMM.out]
          exact this
         have HOW := Px.hid how
         clear hs how
         go_wp2_with (at_builtin; go_must (refine wpList_append_all rfl _ _ 50 50 rfl 62 i0 _ 3 32 Tryd.underlying50 hi0 hz0 hz1 hz2 rfl (.slice (some ⟨g, 0, none⟩) m c) m _ rfl (World.ownsRow.alloc HOW.out _) (.slice (some ⟨w5.heap.size, 0, none⟩) 2 2) 2 [.int .i64 0, .int .u64 5, S [], .int .i64 2, .int .u64 0, S iv] rfl (src_block (heap_alloc_new w5 _) (by simp [Value.oneCell'])) (by unfold maxLen; omega) (by omega) ?_))
         intro b cap w6 hown hgrow hat
         have hp := OwnL.push (x := ⟨0, 5, []⟩) (y := octets iv) (b := b) (cap := cap) (w' := w6) (H12.out.sm (Fr.alloc (Fr.refl _ w5) _)) (by have := hown; rw [HMM.out] at this; exact this) hgrow (fun k e => (hat k (by rw [HMM.out]; exact e)).imp id (fun e => by rw [e]; simp))
         have hml : (lst (n1 + 1) nl).length + 2 = m + 2 := by rw [HMM.out]; rfl
         rw [hml] at hp
         have HP := Px.hid hp
         clear hown hgrow hat hp hml
         go_wp2_with fail
         go_meet
         rw [ivL_cnt, if_neg HEM.out, ← HNL.out.1, ← HNL.out.2]
         exact HP.out
       case rest =>
        obtain ⟨g2, c2, hL⟩ := hcut
        have hv := hL.eq
        subst hv
        have HQ2 := Px.hid hL
        have HQS := Px.hid hL.same
        clear hL q1 q2 q3 hwz hm0 hm3 HQ HMM
        go_wp2_with fail
        refine (encode_any _ (lst (cntOf name iv) (nameL name ++ ivL iv)) _ (HQ2.out.own.lies cAtom_len) ?hB (HT.out.same HQS.out)).mono ?_
        case hB =>
         intro a ha
         have hc2 : cntOf name iv ≤ 2 := by unfold cntOf; split <;> split <;> omega
         have h1 := HTX.out.1
         have h2 := HTX.out.2
         unfold lst nameL ivL at ha
         rcases List.mem_cons.1 ha with rfl | ha
         ·exact ⟨by show cntOf name iv < _; omega, by show (0 : Nat) ≤ _; omega⟩
         ·rcases List.mem_append.1 ha with ha | ha
          ·split at ha
           ·cases ha
           ·simp only [List.mem_cons, List.not_mem_nil, or_false] at ha
            rcases ha with rfl | rfl
            ·exact ⟨by decide, by show (0 : Nat) ≤ _; omega⟩
            ·exact ⟨by show (0 : Nat) < _; omega, by show name.length ≤ _; omega⟩
          ·split at ha
           ·cases ha
           ·simp only [List.mem_cons, List.not_mem_nil, or_false] at ha
            rcases ha with rfl | rfl
            ·exact ⟨by decide, by show (0 : Nat) ≤ _; omega⟩
            ·exact ⟨by show (0 : Nat) < _; omega, by show iv.length ≤ _; omega⟩
        rintro e w7 ⟨rfl, hs⟩
        rw [show E7.encode (lst (cntOf name iv) (nameL name ++ ivL iv)) = (R7.headB 5 (cntOf name iv) ++ looseB name iv, 0) from HEL.out]
        obtain ⟨E2, hE2⟩ : ∃ E, E = R7.headB 5 (cntOf name iv) ++ looseB name iv := ⟨_, rfl⟩
        rw [← hE2] at HE ⊢
        have HS7 := Px.hid (HQS.out.trans hs)
        clear hs hE2
        go_wp2
        refine bodyPost_ret (v := .tuple #[S P1, S E2, .int .i64 0]) (by simp [results, Tryd.results17, go_sem, *]) rfl ?_
        rw [HE.out]
        exact ⟨rfl, by first | exact HS7.out | exact Fr.drewN HS7.out _⟩
end Go.Proofs.YtddiabaagpmkgaaDoor
