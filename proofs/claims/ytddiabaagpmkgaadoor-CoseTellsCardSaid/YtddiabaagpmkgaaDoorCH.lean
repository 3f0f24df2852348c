/-
 Several texts in one: The walks over slices.Equal (of recipients) and cose.same (printed by gen_cpp.py). The walks over cose.most, cose.octets, and cose.Tell's list. The walk over cose.Tell. The walk over the reference's Same (printed by gen_cqm.py).
-/
import Derived.Test.YtddiabaagpmkgaaDoorCG
import Derived.Test.YtddiabaagpmkgaaDoorAq
/-! The walks over slices.Equal (of recipients) and cose.same (printed by gen_cpp.py). -/
namespace Go.Proofs.YtddiabaagpmkgaaDoor
open Go.RowKit Go.Px Go.Px.E7 Go.Px.Co
theorem drop_eq_step {α : Type} (a b : List α) (i : Nat) (ha : i < a.length) (hb : i < b.length) : (a.drop i = b.drop i) ↔ (a[i] = b[i] ∧ a.drop (i + 1) = b.drop (i + 1)) := by
 rw [List.drop_eq_getElem_cons ha, List.drop_eq_getElem_cons hb, List.cons.injEq]
theorem rec_ext {a b : Rec} (h1 : a.way = b.way) (h2 : a.size = b.size) (h3 : a.kind = b.kind) (h4 : a.name = b.name) (h5 : a.key = b.key) (h6 : a.salt = b.salt) (h7 : a.rounds = b.rounds) (h8 : a.iv = b.iv) (h9 : a.loose = b.loose) : a = b := by
 cases a; cases b; simp_all
theorem run_neq_rec {x y : Rec} (h : ¬ x = y) (w : World) : (binOp .neq 59 (.agg #[.int .i64 x.way, .int .i64 x.size, .int .i64 x.kind, S x.name, S x.key, S x.salt, .int .i64 x.rounds, S x.iv, S x.loose]) (.agg #[.int .i64 y.way, .int .i64 y.size, .int .i64 y.kind, S y.name, S y.key, S y.salt, .int .i64 y.rounds, S y.iv, S y.loose])).run Tryd.prog w = .ok (.bool true) w := by
 rw [run_neq_struct, run_equalIn_struct w 9999 _ _ _ (by kernel_rfl) (by kernel_rfl)]
 simp only [Program.fieldsOf, Tryd.underlying59]
 go_simp
 by_cases h1 : x.way = y.way
 ·by_cases h2 : x.size = y.size
  ·by_cases h3 : x.kind = y.kind
   ·by_cases h4 : x.name = y.name
    ·by_cases h5 : x.key = y.key
     ·by_cases h6 : x.salt = y.salt
      ·by_cases h7 : x.rounds = y.rounds
       ·by_cases h8 : x.iv = y.iv
        ·by_cases h9 : x.loose = y.loose
         ·exact absurd (rec_ext h1 h2 h3 h4 h5 h6 h7 h8 h9) h
         ·simp [h1, h2, h3, h4, h5, h6, h7, h8, h9]
        ·simp [h1, h2, h3, h4, h5, h6, h7, h8]
       ·simp [h1, h2, h3, h4, h5, h6, h7]
      ·simp [h1, h2, h3, h4, h5, h6]
     ·simp [h1, h2, h3, h4, h5]
    ·simp [h1, h2, h3, h4]
   ·simp [h1, h2, h3]
  ·simp [h1, h2]
 ·simp [h1]
theorem lies_rec {w : World} {b off cap : Nat} {l : List Rec} (h : Lies w 9 cRec (.slice (some ⟨b, off, none⟩) l.length cap) l) (i : Nat) (hi : i < l.length) :
  w.cell? ⟨b, off + i * 9, none⟩ = some (.int .i64 l[i].way) ∧ w.cell? ⟨b, off + i * 9 + 1, none⟩ = some (.int .i64 l[i].size) ∧ w.cell? ⟨b, off + i * 9 + 2, none⟩ = some (.int .i64 l[i].kind) ∧ w.cell? ⟨b, off + i * 9 + 3, none⟩ = some (S l[i].name) ∧ w.cell? ⟨b, off + i * 9 + 4, none⟩ = some (S l[i].key) ∧ w.cell? ⟨b, off + i * 9 + 5, none⟩ = some (S l[i].salt) ∧ w.cell? ⟨b, off + i * 9 + 6, none⟩ = some (.int .i64 l[i].rounds) ∧ w.cell? ⟨b, off + i * 9 + 7, none⟩ = some (S l[i].iv) ∧ w.cell? ⟨b, off + i * 9 + 8, none⟩ = some (S l[i].loose) := by
 obtain ⟨b', off', cap', hve, hxb, hcx⟩ := h.cell i l[i] (by simp [hi])
 simp only [Value.slice.injEq, Option.some.injEq, Addr.mk.injEq, true_and, and_true] at hve
 obtain ⟨⟨rfl, rfl⟩, rfl⟩ := hve
 exact ⟨hcx 0 _ rfl, hcx 1 _ rfl, hcx 2 _ rfl, hcx 3 _ rfl, hcx 4 _ rfl, hcx 5 _ rfl, hcx 6 _ rfl, hcx 7 _ rfl, hcx 8 _ rfl⟩
set_option maxRecDepth 100000 in
set_option maxHeartbeats 20000000 in
theorem equal_any (va vb : Value) (la lb : List Rec) (w : World) (ha : Lies w 9 cRec va la) (hb : Lies w 9 cRec vb lb) (hl : la.length ≤ 140737488351232) :
  Calls Tryd.prog 49 #[va, vb] w fun e w' => e = .returned (.bool (decide (la = lb))) ∧ Same w w' := by
 obtain ⟨aa, ac, rfl, _, _⟩ := ha.slice
 obtain ⟨ba, bc, rfl, _, _⟩ := hb.slice
 have H := Px.hid (And.intro ha hb)
 clear ha hb
 by_cases hn : la.length = lb.length
 ·have hnz : (la.length : Int) = (lb.length : Int) := by omega
  have HN := Px.hid hn
  have HL := Px.hid hnz
  clear hnz
  go_enter Tryd.func49, Tryd.ntmps49
  rw [← hn]
  clear hn
  go_wp2
  go_loopg [13] (la.length + 1) (fun gk t13 wr => ∃ i : Nat, gk + i = la.length + 1 ∧ i ≤ la.length ∧ t13 = .int .i64 i ∧ Hid (((la = lb) ↔ (la.drop i = lb.drop i)) ∧ Same w wr))
  case atStart => exact ⟨0, rfl, Nat.zero_le _, rfl, Px.hid ⟨Iff.rfl, Same.refl w⟩⟩
  case round =>
   obtain ⟨i, hgk, hi, rfl, HS⟩ := hrel
   have HGK := Px.hid hgk
   clear hgk
   by_cases hlt : i < la.length
   ·have hltz : (i : Int) < (la.length : Int) := by omega
    have hlb : i < lb.length := by have := HN.out; omega
    have hA := Lies.same H.out.1 HS.out.2
    have hB := Lies.same H.out.2 HS.out.2
    obtain ⟨xb, xo, xc, hve, _, _⟩ := hA.cell i la[i] (by simp [hlt])
    obtain ⟨yb, yo, yc, hve2, _, _⟩ := hB.cell i lb[i] (by simp [hlb])
    simp only [Value.slice.injEq, true_and] at hve hve2
    obtain ⟨rfl, rfl⟩ := hve
    obtain ⟨rfl, rfl⟩ := hve2
    obtain ⟨x0, x1, x2, x3, x4, x5, x6, x7, x8⟩ := lies_rec hA i hlt
    obtain ⟨y0, y1, y2, y3, y4, y5, y6, y7, y8⟩ := lies_rec hB i hlb
    have hst := drop_eq_step la lb i hlt hlb
    obtain ⟨x, hx⟩ : ∃ x, x = la[i] := ⟨_, rfl⟩
    obtain ⟨y, hy⟩ : ∃ y, y = lb[i] := ⟨_, rfl⟩
    rw [← hx] at x0 x1 x2 x3 x4 x5 x6 x7 x8 hst
    rw [← hy] at y0 y1 y2 y3 y4 y5 y6 y7 y8 hst
    have HST := Px.hid hst
    clear hx hy hst hA hB
    by_cases hxy : x = y
    ·subst hxy
     have HE := Px.hid (show (la = lb) ↔ (la.drop (i + 1) = lb.drop (i + 1)) from HS.out.1.trans (HST.out.trans ⟨fun h => h.2, fun h => ⟨rfl, h⟩⟩))
     go_wp2_with fail
     go_quiet (fail)
     go_wp2
     go_roundg (la.length - i)
     case measure => have := HGK.out; omega
     case rel => exact ⟨i + 1, by omega, by omega, by go_num, Px.hid ⟨HE.out, Fr.drewN HS.out.2 _⟩⟩
    ·have HE := Px.hid (show ¬ la = lb from fun h => hxy (HST.out.1 (HS.out.1.1 h)).1)
     have hne := fun W => run_neq_rec hxy W
     clear hxy
     go_wp2_with fail
     go_quiet (fail)
     go_wp2
     go_ret
     rw [decide_eq_false HE.out]
     exact ⟨rfl, Fr.drewN HS.out.2 _⟩
   ·have hltz : ¬ (i : Int) < (la.length : Int) := by omega
    have HE := Px.hid (show la = lb from HS.out.1.2 (by rw [List.drop_of_length_le (by omega), List.drop_of_length_le (by have := HN.out; omega)]))
    go_wp2
    go_ret
    rw [decide_eq_true HE.out]
    exact ⟨rfl, HS.out.2⟩
 ·have hnz : ¬ (la.length : Int) = (lb.length : Int) := by omega
  have HE := Px.hid (show ¬ la = lb from fun h => hn (by rw [h]))
  go_enter Tryd.func49, Tryd.ntmps49
  go_wp2
  go_ret
  rw [decide_eq_false HE.out]
  exact ⟨rfl, Same.refl w⟩
theorem blk_new1 (w : World) (o : Obj) (cs : Array Value) (T : TypeId) : Blk ((w.alloc o).alloc (.cells cs T (0, 0))) (w.heap.size + 1) cs T := by
 have z := blk_new (w.alloc o) cs T
 have e : (w.alloc o).heap.size = w.heap.size + 1 := by simp
 rw [e] at z
 exact z
set_option maxRecDepth 100000 in
set_option maxHeartbeats 20000000 in
theorem same_any (x y : Env) (va vb : Value) (w : World) (ha : Lies w 9 cRec va x.to) (hb : Lies w 9 cRec vb y.to) (hl : x.to.length ≤ 140737488351232) (hl2 : y.to.length ≤ 140737488351232) :
  Calls Tryd.prog 29 #[.agg (envC x va), .agg (envC y vb)] w fun e w' => e = .returned (.bool (decide (x = y))) ∧ Same w w' := by
 have HQ := Px.hid (fun (W : World) (hW : Same w W) => equal_any va vb x.to y.to W (Lies.same ha hW) (Lies.same hb hW) hl)
 obtain ⟨aa, ac, rfl, _, _⟩ := ha.slice
 obtain ⟨ba, bc, rfl, _, _⟩ := hb.slice
 clear ha hb
 obtain ⟨D, hD⟩ : ∃ D, D = decide (x = y) := ⟨_, rfl⟩
 rw [← hD]
 have HD := Px.hid hD
 clear hD
 obtain ⟨x0, x1, x2, x3, x4, x5, x6, x7, x8⟩ := x
 obtain ⟨y0, y1, y2, y3, y4, y5, y6, y7, y8⟩ := y
 unfold envC
 simp only at HQ hl hl2 ⊢
 by_cases h0 : x0 = y0
 ·subst h0
  by_cases h1 : x1 = y1
  ·subst h1
   by_cases h2 : x2 = y2
   ·subst h2
    by_cases h3 : x3 = y3
    ·subst h3
     by_cases h4 : x4 = y4
     ·subst h4
      by_cases h5 : x5 = y5
      ·subst h5
       by_cases h6 : x6 = y6
       ·subst h6
        by_cases h7 : x7 = y7
        ·subst h7
         by_cases h8 : x8 = y8
         ·subst h8
          go_enter Tryd.func29, Tryd.ntmps29
          go_wp2_with fail
          refine (HQ.out _ (Fr.alloc (Fr.alloc (Fr.refl _ w) _) _)).mono ?_
          rintro e w1 ⟨rfl, hs⟩
          have HS := Px.hid (show Same w w1 from Same.trans (Fr.alloc (Fr.alloc (Fr.refl _ w) _) _) hs)
          have bx : Blk w1 (w.heap.size) #[.int .i64 x0, .int .i64 x1, .slice aa x2.length ac, S x3, S x4, S x5, S x6, S x7, S x8] 27 := Blk.fr (Blk.alloc (blk_new w _ _) _) hs (fun x => x)
          have by_ : Blk w1 (w.heap.size + 1) #[.int .i64 x0, .int .i64 x1, .slice ba x2.length bc, S x3, S x4, S x5, S x6, S x7, S x8] 27 := Blk.fr (blk_new1 w _ _ _) hs (fun x => x)
          obtain ⟨c0, c1, c2, c3, c4, c5, c6, c7, c8, _⟩ := blk9 bx
          obtain ⟨e0, e1, e2, e3, e4, e5, e6, e7, e8, _⟩ := blk9 by_
          clear bx by_
          clear hs
          go_wp2
          go_ret
          rw [show D = true by rw [HD.out]; simp]
          exact ⟨by first | rfl | simp, HS.out⟩
         ·have HE := Px.hid (show ¬ ((⟨x0, x1, x2, x3, x4, x5, x6, x7, x8⟩ : Env) = ⟨x0, x1, x2, x3, x4, x5, x6, x7, y8⟩) from fun e => h8 (congrArg Env.tag e))
          have b8 : (x8 == y8) = false := by simpa using h8
          go_enter Tryd.func29, Tryd.ntmps29
          go_wp2_with fail
          refine (HQ.out _ (Fr.alloc (Fr.alloc (Fr.refl _ w) _) _)).mono ?_
          rintro e w1 ⟨rfl, hs⟩
          have HS := Px.hid (show Same w w1 from Same.trans (Fr.alloc (Fr.alloc (Fr.refl _ w) _) _) hs)
          have bx : Blk w1 (w.heap.size) #[.int .i64 x0, .int .i64 x1, .slice aa x2.length ac, S x3, S x4, S x5, S x6, S x7, S x8] 27 := Blk.fr (Blk.alloc (blk_new w _ _) _) hs (fun x => x)
          have by_ : Blk w1 (w.heap.size + 1) #[.int .i64 x0, .int .i64 x1, .slice ba x2.length bc, S x3, S x4, S x5, S x6, S x7, S y8] 27 := Blk.fr (blk_new1 w _ _ _) hs (fun x => x)
          obtain ⟨c0, c1, c2, c3, c4, c5, c6, c7, c8, _⟩ := blk9 bx
          obtain ⟨e0, e1, e2, e3, e4, e5, e6, e7, e8, _⟩ := blk9 by_
          clear bx by_
          clear hs
          go_wp2
          go_ret
          rw [show D = false from HD.out.trans (decide_eq_false HE.out)]
          exact ⟨rfl, HS.out⟩
        ·have HE := Px.hid (show ¬ ((⟨x0, x1, x2, x3, x4, x5, x6, x7, x8⟩ : Env) = ⟨x0, x1, x2, x3, x4, x5, x6, y7, y8⟩) from fun e => h7 (congrArg Env.cipher e))
         have b7 : (x7 == y7) = false := by simpa using h7
         go_enter Tryd.func29, Tryd.ntmps29
         go_wp2_with fail
         refine (HQ.out _ (Fr.alloc (Fr.alloc (Fr.refl _ w) _) _)).mono ?_
         rintro e w1 ⟨rfl, hs⟩
         have HS := Px.hid (show Same w w1 from Same.trans (Fr.alloc (Fr.alloc (Fr.refl _ w) _) _) hs)
         have bx : Blk w1 (w.heap.size) #[.int .i64 x0, .int .i64 x1, .slice aa x2.length ac, S x3, S x4, S x5, S x6, S x7, S x8] 27 := Blk.fr (Blk.alloc (blk_new w _ _) _) hs (fun x => x)
         have by_ : Blk w1 (w.heap.size + 1) #[.int .i64 x0, .int .i64 x1, .slice ba x2.length bc, S x3, S x4, S x5, S x6, S y7, S y8] 27 := Blk.fr (blk_new1 w _ _ _) hs (fun x => x)
         obtain ⟨c0, c1, c2, c3, c4, c5, c6, c7, c8, _⟩ := blk9 bx
         obtain ⟨e0, e1, e2, e3, e4, e5, e6, e7, e8, _⟩ := blk9 by_
         clear bx by_
         clear hs
         go_wp2
         go_ret
         rw [show D = false from HD.out.trans (decide_eq_false HE.out)]
         exact ⟨rfl, HS.out⟩
       ·have HE := Px.hid (show ¬ ((⟨x0, x1, x2, x3, x4, x5, x6, x7, x8⟩ : Env) = ⟨x0, x1, x2, x3, x4, x5, y6, y7, y8⟩) from fun e => h6 (congrArg Env.iv e))
        have b6 : (x6 == y6) = false := by simpa using h6
        go_enter Tryd.func29, Tryd.ntmps29
        go_wp2_with fail
        refine (HQ.out _ (Fr.alloc (Fr.alloc (Fr.refl _ w) _) _)).mono ?_
        rintro e w1 ⟨rfl, hs⟩
        have HS := Px.hid (show Same w w1 from Same.trans (Fr.alloc (Fr.alloc (Fr.refl _ w) _) _) hs)
        have bx : Blk w1 (w.heap.size) #[.int .i64 x0, .int .i64 x1, .slice aa x2.length ac, S x3, S x4, S x5, S x6, S x7, S x8] 27 := Blk.fr (Blk.alloc (blk_new w _ _) _) hs (fun x => x)
        have by_ : Blk w1 (w.heap.size + 1) #[.int .i64 x0, .int .i64 x1, .slice ba x2.length bc, S x3, S x4, S x5, S y6, S y7, S y8] 27 := Blk.fr (blk_new1 w _ _ _) hs (fun x => x)
        obtain ⟨c0, c1, c2, c3, c4, c5, c6, c7, c8, _⟩ := blk9 bx
        obtain ⟨e0, e1, e2, e3, e4, e5, e6, e7, e8, _⟩ := blk9 by_
        clear bx by_
        clear hs
        go_wp2
        go_ret
        rw [show D = false from HD.out.trans (decide_eq_false HE.out)]
        exact ⟨rfl, HS.out⟩
      ·have HE := Px.hid (show ¬ ((⟨x0, x1, x2, x3, x4, x5, x6, x7, x8⟩ : Env) = ⟨x0, x1, x2, x3, x4, y5, y6, y7, y8⟩) from fun e => h5 (congrArg Env.aad e))
       have b5 : (x5 == y5) = false := by simpa using h5
       go_enter Tryd.func29, Tryd.ntmps29
       go_wp2_with fail
       refine (HQ.out _ (Fr.alloc (Fr.alloc (Fr.refl _ w) _) _)).mono ?_
       rintro e w1 ⟨rfl, hs⟩
       have HS := Px.hid (show Same w w1 from Same.trans (Fr.alloc (Fr.alloc (Fr.refl _ w) _) _) hs)
       have bx : Blk w1 (w.heap.size) #[.int .i64 x0, .int .i64 x1, .slice aa x2.length ac, S x3, S x4, S x5, S x6, S x7, S x8] 27 := Blk.fr (Blk.alloc (blk_new w _ _) _) hs (fun x => x)
       have by_ : Blk w1 (w.heap.size + 1) #[.int .i64 x0, .int .i64 x1, .slice ba x2.length bc, S x3, S x4, S y5, S y6, S y7, S y8] 27 := Blk.fr (blk_new1 w _ _ _) hs (fun x => x)
       obtain ⟨c0, c1, c2, c3, c4, c5, c6, c7, c8, _⟩ := blk9 bx
       obtain ⟨e0, e1, e2, e3, e4, e5, e6, e7, e8, _⟩ := blk9 by_
       clear bx by_
       clear hs
       go_wp2
       go_ret
       rw [show D = false from HD.out.trans (decide_eq_false HE.out)]
       exact ⟨rfl, HS.out⟩
     ·have HE := Px.hid (show ¬ ((⟨x0, x1, x2, x3, x4, x5, x6, x7, x8⟩ : Env) = ⟨x0, x1, x2, x3, y4, y5, y6, y7, y8⟩) from fun e => h4 (congrArg Env.loose e))
      have b4 : (x4 == y4) = false := by simpa using h4
      go_enter Tryd.func29, Tryd.ntmps29
      go_wp2_with fail
      refine (HQ.out _ (Fr.alloc (Fr.alloc (Fr.refl _ w) _) _)).mono ?_
      rintro e w1 ⟨rfl, hs⟩
      have HS := Px.hid (show Same w w1 from Same.trans (Fr.alloc (Fr.alloc (Fr.refl _ w) _) _) hs)
      have bx : Blk w1 (w.heap.size) #[.int .i64 x0, .int .i64 x1, .slice aa x2.length ac, S x3, S x4, S x5, S x6, S x7, S x8] 27 := Blk.fr (Blk.alloc (blk_new w _ _) _) hs (fun x => x)
      have by_ : Blk w1 (w.heap.size + 1) #[.int .i64 x0, .int .i64 x1, .slice ba x2.length bc, S x3, S y4, S y5, S y6, S y7, S y8] 27 := Blk.fr (blk_new1 w _ _ _) hs (fun x => x)
      obtain ⟨c0, c1, c2, c3, c4, c5, c6, c7, c8, _⟩ := blk9 bx
      obtain ⟨e0, e1, e2, e3, e4, e5, e6, e7, e8, _⟩ := blk9 by_
      clear bx by_
      clear hs
      go_wp2
      go_ret
      rw [show D = false from HD.out.trans (decide_eq_false HE.out)]
      exact ⟨rfl, HS.out⟩
    ·have HE := Px.hid (show ¬ ((⟨x0, x1, x2, x3, x4, x5, x6, x7, x8⟩ : Env) = ⟨x0, x1, x2, y3, y4, y5, y6, y7, y8⟩) from fun e => h3 (congrArg Env.header e))
     have b3 : (x3 == y3) = false := by simpa using h3
     go_enter Tryd.func29, Tryd.ntmps29
     go_wp2_with fail
     refine (HQ.out _ (Fr.alloc (Fr.alloc (Fr.refl _ w) _) _)).mono ?_
     rintro e w1 ⟨rfl, hs⟩
     have HS := Px.hid (show Same w w1 from Same.trans (Fr.alloc (Fr.alloc (Fr.refl _ w) _) _) hs)
     have bx : Blk w1 (w.heap.size) #[.int .i64 x0, .int .i64 x1, .slice aa x2.length ac, S x3, S x4, S x5, S x6, S x7, S x8] 27 := Blk.fr (Blk.alloc (blk_new w _ _) _) hs (fun x => x)
     have by_ : Blk w1 (w.heap.size + 1) #[.int .i64 x0, .int .i64 x1, .slice ba x2.length bc, S y3, S y4, S y5, S y6, S y7, S y8] 27 := Blk.fr (blk_new1 w _ _ _) hs (fun x => x)
     obtain ⟨c0, c1, c2, c3, c4, c5, c6, c7, c8, _⟩ := blk9 bx
     obtain ⟨e0, e1, e2, e3, e4, e5, e6, e7, e8, _⟩ := blk9 by_
     clear bx by_
     clear hs
     go_wp2
     go_ret
     rw [show D = false from HD.out.trans (decide_eq_false HE.out)]
     exact ⟨rfl, HS.out⟩
   ·have HE := Px.hid (show ¬ ((⟨x0, x1, x2, x3, x4, x5, x6, x7, x8⟩ : Env) = ⟨x0, x1, y2, y3, y4, y5, y6, y7, y8⟩) from fun e => h2 (congrArg Env.«to» e))
    have b2 : decide (x2 = y2) = false := by simpa using h2
    rw [b2] at HQ
    clear b2 h2
    go_enter Tryd.func29, Tryd.ntmps29
    go_wp2_with fail
    refine (HQ.out _ (Fr.alloc (Fr.alloc (Fr.refl _ w) _) _)).mono ?_
    rintro e w1 ⟨rfl, hs⟩
    have HS := Px.hid (show Same w w1 from Same.trans (Fr.alloc (Fr.alloc (Fr.refl _ w) _) _) hs)
    have bx : Blk w1 (w.heap.size) #[.int .i64 x0, .int .i64 x1, .slice aa x2.length ac, S x3, S x4, S x5, S x6, S x7, S x8] 27 := Blk.fr (Blk.alloc (blk_new w _ _) _) hs (fun x => x)
    have by_ : Blk w1 (w.heap.size + 1) #[.int .i64 x0, .int .i64 x1, .slice ba y2.length bc, S y3, S y4, S y5, S y6, S y7, S y8] 27 := Blk.fr (blk_new1 w _ _ _) hs (fun x => x)
    obtain ⟨c0, c1, c2, c3, c4, c5, c6, c7, c8, _⟩ := blk9 bx
    obtain ⟨e0, e1, e2, e3, e4, e5, e6, e7, e8, _⟩ := blk9 by_
    clear bx by_
    clear hs
    go_wp2
    go_ret
    rw [show D = false from HD.out.trans (decide_eq_false HE.out)]
    exact ⟨rfl, HS.out⟩
  ·have HE := Px.hid (show ¬ ((⟨x0, x1, x2, x3, x4, x5, x6, x7, x8⟩ : Env) = ⟨x0, y1, y2, y3, y4, y5, y6, y7, y8⟩) from fun e => h1 (congrArg Env.alg e))
   have b1 : (x1 == y1) = false := by simpa using h1
   go_enter Tryd.func29, Tryd.ntmps29
   go_wp2
   go_ret
   rw [show D = false from HD.out.trans (decide_eq_false HE.out)]
   exact ⟨rfl, Fr.alloc (Fr.alloc (Fr.refl _ w) _) _⟩
 ·have HE := Px.hid (show ¬ ((⟨x0, x1, x2, x3, x4, x5, x6, x7, x8⟩ : Env) = ⟨y0, y1, y2, y3, y4, y5, y6, y7, y8⟩) from fun e => h0 (congrArg Env.fmt e))
  have b0 : (x0 == y0) = false := by simpa using h0
  go_enter Tryd.func29, Tryd.ntmps29
  go_wp2
  go_ret
  rw [show D = false from HD.out.trans (decide_eq_false HE.out)]
  exact ⟨rfl, Fr.alloc (Fr.alloc (Fr.refl _ w) _) _⟩
end Go.Proofs.YtddiabaagpmkgaaDoor

/-! The walks over cose.most, cose.octets, and cose.Tell's list. -/
namespace Go.Proofs.YtddiabaagpmkgaaDoor
open Go.RowKit Go.Px Go.Px.E7 Go.Px.Co
theorem cmost_any (w : World) : Calls Tryd.prog 26 #[] w fun e w' => e = .returned (limV Co.most) ∧ Same w w' := by
 go_enter Tryd.func26, Tryd.ntmps26
 go_wp2
 exact bodyPost_ret (v := limV Co.most) (by simp [results, Tryd.results26, go_sem, limV, Co.most]) rfl ⟨rfl, (Fr.refl _ w).alloc _⟩
theorem octets_any (s : Bytes) (w : World) : Calls Tryd.prog 27 #[S s] w fun e w' => e = .returned (.agg #[.int .i64 2, .int .u64 0, S s]) ∧ Same w w' := by
 go_enter Tryd.func27, Tryd.ntmps27
 go_wp2
 exact bodyPost_ret (v := .agg #[.int .i64 2, .int .u64 0, S s]) (by simp [results, Tryd.results27, go_sem]) rfl ⟨rfl, (Fr.refl _ w).alloc _⟩
end Go.Proofs.YtddiabaagpmkgaaDoor

/-! The walk over cose.Tell. -/
namespace Go.Px.Co
theorem ite_to {p : Prop} [Decidable p] {e : Int} {r : Env × Int} (hr : r.1.to.length ≤ 1) : (if p then (zero, e) else r).1.to.length ≤ 1 := by
 by_cases h : p
 ·rw [if_pos h]
  show ([] : List Rec).length ≤ 1
  decide
 ·rw [if_neg h]
  exact hr
theorem last_to (mac : Bool) (hd lo ci tg : Bytes) (h : Hdr) : (last mac hd lo ci tg h).1.to.length ≤ 1 := by
 rw [last_out]
 cases nameM mac h with
 | bad e => show ([] : List Rec).length ≤ 1; decide
 | ok r nm iv =>
  show (lastM mac hd lo ci tg r nm iv).1.to.length ≤ 1
  unfold lastM
  cases mac with
  | true =>
   rw [if_pos rfl]
   exact ite_to (ite_to (Nat.le_refl 1))
  | false =>
   rw [if_neg (by decide)]
   exact ite_to (ite_to (Nat.le_refl 1))
theorem read_to (s : Bytes) (lim : Lim) : (read s lim).1.to.length ≤ 1 := by
 unfold read
 refine ite_to ?_
 unfold readL
 refine ite_to (ite_to ?_)
 dsimp only
 refine ite_to (ite_to (ite_to ?_))
 unfold readB
 refine ite_to ?_
 dsimp only
 exact ite_to (ite_to (ite_to (ite_to (last_to _ _ _ _ _ _))))
end Go.Px.Co
namespace Go.Proofs.YtddiabaagpmkgaaDoor
open Go.RowKit Go.Px Go.Px.E7 Go.Px.Co
theorem enc_small {l : List Atom} (h : E7.Wf l) : (E7.encode l).1.length ≤ 262144 := by
 have he := E7.encode_enc l h
 generalize E7.encode l = r at he
 cases he with
 | ok _ _ _ _ _ _ h => exact h
 | _ => simp
theorem ownsRow_same {w w' : World} {T sz : Nat} {v : Value} {n : Nat} {xs : List Value} (h : w.ownsRow 0 T sz v n xs) (hs : Same w w') : w'.ownsRow 0 T sz v n xs :=
 ⟨h.1, by
  rcases h.2 with e | ⟨g, cap, cur, hv, h0, hg, rest⟩
  ·exact .inl e
  ·exact .inr ⟨g, cap, cur, hv, h0, (hs.block g (ltOf hg) (fun x => x)).trans hg, rest⟩⟩
theorem src_block {w : World} {g : Nat} {cs : List Value} (h : w.heap[g]? = some (.cells cs.toArray 62 (0, 0))) (h1 : ∀ u ∈ cs, u.oneCell' = true) {n : Nat} (hn : cs.length = n * 3 := by rfl) : Src Tryd.prog 3 50 (.slice (some ⟨g, 0, none⟩) n n) n cs w :=
 Src.ofSlice w Tryd.underlying50 ⟨g, 0, none⟩ n n cs hn (World.news_of_block (cs := cs.toArray) (t := 62) (fr := (0, 0)) h) h1
set_option maxRecDepth 100000 in
set_option maxHeartbeats 20000000 in
theorem ctell_any (x : Env) (vto : Value) (w : World) (hto : Lies w 9 cRec vto x.to) (htl : x.to.length ≤ 140737488351232) (h1 : x.header.length ≤ 140737488351232) (h2 : x.loose.length ≤ 140737488351232) (h3 : x.cipher.length ≤ 140737488351232) (h4 : x.tag.length ≤ 140737488351232) (hT : Tabs w) :
  Calls Tryd.prog 13 #[.agg (envC x vto)] w fun e w' => e = .returned (.tuple #[S (tellP x).1, .int .i64 (tellP x).2]) ∧ Same w w' := by
 have HTO := Px.hid (And.intro hto (And.intro htl hT))
 have HB := Px.hid (And.intro h1 (And.intro h2 (And.intro h3 h4)))
 obtain ⟨ta, tc, rfl, _, _⟩ := hto.slice
 have HD := Px.hid (show ∀ W, Same w W → Calls Tryd.prog 22 #[S x.loose, limV Co.most] W (Gives W (R7.decode x.loose Co.most)) from fun W hW => decode_any x.loose Co.most (by omega) W (hT.same hW))
 have HDD := Px.hid (fun h : (R7.decode x.loose Co.most).2.2 = 0 => (dec_of h).1)
 have HP := Px.hid (show tellP x = if (R7.decode x.loose Co.most).2.2 ≠ 0 ∨ ((R7.decode x.loose Co.most).1.getD 0 za).kind ≠ 5 then ([], 2) else if (E7.encode (listOf x (R7.decode x.loose Co.most).1)).2 ≠ 0 then ([], 2) else if (Co.read (E7.encode (listOf x (R7.decode x.loose Co.most).1)).1 Co.most).2 ≠ 0 ∨ x ≠ (Co.read (E7.encode (listOf x (R7.decode x.loose Co.most).1)).1 Co.most).1 then ([], 2) else ((E7.encode (listOf x (R7.decode x.loose Co.most).1)).1, 0) from rfl)
 clear hto htl h1 h2 h3 h4 hT
 have HX := Px.hid (show Blk (w.alloc (.cells (envC x (.slice ta x.to.length tc)) 27)) w.heap.size (envC x (.slice ta x.to.length tc)) 27 from blk_new w _ _)
 unfold envC
 go_enter Tryd.func13, Tryd.ntmps13
 go_upto_region 1 with fail
 obtain ⟨d, hd⟩ : ∃ d, d = R7.decode x.loose Co.most := ⟨_, rfl⟩
 rw [← hd] at HP HDD HD
 clear hd
 go_cut [4, 6] (fun t4 t6 wx => ∃ a c, t4 = .slice a d.1.length c ∧ t6 = .int .i64 d.2.2 ∧ Owns wx 62 3 cAtom t4 d.1 ∧ Same w wx ∧ Blk wx w.heap.size (envC x (.slice ta x.to.length tc)) 27)
 case first =>
  obtain ⟨c0, c1, c2, c3, c4, c5, c6, c7, c8, _⟩ := blk9 HX.out
  go_region_with (first
   | (go_at_call 26; refine (cmost_any _).mono ?_; rintro e wm ⟨rfl, hsm⟩; have HSM := Px.hid hsm; have z4 := (HX.out.fr (Same.trans (Fr.drew (Fr.refl _ _)) hsm) (fun x => x)).cell 4 (v := S x.loose) rfl; clear hsm)
   | (go_at_call 22; refine (HD.out _ (Same.trans (Fr.drew (Fr.alloc (Fr.refl _ w) _)) HSM.out)).mono ?_; intro e wa hg; obtain ⟨va, vc, rfl, ho, hs⟩ := hg.len; have HG := Px.hid (And.intro hg (And.intro ho hs)); clear hg ho hs))
  all_goals
   go_wp2_with fail
   go_meet
   exact ⟨va, vc, rfl, rfl, HG.out.2.1, Same.trans (Fr.drew (Fr.alloc (Fr.refl _ w) _)) (HSM.out.trans HG.out.2.2), (Blk.drew HX.out).fr (HSM.out.trans HG.out.2.2) (fun x => x)⟩
 case rest =>
  obtain ⟨a, c, rfl, rfl, ho, hs, hx⟩ := hcut
  have HO := Px.hid (And.intro ho (And.intro hs hx))
  clear ho hs hx HX HD
  obtain ⟨m, pl, er⟩ := d
  simp only at HP HDD HO ⊢
  by_cases he : er = 0
  ·subst he
   have hD := HDD.out rfl
   have hpos := hD.pos
   have hlen := hD.len
   have hg0 : m.getD 0 za = m[0] := getD_eq hpos
   obtain ⟨xb, xo, xc, hve, hxb, _⟩ := (HO.out.1.lies cAtom_len).cell 0 m[0] (by rw [List.getElem?_eq_getElem hpos])
   simp only [Value.slice.injEq, true_and] at hve
   obtain ⟨rfl, rfl⟩ := hve
   obtain ⟨y0, y1, y2⟩ := lies_atom (HO.out.1.lies cAtom_len) 0 hpos
   rw [Nat.zero_mul, Nat.add_zero] at y0 y1 y2
   obtain ⟨a0, ha0⟩ : ∃ a0, a0 = m[0] := ⟨_, rfl⟩
   rw [← ha0] at y0 y1 y2 hg0
   rw [hg0] at HP
   have HDm := Px.hid hD
   have hposz : (0 : Int) < (m.length : Int) := by omega
   clear ha0 hg0 hD HDD
   by_cases hk5 : a0.kind = 5
   ·have HP : Hid (tellP x = if (E7.encode (listOf x m)).2 ≠ 0 then ([], 2) else if (Co.read (E7.encode (listOf x m)).1 Co.most).2 ≠ 0 ∨ x ≠ (Co.read (E7.encode (listOf x m)).1 Co.most).1 then ([], 2) else ((E7.encode (listOf x m)).1, 0)) := Px.hid (by
     rw [HP.out, if_neg (by rintro (e | e); exact e rfl; exact e hk5)])
    rw [hk5] at y0
    clear hk5
    obtain ⟨c0, c1, c2, c3, c4, c5, c6, c7, c8, _⟩ := blk9 (show Blk wc w.heap.size #[.int .i64 x.fmt, .int .i64 x.alg, .slice ta x.to.length tc, S x.header, S x.loose, S x.aad, S x.iv, S x.cipher, S x.tag] 27 from HO.out.2.2)
    have hwl := HO.out.2.2.lt
    go_wp2_with fail
    refine (octets_any x.header _).mono ?_
    rintro e w2 ⟨rfl, hs⟩
    have HS2 := Px.hid hs
    obtain ⟨LL, hLL⟩ : ∃ LL, LL = listOf x m := ⟨_, rfl⟩
    rw [← hLL] at HP
    have HLL := Px.hid hLL
    have e0 : w2.cell? ⟨w.heap.size, 0, none⟩ = some (.int .i64 x.fmt) := (HO.out.2.2.fr hs (fun x => x)).cell 0 rfl
    have hwl2 : w.heap.size < w2.heap.size := (HO.out.2.2.fr hs (fun x => x)).lt
    have e7 : w2.cell? ⟨w.heap.size, 7, none⟩ = some (S x.cipher) := (HO.out.2.2.fr hs (fun x => x)).cell 7 rfl
    have e8 : w2.cell? ⟨w.heap.size, 8, none⟩ = some (S x.tag) := (HO.out.2.2.fr hs (fun x => x)).cell 8 rfl
    obtain ⟨i0, hi0, hz0, hz1, hz2⟩ := info_parts Tryd.infoAtom
    clear hLL hs y0 y1 y2 c0 c1 c2 c3 c4 c5 c6 c7 c8
    go_upto_if 35 with fail
    go_cut [7] (fun t7 wx => ∃ a c, t7 = .slice a LL.length c ∧ Owns wx 62 3 cAtom t7 LL ∧ Same w wx ∧ Blk wx w.heap.size (envC x (.slice ta x.to.length tc)) 27)
    case first =>
     by_cases hf6 : x.fmt = 6
     ·--F6
      have HF := Px.hid (show LL = (⟨6, 17, []⟩ :: ⟨4, 4, []⟩ :: octets x.header :: m) ++ [octets x.cipher, octets x.tag] by rw [HLL.out]; unfold listOf; rw [if_pos hf6]; rfl)
      have hfz : (x.fmt == 6) = true := by simpa using hf6
      clear hf6 e0
      go_upto_region 7 with fail
      obtain ⟨wq, hwq⟩ : ∃ wq : World, wq = w2.alloc (.cells #[.int .i64 6, .int .u64 17, S [], .int .i64 4, .int .u64 4, S [], .int .i64 2, .int .u64 0, S x.header] 62) := ⟨_, rfl⟩
      rw [← hwq]
      have HQS := Px.hid (show Same w wq by rw [hwq]; exact Fr.alloc (HO.out.2.1.trans HS2.out) _)
      have HCQ := Px.hid (show Same wc wq by rw [hwq]; exact Fr.alloc HS2.out _)
      have hb7 : wq.ownsRow 0 62 3 (.slice (some ⟨w2.heap.size, 0, none⟩) 3 3) 3 [.int .i64 6, .int .u64 17, S [], .int .i64 4, .int .u64 4, S [], .int .i64 2, .int .u64 0, S x.header] := by
       rw [hwq]
       exact ⟨rfl, .inr ⟨w2.heap.size, 3, _, rfl, Nat.zero_le _, heap_alloc_new w2 _, Nat.le_refl _, by decide, rfl, rfl⟩⟩
      have H7 := Px.hid (show ∀ W, Same wq W → W.ownsRow 0 62 3 (.slice (some ⟨w2.heap.size, 0, none⟩) 3 3) 3 [.int .i64 6, .int .u64 17, S [], .int .i64 4, .int .u64 4, S [], .int .i64 2, .int .u64 0, S x.header] from fun W hW => ⟨hb7.1, by
       rcases hb7.2 with ⟨e, _⟩ | ⟨g, cap, cur, hv, h0, hg, rest⟩
       ·cases e
       ·exact .inr ⟨g, cap, cur, hv, h0, (hW.block g (ltOf hg) (fun x => x)).trans hg, rest⟩⟩)
      have HMs := Px.hid (show ∀ W, Same wq W → Src Tryd.prog 3 50 (.slice (some ⟨xb, xo, none⟩) m.length c) m.length (m.flatMap cAtom) W from fun W hW => (Lies.same (HO.out.1.lies cAtom_len) (HCQ.out.trans hW)).src cAtom_len (by omega) Tryd.underlying50 (atom_one m))
      have q7 : wq.cell? ⟨w.heap.size, 7, none⟩ = some (S x.cipher) := by rw [hwq]; exact cell_alloc e7
      have q8 : wq.cell? ⟨w.heap.size, 8, none⟩ = some (S x.tag) := by rw [hwq]; exact cell_alloc e8
      have hql : w.heap.size < wq.heap.size := World.block_lt_of_cell? wq _ q7
      have h2q : w2.heap.size < wq.heap.size := by rw [hwq]; simp
      have hne7 : ¬ w2.heap.size = w.heap.size := by omega
      clear hwq hb7 e7 e8
      obtain ⟨SS, hSS⟩ : ∃ SS : World → Prop, SS = (fun W : World => W.cell? ⟨w.heap.size, 7, none⟩ = some (S x.cipher) ∧ W.cell? ⟨w.heap.size, 8, none⟩ = some (S x.tag)) := ⟨_, rfl⟩
      have hS0 : SS wq.drew := by rw [hSS]; exact ⟨q7, q8⟩
      refine wp_region_held_drew (S := SS) (by kernel_rfl) hS0 (fun hHeld => ?_)
      refine wpAnyH_take (i := 0) (v := ?_) rfl (by kernel_rfl) (by kernel_rfl) (by kernel_rfl) (fun _ _ _ h => h) (Or.inl ⟨by rfl, ?_⟩) (by assumption) ?_
      rotate_left
      ·intro w hw
       rw [hSS] at hw
       obtain ⟨q7, q8⟩ := hw
       go_simp
       try (with_reducible rfl)
      change wpAnyH _ _ _ _ _ _ _ (Act.put _ (some 42) _) _
      simp only [Act.put, List.setIfInBounds_toArray, List.set_cons_zero, List.set_cons_succ]
      refine wpAnyH_take (i := 1) (v := ?_) rfl (by kernel_rfl) (by kernel_rfl) (by kernel_rfl) (fun _ _ _ h => h) (Or.inl ⟨by rfl, ?_⟩) (by assumption) ?_
      rotate_left
      ·intro w hw
       rw [hSS] at hw
       obtain ⟨q7, q8⟩ := hw
       go_simp
       try (with_reducible rfl)
      change wpAnyH _ _ _ _ _ _ _ (Act.put _ (some 43) _) _
      simp only [Act.put, List.setIfInBounds_toArray, List.set_cons_zero, List.set_cons_succ]
      refine wpAnyH_take (i := 3) (v := ?_) rfl (by kernel_rfl) (by kernel_rfl) (by kernel_rfl) (fun _ _ _ h => h) (Or.inl ⟨by rfl, ?_⟩) (by assumption) ?_
      rotate_left
      ·intro w hw
       rw [hSS] at hw
       obtain ⟨q7, q8⟩ := hw
       go_simp
       try (with_reducible rfl)
      change wpAnyH _ _ _ _ _ _ _ (Act.put _ (some 45) _) _
      simp only [Act.put, List.setIfInBounds_toArray, List.set_cons_zero, List.set_cons_succ]
      refine wpAnyH_take (i := 4) (v := ?_) rfl (by kernel_rfl) (by kernel_rfl) (by kernel_rfl) (fun _ _ _ h => h) (Or.inl ⟨by rfl, ?_⟩) (by assumption) ?_
      rotate_left
      ·intro w hw
       rw [hSS] at hw
       obtain ⟨q7, q8⟩ := hw
       go_simp
       try (with_reducible rfl)
      change wpAnyH _ _ _ _ _ _ _ (Act.put _ (some 46) _) _
      simp only [Act.put, List.setIfInBounds_toArray, List.set_cons_zero, List.set_cons_succ]
      refine wpAnyH_take (i := 6) (v := ?_) rfl (by kernel_rfl) (by kernel_rfl) (by kernel_rfl) (fun _ _ _ h => h) (Or.inl ⟨by rfl, ?_⟩) (by assumption) ?_
      rotate_left
      ·intro w hw
       rw [hSS] at hw
       obtain ⟨q7, q8⟩ := hw
       go_simp
       try (with_reducible rfl)
      change wpAnyH _ _ _ _ _ _ _ (Act.put _ (some 48) _) _
      simp only [Act.put, List.setIfInBounds_toArray, List.set_cons_zero, List.set_cons_succ]
      refine wpAnyH_take (i := 7) (v := ?_) rfl (by kernel_rfl) (by kernel_rfl) (by kernel_rfl) (fun _ _ _ h => h) (Or.inl ⟨by rfl, ?_⟩) (by assumption) ?_
      rotate_left
      ·intro w hw
       rw [hSS] at hw
       obtain ⟨q7, q8⟩ := hw
       go_simp
       try (with_reducible rfl)
      change wpAnyH _ _ _ _ _ _ _ (Act.put _ (some 49) _) _
      simp only [Act.put, List.setIfInBounds_toArray, List.set_cons_zero, List.set_cons_succ]
      clear hHeld
      refine wpAnyH_ready (rs := [2]) (by kernel_rfl) (by simp) ?_
      refine AllReadyH.cons rfl (fun K hK => ?_) AllReadyH.nil
      refine step_append_all (by rfl) _ _ _ _ (by rfl) 62 i0 _ 3 32 Tryd.underlying50 hi0 hz0 hz1 hz2 rfl (.slice (some ⟨w2.heap.size, 0, none⟩) 3 3) 3 [.int .i64 6, .int .u64 17, S [], .int .i64 4, .int .u64 4, S [], .int .i64 2, .int .u64 0, S x.header] (by rfl) (H7.out _ (Fr.drew (Fr.refl _ _))) (.slice (some ⟨xb, xo, none⟩) m.length c) m.length (m.flatMap cAtom) (by rfl) (HMs.out _ (Fr.drew (Fr.refl _ _))) (by unfold maxLen; omega) (by omega) ?_
      intro gb gc wA hownA hgrowA hatA
      refine Shut.out hK _ _ ?_ (fun hHeld => ?_)
      ·rw [hSS]
       exact ⟨(hgrowA.cell_far _ (by simp; omega) (by simp [Value.ownBlock]; omega)).trans q7, (hgrowA.cell_far _ (by simp; omega) (by simp [Value.ownBlock]; omega)).trans q8⟩
      clear hK K
      refine wpAnyH_ready (rs := [5]) (by kernel_rfl) (by simp) ?_
      refine AllReadyH.cons rfl (fun K hK => ?_) AllReadyH.nil
      go_simp
      refine (octets_any x.cipher _).mono ?_
      rintro e w5 ⟨rfl, hs5⟩
      refine Shut.out hK _ _ ?_ (fun hHeld => ?_)
      ·rw [hSS]
       have hh := hHeld
       rw [hSS] at hh
       exact ⟨(hs5.cell (p := ⟨w.heap.size, 7, none⟩) (World.block_lt_of_cell? _ _ hh.1) (fun x => x)).trans hh.1, (hs5.cell (p := ⟨w.heap.size, 8, none⟩) (World.block_lt_of_cell? _ _ hh.2) (fun x => x)).trans hh.2⟩
      clear hK K
      refine wpAnyH_ready (rs := [8]) (by kernel_rfl) (by simp) ?_
      refine AllReadyH.cons rfl (fun K hK => ?_) AllReadyH.nil
      go_simp
      refine (octets_any x.tag _).mono ?_
      rintro e wo ⟨rfl, hs6⟩
      refine Shut.out hK _ _ ?_ (fun hHeld => ?_)
      ·rw [hSS]
       have hh := hHeld
       rw [hSS] at hh
       exact ⟨(hs6.cell (p := ⟨w.heap.size, 7, none⟩) (World.block_lt_of_cell? _ _ hh.1) (fun x => x)).trans hh.1, (hs6.cell (p := ⟨w.heap.size, 8, none⟩) (World.block_lt_of_cell? _ _ hh.2) (fun x => x)).trans hh.2⟩
      clear hK K
      have hso := hs5.trans hs6
      refine wpAnyH_ready (rs := [9]) (by kernel_rfl) (by simp) ?_
      refine AllReadyH.cons rfl (fun K hK => ?_) AllReadyH.nil
      go_simp
      refine Shut.out hK _ _ ?_ (fun hHeld => ?_)
      ·rw [hSS]
       have hh := hHeld
       rw [hSS] at hh
       exact ⟨cell_alloc hh.1, cell_alloc hh.2⟩
      clear hK K
      have hownO : wo.ownsRow 0 62 3 (.slice gb (3 + m.length) gc) (3 + m.length) ([.int .i64 6, .int .u64 17, S [], .int .i64 4, .int .u64 4, S [], .int .i64 2, .int .u64 0, S x.header] ++ m.flatMap cAtom) := ownsRow_same hownA hso
      refine wpAnyH_ready (rs := [10]) (by kernel_rfl) (by simp) ?_
      refine AllReadyH.cons rfl (fun K hK => ?_) AllReadyH.nil
      refine step_append_all (by rfl) _ _ _ _ (by rfl) 62 i0 _ 3 32 Tryd.underlying50 hi0 hz0 hz1 hz2 rfl (.slice gb (3 + m.length) gc) (3 + m.length) ([.int .i64 6, .int .u64 17, S [], .int .i64 4, .int .u64 4, S [], .int .i64 2, .int .u64 0, S x.header] ++ m.flatMap cAtom) (by rfl) (World.ownsRow.alloc hownO _) (.slice (some ⟨wo.heap.size, 0, none⟩) 2 2) 2 [.int .i64 2, .int .u64 0, S x.cipher, .int .i64 2, .int .u64 0, S x.tag] (by rfl) (src_block (heap_alloc_new wo _) (by simp [Value.oneCell'])) (by unfold maxLen; omega) (by omega) ?_
      intro gd ge wB hownB hgrowB hatB
      refine Shut.out hK _ _ ?_ (fun hHeld => ?_)
      ·rw [hSS]
       have hh := hHeld
       rw [hSS] at hh
       have hnn : (Value.slice gb (3 + m.length) gc).ownBlock ≠ some w.heap.size := fun e => by rcases hatA _ e with z | z <;> (simp [Value.ownBlock] at z; omega)
       exact ⟨(hgrowB.cell_far _ (World.block_lt_of_cell? _ _ hh.1) (Ne.symm hnn)).trans hh.1, (hgrowB.cell_far _ (World.block_lt_of_cell? _ _ hh.2) (Ne.symm hnn)).trans hh.2⟩
      clear hK K
      refine wpAnyH_ready (rs := [11]) (by kernel_rfl) (by simp) ?_
      refine AllReadyH.cons rfl (fun K hK => ?_) AllReadyH.nil
      go_simp
      refine Shut.out hK _ _ ?_ (fun hHeld => ?_)
      ·rw [hSS]
       rw [hSS] at hHeld
       exact hHeld
      clear hK K
      refine wpAnyH_done (by kernel_rfl) ?_ _
      go_wp2_with fail
      go_meet
      have chain : ∀ w0, Same w0 wq → w0.heap.size ≤ w2.heap.size → Same w0 wB := fun w0 h0 hle => by
       have S1 : Same w0 wA := Fr.grown (Fr.drew h0) hgrowA (fun k e => .inr (by simp [Value.ownBlock] at e; omega))
       exact Fr.grown (Fr.alloc (S1.trans hso) _) hgrowB (fun k e => .inr (by rcases hatA k e with z | z <;> simp [Value.ownBlock] at z <;> omega))
      have hll : LL.length = 3 + m.length + 2 := by rw [HF.out]; simp; omega
      refine ⟨gd, ge, by rw [hll], ?_, chain w HQS.out (Nat.le_of_lt hwl2), HO.out.2.2.fr (chain wc HCQ.out HS2.out.size) (fun x => x)⟩
      unfold Owns
      rw [hll, show LL.flatMap cAtom = [.int .i64 6, .int .u64 17, S [], .int .i64 4, .int .u64 4, S [], .int .i64 2, .int .u64 0, S x.header] ++ m.flatMap cAtom ++ [.int .i64 2, .int .u64 0, S x.cipher, .int .i64 2, .int .u64 0, S x.tag] by rw [HF.out]; simp [cAtom, octets]]
      exact hownB
     ·have hfz : ¬ x.fmt = 6 := hf6
      have HF := Px.hid (show LL = (⟨6, 16, []⟩ :: ⟨4, 3, []⟩ :: octets x.header :: m) ++ [octets (x.cipher ++ x.tag)] by rw [HLL.out]; unfold listOf; rw [if_neg hf6]; rfl)
      clear hf6
      go_upto_region 8 with fail
      obtain ⟨wq, hwq⟩ : ∃ wq : World, wq = w2.alloc (.cells #[.int .i64 6, .int .u64 16, S [], .int .i64 4, .int .u64 3, S [], .int .i64 2, .int .u64 0, S x.header] 62) := ⟨_, rfl⟩
      rw [← hwq]
      have HQS := Px.hid (show Same w wq by rw [hwq]; exact Fr.alloc (HO.out.2.1.trans HS2.out) _)
      have HCQ := Px.hid (show Same wc wq by rw [hwq]; exact Fr.alloc HS2.out _)
      have hb7 : wq.ownsRow 0 62 3 (.slice (some ⟨w2.heap.size, 0, none⟩) 3 3) 3 [.int .i64 6, .int .u64 16, S [], .int .i64 4, .int .u64 3, S [], .int .i64 2, .int .u64 0, S x.header] := by
       rw [hwq]
       exact ⟨rfl, .inr ⟨w2.heap.size, 3, _, rfl, Nat.zero_le _, heap_alloc_new w2 _, Nat.le_refl _, by decide, rfl, rfl⟩⟩
      have H7 := Px.hid (show ∀ W, Same wq W → W.ownsRow 0 62 3 (.slice (some ⟨w2.heap.size, 0, none⟩) 3 3) 3 [.int .i64 6, .int .u64 16, S [], .int .i64 4, .int .u64 3, S [], .int .i64 2, .int .u64 0, S x.header] from fun W hW => ⟨hb7.1, by
       rcases hb7.2 with ⟨e, _⟩ | ⟨g, cap, cur, hv, h0, hg, rest⟩
       ·cases e
       ·exact .inr ⟨g, cap, cur, hv, h0, (hW.block g (ltOf hg) (fun x => x)).trans hg, rest⟩⟩)
      have HMs := Px.hid (show ∀ W, Same wq W → Src Tryd.prog 3 50 (.slice (some ⟨xb, xo, none⟩) m.length c) m.length (m.flatMap cAtom) W from fun W hW => (Lies.same (HO.out.1.lies cAtom_len) (HCQ.out.trans hW)).src cAtom_len (by omega) Tryd.underlying50 (atom_one m))
      have q7 : wq.cell? ⟨w.heap.size, 7, none⟩ = some (S x.cipher) := by rw [hwq]; exact cell_alloc e7
      have q8 : wq.cell? ⟨w.heap.size, 8, none⟩ = some (S x.tag) := by rw [hwq]; exact cell_alloc e8
      have hql : w.heap.size < wq.heap.size := World.block_lt_of_cell? wq _ q7
      have h2q : w2.heap.size < wq.heap.size := by rw [hwq]; simp
      have hne7 : ¬ w2.heap.size = w.heap.size := by omega
      have hsum : ¬ 9223372036854775807 < x.cipher.length + x.tag.length := by have := HB.out; omega
      clear hwq hb7 e0 e7 e8
      --R8
      obtain ⟨SS, hSS⟩ : ∃ SS : World → Prop, SS = (fun W : World => W.cell? ⟨w.heap.size, 7, none⟩ = some (S x.cipher) ∧ W.cell? ⟨w.heap.size, 8, none⟩ = some (S x.tag)) := ⟨_, rfl⟩
      have hS0 : SS wq.drew := by rw [hSS]; exact ⟨q7, q8⟩
      refine wp_region_held_drew (S := SS) (by kernel_rfl) hS0 (fun hHeld => ?_)
      refine wpAnyH_take (i := 0) (v := ?_) rfl (by kernel_rfl) (by kernel_rfl) (by kernel_rfl) (fun _ _ _ h => h) (Or.inl ⟨by rfl, ?_⟩) (by assumption) ?_
      rotate_left
      ·intro w hw
       rw [hSS] at hw
       obtain ⟨q7, q8⟩ := hw
       go_simp
       try (with_reducible rfl)
      change wpAnyH _ _ _ _ _ _ _ (Act.put _ (some 53) _) _
      simp only [Act.put, List.setIfInBounds_toArray, List.set_cons_zero, List.set_cons_succ]
      refine wpAnyH_take (i := 1) (v := ?_) rfl (by kernel_rfl) (by kernel_rfl) (by kernel_rfl) (fun _ _ _ h => h) (Or.inl ⟨by rfl, ?_⟩) (by assumption) ?_
      rotate_left
      ·intro w hw
       rw [hSS] at hw
       obtain ⟨q7, q8⟩ := hw
       go_simp
       try (with_reducible rfl)
      change wpAnyH _ _ _ _ _ _ _ (Act.put _ (some 54) _) _
      simp only [Act.put, List.setIfInBounds_toArray, List.set_cons_zero, List.set_cons_succ]
      refine wpAnyH_take (i := 3) (v := ?_) rfl (by kernel_rfl) (by kernel_rfl) (by kernel_rfl) (fun _ _ _ h => h) (Or.inl ⟨by rfl, ?_⟩) (by assumption) ?_
      rotate_left
      ·intro w hw
       rw [hSS] at hw
       obtain ⟨q7, q8⟩ := hw
       go_simp
       try (with_reducible rfl)
      change wpAnyH _ _ _ _ _ _ _ (Act.put _ (some 56) _) _
      simp only [Act.put, List.setIfInBounds_toArray, List.set_cons_zero, List.set_cons_succ]
      refine wpAnyH_take (i := 4) (v := ?_) rfl (by kernel_rfl) (by kernel_rfl) (by kernel_rfl) (fun _ _ _ h => h) (Or.inl ⟨by rfl, ?_⟩) (by assumption) ?_
      rotate_left
      ·intro w hw
       rw [hSS] at hw
       obtain ⟨q7, q8⟩ := hw
       go_simp
       try (with_reducible rfl)
      change wpAnyH _ _ _ _ _ _ _ (Act.put _ (some 57) _) _
      simp only [Act.put, List.setIfInBounds_toArray, List.set_cons_zero, List.set_cons_succ]
      refine wpAnyH_take (i := 5) (v := ?_) rfl (by kernel_rfl) (by kernel_rfl) (by kernel_rfl) (fun _ _ _ h => h) (Or.inl ⟨by rfl, ?_⟩) (by assumption) ?_
      rotate_left
      ·intro w hw
       rw [hSS] at hw
       obtain ⟨q7, q8⟩ := hw
       go_simp
       try (with_reducible rfl)
      change wpAnyH _ _ _ _ _ _ _ (Act.put _ (some 58) _) _
      simp only [Act.put, List.setIfInBounds_toArray, List.set_cons_zero, List.set_cons_succ]
      refine wpAnyH_take (i := 6) (v := ?_) rfl (by kernel_rfl) (by kernel_rfl) (by kernel_rfl) (fun _ _ _ h => h) (Or.inl ⟨by rfl, ?_⟩) (by assumption) ?_
      rotate_left
      ·intro w hw
       rw [hSS] at hw
       obtain ⟨q7, q8⟩ := hw
       go_simp
       try (with_reducible rfl)
      change wpAnyH _ _ _ _ _ _ _ (Act.put _ (some 59) _) _
      simp only [Act.put, List.setIfInBounds_toArray, List.set_cons_zero, List.set_cons_succ]
      refine wpAnyH_take (i := 7) (v := ?_) rfl (by kernel_rfl) (by kernel_rfl) (by kernel_rfl) (fun _ _ _ h => h) (Or.inl ⟨by rfl, ?_⟩) (by assumption) ?_
      rotate_left
      ·intro w hw
       rw [hSS] at hw
       obtain ⟨q7, q8⟩ := hw
       go_simp
       try (with_reducible rfl)
      change wpAnyH _ _ _ _ _ _ _ (Act.put _ (some 60) _) _
      simp only [Act.put, List.setIfInBounds_toArray, List.set_cons_zero, List.set_cons_succ]
      clear hHeld
      refine wpAnyH_ready (rs := [2]) (by kernel_rfl) (by simp) ?_
      refine AllReadyH.cons rfl (fun K hK => ?_) AllReadyH.nil
      refine step_append_all (by rfl) _ _ _ _ (by rfl) 62 i0 _ 3 32 Tryd.underlying50 hi0 hz0 hz1 hz2 rfl (.slice (some ⟨w2.heap.size, 0, none⟩) 3 3) 3 [.int .i64 6, .int .u64 16, S [], .int .i64 4, .int .u64 3, S [], .int .i64 2, .int .u64 0, S x.header] (by rfl) (H7.out _ (Fr.drew (Fr.refl _ _))) (.slice (some ⟨xb, xo, none⟩) m.length c) m.length (m.flatMap cAtom) (by rfl) (HMs.out _ (Fr.drew (Fr.refl _ _))) (by unfold maxLen; omega) (by omega) ?_
      intro gb gc wA hownA hgrowA hatA
      refine Shut.out hK _ _ ?_ (fun hHeld => ?_)
      ·rw [hSS]
       exact ⟨(hgrowA.cell_far _ (by simp; omega) (by simp [Value.ownBlock]; omega)).trans q7, (hgrowA.cell_far _ (by simp; omega) (by simp [Value.ownBlock]; omega)).trans q8⟩
      clear hK K
      refine wpAnyH_ready (rs := [8]) (by kernel_rfl) (by simp) ?_
      refine AllReadyH.cons rfl (fun K hK => ?_) AllReadyH.nil
      go_simp
      refine (octets_any (x.cipher ++ x.tag) _).mono ?_
      rintro e wo ⟨rfl, hso⟩
      refine Shut.out hK _ _ ?_ (fun hHeld => ?_)
      ·rw [hSS]
       have hh := hHeld
       rw [hSS] at hh
       exact ⟨(hso.cell (p := ⟨w.heap.size, 7, none⟩) (World.block_lt_of_cell? _ _ hh.1) (fun x => x)).trans hh.1, (hso.cell (p := ⟨w.heap.size, 8, none⟩) (World.block_lt_of_cell? _ _ hh.2) (fun x => x)).trans hh.2⟩
      clear hK K
      refine wpAnyH_ready (rs := [9]) (by kernel_rfl) (by simp) ?_
      refine AllReadyH.cons rfl (fun K hK => ?_) AllReadyH.nil
      go_simp
      refine Shut.out hK _ _ ?_ (fun hHeld => ?_)
      ·rw [hSS]
       have hh := hHeld
       rw [hSS] at hh
       exact ⟨cell_alloc hh.1, cell_alloc hh.2⟩
      clear hK K
      have hownO : wo.ownsRow 0 62 3 (.slice gb (3 + m.length) gc) (3 + m.length) ([.int .i64 6, .int .u64 16, S [], .int .i64 4, .int .u64 3, S [], .int .i64 2, .int .u64 0, S x.header] ++ m.flatMap cAtom) := ownsRow_same hownA hso
      refine wpAnyH_ready (rs := [10]) (by kernel_rfl) (by simp) ?_
      refine AllReadyH.cons rfl (fun K hK => ?_) AllReadyH.nil
      refine step_append_all (by rfl) _ _ _ _ (by rfl) 62 i0 _ 3 32 Tryd.underlying50 hi0 hz0 hz1 hz2 rfl (.slice gb (3 + m.length) gc) (3 + m.length) ([.int .i64 6, .int .u64 16, S [], .int .i64 4, .int .u64 3, S [], .int .i64 2, .int .u64 0, S x.header] ++ m.flatMap cAtom) (by rfl) (World.ownsRow.alloc hownO _) (.slice (some ⟨wo.heap.size, 0, none⟩) 1 1) 1 [.int .i64 2, .int .u64 0, S (x.cipher ++ x.tag)] (by rfl) (src_block (heap_alloc_new wo _) (by simp [Value.oneCell'])) (by unfold maxLen; omega) (by omega) ?_
      intro gd ge wB hownB hgrowB hatB
      refine Shut.out hK _ _ ?_ (fun hHeld => ?_)
      ·rw [hSS]
       have hh := hHeld
       rw [hSS] at hh
       have hnn : (Value.slice gb (3 + m.length) gc).ownBlock ≠ some w.heap.size := fun e => by rcases hatA _ e with z | z <;> (simp [Value.ownBlock] at z; omega)
       exact ⟨(hgrowB.cell_far _ (World.block_lt_of_cell? _ _ hh.1) (Ne.symm hnn)).trans hh.1, (hgrowB.cell_far _ (World.block_lt_of_cell? _ _ hh.2) (Ne.symm hnn)).trans hh.2⟩
      clear hK K
      refine wpAnyH_ready (rs := [11]) (by kernel_rfl) (by simp) ?_
      refine AllReadyH.cons rfl (fun K hK => ?_) AllReadyH.nil
      go_simp
      refine Shut.out hK _ _ ?_ (fun hHeld => ?_)
      ·rw [hSS]
       rw [hSS] at hHeld
       exact hHeld
      clear hK K
      refine wpAnyH_done (by kernel_rfl) ?_ _
      go_wp2_with fail
      go_meet
      have chain : ∀ w0, Same w0 wq → w0.heap.size ≤ w2.heap.size → Same w0 wB := fun w0 h0 hle => by
       have S1 : Same w0 wA := Fr.grown (Fr.drew h0) hgrowA (fun k e => .inr (by simp [Value.ownBlock] at e; omega))
       exact Fr.grown (Fr.alloc (S1.trans hso) _) hgrowB (fun k e => .inr (by rcases hatA k e with z | z <;> simp [Value.ownBlock] at z <;> omega))
      have hll : LL.length = 3 + m.length + 1 := by rw [HF.out]; simp; omega
      refine ⟨gd, ge, by rw [hll], ?_, chain w HQS.out (Nat.le_of_lt hwl2), HO.out.2.2.fr (chain wc HCQ.out HS2.out.size) (fun x => x)⟩
      unfold Owns
      rw [hll, show LL.flatMap cAtom = [.int .i64 6, .int .u64 16, S [], .int .i64 4, .int .u64 3, S [], .int .i64 2, .int .u64 0, S x.header] ++ m.flatMap cAtom ++ [.int .i64 2, .int .u64 0, S (x.cipher ++ x.tag)] by rw [HF.out]; simp [cAtom, octets]]
      exact hownB
    case rest =>
     obtain ⟨a7, c7, rfl, ho7, hs7, hx7⟩ := hcut
     have hl9 : ∀ a ∈ LL, a.num < 18446744073709551616 ∧ a.text.length ≤ 9223372036854775807 := by
      have hb := HB.out
      intro a ha
      have hm : ∀ a ∈ m, a.num < 18446744073709551616 ∧ a.text.length ≤ 9223372036854775807 := fun a ha => ⟨(HDm.out.wf a ha).1, by have := HDm.out.text a ha; omega⟩
      rw [HLL.out] at ha
      unfold listOf at ha
      split at ha
      ·simp only [List.mem_cons, List.mem_append, List.not_mem_nil, or_false] at ha
       rcases ha with rfl | rfl | rfl | ha | rfl | rfl
       ·exact ⟨by decide, by decide⟩
       ·exact ⟨by decide, by decide⟩
       ·exact ⟨by show (0 : Nat) < _; omega, by show x.header.length ≤ _; omega⟩
       ·exact hm a ha
       ·exact ⟨by show (0 : Nat) < _; omega, by show x.cipher.length ≤ _; omega⟩
       ·exact ⟨by show (0 : Nat) < _; omega, by show x.tag.length ≤ _; omega⟩
      ·simp only [List.mem_cons, List.mem_append, List.not_mem_nil, or_false] at ha
       rcases ha with rfl | rfl | rfl | ha | rfl
       ·exact ⟨by decide, by decide⟩
       ·exact ⟨by decide, by decide⟩
       ·exact ⟨by show (0 : Nat) < _; omega, by show x.header.length ≤ _; omega⟩
       ·exact hm a ha
       ·exact ⟨by show (0 : Nat) < _; omega, by show (x.cipher ++ x.tag).length ≤ _; rw [List.length_append]; omega⟩
     have hwf : E7.Wf LL := fun a ha => ⟨(hl9 a ha).1, by have := (hl9 a ha).2; omega⟩
     have HT7 := Px.hid (encode_any (.slice a7 LL.length c7) LL wc (ho7.lies cAtom_len) hl9 (HTO.out.2.2.same hs7))
     have HS7 := Px.hid (And.intro hs7 hx7)
     clear ho7 hl9 hs7 hx7 HO HS2 e0 e7 e8 hxb hi0 hz0 hz1 hz2
     have henl := enc_small hwf
     obtain ⟨en, hen⟩ : ∃ en, en = E7.encode LL := ⟨_, rfl⟩
     rw [← hen] at HT7 HP henl
     clear hen hwf
     go_wp2_with fail
     refine HT7.out.mono ?_
     rintro e w8 ⟨rfl, hs⟩
     have HS8 := Px.hid (And.intro (HS7.out.1.trans hs) (HS7.out.2.fr hs (fun x => x)))
     clear hs HS7 HT7
     obtain ⟨es, ee⟩ := en
     simp only at HP henl ⊢
     by_cases he2 : ee = 0
     ·subst he2
      have HP : Hid (tellP x = if (Co.read es Co.most).2 ≠ 0 ∨ x ≠ (Co.read es Co.most).1 then ([], 2) else (es, 0)) := Px.hid (by rw [HP.out, if_neg (fun e => e rfl)])
      have HRD := Px.hid (fun (W : World) (hW : Same w W) => creadAll_any es Co.most W (by omega) (HTO.out.2.2.same hW))
      clear henl
      go_wp2_with fail
      refine (cmost_any _).mono ?_
      rintro e w9 ⟨rfl, hs⟩
      have HS9 := Px.hid (And.intro (HS8.out.1.trans hs) (HS8.out.2.fr hs (fun x => x)))
      clear hs HS8
      go_wp2_with fail
      refine (HRD.out _ HS9.out.1).mono ?_
      rintro e wr ⟨vt2, rfl, hown, hs, hnew, ra, rc, rfl⟩
      have HS10 := Px.hid (And.intro (HS9.out.1.trans hs) (And.intro (HS9.out.2.fr hs (fun x => x)) hown))
      clear hs hown hnew HS9 HRD
      obtain ⟨rd, hrd⟩ : ∃ rd, rd = Co.read es Co.most := ⟨_, rfl⟩
      have HTL := Px.hid (read_to es Co.most)
      rw [← hrd] at HP HS10 HTL ⊢
      clear hrd
      obtain ⟨y, er⟩ := rd
      simp only at HP HS10 HTL ⊢
      obtain ⟨c0, c1, c2, c3, c4, c5, c6, c7, c8, _⟩ := blk9 (show Blk wr w.heap.size #[.int .i64 x.fmt, .int .i64 x.alg, .slice ta x.to.length tc, S x.header, S x.loose, S x.aad, S x.iv, S x.cipher, S x.tag] 27 from HS10.out.2.1)
      have hwrl := HS10.out.2.1.lt
      unfold envC
      by_cases he3 : er = 0
      ·subst he3
       have HP : Hid (tellP x = if x ≠ y then ([], 2) else (es, 0)) := Px.hid (by
        rw [HP.out]
        by_cases hxy : x = y
        ·rw [if_neg (by rintro (e | e); exact e rfl; exact e hxy), if_neg (fun e => e hxy)]
        ·rw [if_pos (.inr hxy), if_pos hxy])
       have HSM := Px.hid (fun (W : World) (hW : Same wr W) => same_any x y (.slice ta x.to.length tc) (.slice ra y.to.length rc) W (Lies.same HTO.out.1 (HS10.out.1.trans hW)) (Lies.same (HS10.out.2.2.lies cRec_len) hW) HTO.out.2.1 (by have := HTL.out; omega))
       unfold envC at HSM
       go_wp2_with fail
       refine (HSM.out _ (Fr.alloc (Fr.refl _ wr) _)).mono ?_
       rintro e w11 ⟨rfl, hs⟩
       have HS11 := Px.hid (HS10.out.1.trans (Same.trans (Fr.alloc (Fr.refl _ wr) _) hs))
       clear hs
       by_cases hxy : x = y
       ·have HE : Hid (tellP x = (es, 0)) := Px.hid (by rw [HP.out, if_neg (fun e => e hxy)])
        rw [decide_eq_true hxy]
        clear hxy
        go_wp2
        go_ret2
        rw [HE.out]
        exact ⟨rfl, HS11.out⟩
       ·have HE : Hid (tellP x = ([], 2)) := Px.hid (by rw [HP.out, if_pos hxy])
        rw [decide_eq_false hxy]
        clear hxy
        go_wp2
        go_ret2
        rw [HE.out]
        exact ⟨rfl, HS11.out⟩
      ·have HE : Hid (tellP x = ([], 2)) := Px.hid (by rw [HP.out, if_pos (.inl he3)])
       have hez : ¬ er = 0 := he3
       go_wp2
       go_ret2
       rw [HE.out]
       exact ⟨rfl, Fr.alloc HS10.out.1 _⟩
     ·have HE : Hid (tellP x = ([], 2)) := Px.hid (by rw [HP.out, if_pos he2])
      have hez : ¬ ee = 0 := he2
      go_wp2
      go_ret2
      rw [HE.out]
      exact ⟨rfl, HS8.out.1⟩
   ·have HE : Hid (tellP x = ([], 2)) := Px.hid (by rw [HP.out, if_pos (.inr hk5)])
    have hkz : ¬ a0.kind = 5 := hk5
    go_wp2
    go_ret2
    rw [HE.out]
    exact ⟨rfl, HO.out.2.1⟩
  ·have HE : Hid (tellP x = ([], 2)) := Px.hid (by rw [HP.out, if_pos (.inl he)])
   have hez : ¬ er = 0 := he
   clear HDD
   go_wp2
   go_ret2
   rw [HE.out]
   exact ⟨rfl, HO.out.2.1⟩
end Go.Proofs.YtddiabaagpmkgaaDoor

/-! The walk over the reference's Same (printed by gen_cqm.py). -/
namespace Go.Proofs.YtddiabaagpmkgaaDoor
open Go.RowKit Go.Px Go.Px.E7 Go.Px.Co
/-- Two envelopes, boxed. -/
structure SmS (w wx : World) (X Y : Array Value) : Prop where
 same : Same w wx
 a : Blk wx w.heap.size X 27
 b : Blk wx (w.heap.size + 1) Y 27
theorem SmS.sm {w wx wy : World} {X Y : Array Value} (h : SmS w wx X Y) (hs : Same wx wy) : SmS w wy X Y := ⟨h.same.trans hs, h.a.fr hs (fun x => x), h.b.fr hs (fun x => x)⟩
theorem run_eql_rec (x : Rec) (w : World) : (binOp .neq 59 (.agg #[.int .i64 x.way, .int .i64 x.size, .int .i64 x.kind, S x.name, S x.key, S x.salt, .int .i64 x.rounds, S x.iv, S x.loose]) (.agg #[.int .i64 x.way, .int .i64 x.size, .int .i64 x.kind, S x.name, S x.key, S x.salt, .int .i64 x.rounds, S x.iv, S x.loose])).run Tryd.prog w = .ok (.bool false) w := by
 rw [run_neq_struct, run_equalIn_struct w 9999 _ _ _ (by kernel_rfl) (by kernel_rfl)]
 simp only [Program.fieldsOf, Tryd.underlying59]
 go_simp
set_option maxRecDepth 100000 in
set_option maxHeartbeats 20000000 in
theorem rsame_any (x y : Env) (va vb : Value) (w : World) (ha : Lies w 9 cRec va x.to) (hb : Lies w 9 cRec vb y.to) (hl : x.to.length ≤ 140737488351232) :
  Calls Tryd.prog 12 #[.agg (envC x va), .agg (envC y vb)] w fun e w' => e = .returned (.bool (decide (x = y))) ∧ Same w w' := by
 obtain ⟨aa, ac, rfl, _, _⟩ := ha.slice
 obtain ⟨ba, bc, rfl, _, _⟩ := hb.slice
 have H := Px.hid (And.intro ha hb)
 clear ha hb
 obtain ⟨D, hD⟩ : ∃ D, D = decide (x = y) := ⟨_, rfl⟩
 rw [← hD]
 have HD := Px.hid hD
 clear hD
 obtain ⟨x0, x1, x2, x3, x4, x5, x6, x7, x8⟩ := x
 obtain ⟨y0, y1, y2, y3, y4, y5, y6, y7, y8⟩ := y
 unfold envC
 simp only at H hl ⊢
 have h0 : SmS w ((w.alloc (.cells #[.int .i64 x0, .int .i64 x1, .slice aa x2.length ac, S x3, S x4, S x5, S x6, S x7, S x8] 27)).alloc (.cells #[.int .i64 y0, .int .i64 y1, .slice ba y2.length bc, S y3, S y4, S y5, S y6, S y7, S y8] 27)) #[.int .i64 x0, .int .i64 x1, .slice aa x2.length ac, S x3, S x4, S x5, S x6, S x7, S x8] #[.int .i64 y0, .int .i64 y1, .slice ba y2.length bc, S y3, S y4, S y5, S y6, S y7, S y8] := ⟨Fr.alloc (Fr.alloc (Fr.refl _ w) _) _, Blk.alloc (blk_new w _ _) _, blk_new1 w _ _ _⟩
 go_enter Tryd.func12, Tryd.ntmps12
 go_upto_region 1 with fail
 generalize ((w.alloc (.cells #[.int .i64 x0, .int .i64 x1, .slice aa x2.length ac, S x3, S x4, S x5, S x6, S x7, S x8] 27)).alloc (.cells #[.int .i64 y0, .int .i64 y1, .slice ba y2.length bc, S y3, S y4, S y5, S y6, S y7, S y8] 27)) = w1 at h0 ⊢
 have H0 := Px.hid h0
 obtain ⟨c0, c1, c2, c3, c4, c5, c6, c7, c8, _⟩ := blk9 h0.a
 obtain ⟨e0, e1, e2, e3, e4, e5, e6, e7, e8, _⟩ := blk9 h0.b
 clear h0
 by_cases hn : x2.length = y2.length
 ·have hnz : (x2.length : Int) = (y2.length : Int) := by omega
  have HN := Px.hid hn
  rw [← hn] at e2 H0
  clear hn hnz
  go_wp2
  go_loopg [5] (x2.length + 1) (fun gk t5 wr => ∃ i : Nat, gk + i = x2.length + 1 ∧ i ≤ x2.length ∧ t5 = .int .i64 i ∧ Hid (((x2 = y2) ↔ (x2.drop i = y2.drop i)) ∧ Same w1 wr))
  case atStart => exact ⟨0, rfl, Nat.zero_le _, rfl, Px.hid ⟨Iff.rfl, Same.refl _⟩⟩
  case round =>
   clear c0 c1 c2 c3 c4 c5 c6 c7 c8 e0 e1 e2 e3 e4 e5 e6 e7 e8
   obtain ⟨i, hgk, hi, rfl, HS⟩ := hrel
   have HGK := Px.hid hgk
   clear hgk
   have HW := Px.hid (H0.out.sm HS.out.2)
   obtain ⟨c0, c1, c2, c3, c4, c5, c6, c7, c8, _⟩ := blk9 HW.out.a
   obtain ⟨e0, e1, e2, e3, e4, e5, e6, e7, e8, _⟩ := blk9 HW.out.b
   by_cases hlt : i < x2.length
   ·have hltz : (i : Int) < (x2.length : Int) := by omega
    have hlb : i < y2.length := by have := HN.out; omega
    have hA := Lies.same H.out.1 HW.out.same
    have hB := Lies.same H.out.2 HW.out.same
    obtain ⟨xb, xo, xc, hve, _, _⟩ := hA.cell i x2[i] (by simp [hlt])
    obtain ⟨yb, yo, yc, hve2, _, _⟩ := hB.cell i y2[i] (by simp [hlb])
    simp only [Value.slice.injEq, true_and] at hve hve2
    obtain ⟨rfl, rfl⟩ := hve
    obtain ⟨rfl, rfl⟩ := hve2
    obtain ⟨q0, q1, q2, q3, q4, q5, q6, q7, q8⟩ := lies_rec hA i hlt
    obtain ⟨r0, r1, r2, r3, r4, r5, r6, r7, r8⟩ := lies_rec hB i hlb
    have hst := drop_eq_step x2 y2 i hlt hlb
    obtain ⟨x, hx⟩ : ∃ x, x = x2[i] := ⟨_, rfl⟩
    obtain ⟨y, hy⟩ : ∃ y, y = y2[i] := ⟨_, rfl⟩
    rw [← hx] at q0 q1 q2 q3 q4 q5 q6 q7 q8 hst
    rw [← hy] at r0 r1 r2 r3 r4 r5 r6 r7 r8 hst
    have HST := Px.hid hst
    clear hx hy hst hA hB
    by_cases hxy : x = y
    ·subst hxy
     have HE := Px.hid (show (x2 = y2) ↔ (x2.drop (i + 1) = y2.drop (i + 1)) from HS.out.1.trans (HST.out.trans ⟨fun h => h.2, fun h => ⟨rfl, h⟩⟩))
     have heq := fun W => run_eql_rec x W
     go_wp2_with fail
     go_quiet (fail)
     go_wp2
     go_roundg (x2.length - i)
     case measure => have := HGK.out; omega
     case rel => exact ⟨i + 1, by omega, by omega, by go_num, Px.hid ⟨HE.out, Fr.drewN HS.out.2 _⟩⟩
    ·have HE := Px.hid (show ¬ x2 = y2 from fun h => hxy (HST.out.1 (HS.out.1.1 h)).1)
     have HF : Hid (D = false) := Px.hid (by rw [HD.out]; exact decide_eq_false (fun e => HE.out (congrArg Env.«to» e)))
     have hne := fun W => run_neq_rec hxy W
     clear hxy
     go_wp2_with fail
     go_quiet (fail)
     go_wp2
     go_ret
     rw [HF.out]
     exact ⟨rfl, Fr.drewN HW.out.same _⟩
   ·have hltz : ¬ (i : Int) < (x2.length : Int) := by omega
    have HE : x2 = y2 := HS.out.1.2 (by rw [List.drop_of_length_le (by omega), List.drop_of_length_le (by have := HN.out; omega)])
    subst HE
    have HWS := Px.hid HW.out.same
    clear HW H0 H HS HN HGK
    by_cases h0 : x0 = y0
    ·subst h0
     by_cases h1 : x1 = y1
     ·subst h1
      by_cases h3 : x3 = y3
      ·subst h3
       by_cases h4 : x4 = y4
       ·subst h4
        by_cases h5 : x5 = y5
        ·subst h5
         by_cases h6 : x6 = y6
         ·subst h6
          by_cases h7 : x7 = y7
          ·subst h7
           by_cases h8 : x8 = y8
           ·subst h8
            have HF : Hid (D = true) := Px.hid (by rw [HD.out]; exact decide_eq_true rfl)
            go_wp2_with fail
            try go_quiet (fail)
            go_wp2
            go_ret
            rw [HF.out]
            exact ⟨by first | rfl | simp, by first | exact HWS.out | exact Fr.drewN HWS.out _⟩
           ·have HF : Hid (D = false) := Px.hid (by rw [HD.out]; exact decide_eq_false (fun e => h8 (congrArg Env.tag e)))
            have b8 : (x8 == y8) = false := by simpa using h8
            have b8n : ¬ x8 = y8 := h8
            clear h8
            go_wp2_with fail
            try go_quiet (fail)
            go_wp2
            go_ret
            rw [HF.out]
            exact ⟨by first | rfl | simp, by first | exact HWS.out | exact Fr.drewN HWS.out _⟩
          ·have HF : Hid (D = false) := Px.hid (by rw [HD.out]; exact decide_eq_false (fun e => h7 (congrArg Env.cipher e)))
           have b7 : (x7 == y7) = false := by simpa using h7
           have b7n : ¬ x7 = y7 := h7
           clear h7
           go_wp2_with fail
           try go_quiet (fail)
           go_wp2
           go_ret
           rw [HF.out]
           exact ⟨by first | rfl | simp, by first | exact HWS.out | exact Fr.drewN HWS.out _⟩
         ·have HF : Hid (D = false) := Px.hid (by rw [HD.out]; exact decide_eq_false (fun e => h6 (congrArg Env.iv e)))
          have b6 : (x6 == y6) = false := by simpa using h6
          have b6n : ¬ x6 = y6 := h6
          clear h6
          go_wp2_with fail
          try go_quiet (fail)
          go_wp2
          go_ret
          rw [HF.out]
          exact ⟨by first | rfl | simp, by first | exact HWS.out | exact Fr.drewN HWS.out _⟩
        ·have HF : Hid (D = false) := Px.hid (by rw [HD.out]; exact decide_eq_false (fun e => h5 (congrArg Env.aad e)))
         have b5 : (x5 == y5) = false := by simpa using h5
         have b5n : ¬ x5 = y5 := h5
         clear h5
         go_wp2_with fail
         try go_quiet (fail)
         go_wp2
         go_ret
         rw [HF.out]
         exact ⟨by first | rfl | simp, by first | exact HWS.out | exact Fr.drewN HWS.out _⟩
       ·have HF : Hid (D = false) := Px.hid (by rw [HD.out]; exact decide_eq_false (fun e => h4 (congrArg Env.loose e)))
        have b4 : (x4 == y4) = false := by simpa using h4
        have b4n : ¬ x4 = y4 := h4
        clear h4
        go_wp2_with fail
        try go_quiet (fail)
        go_wp2
        go_ret
        rw [HF.out]
        exact ⟨by first | rfl | simp, by first | exact HWS.out | exact Fr.drewN HWS.out _⟩
      ·have HF : Hid (D = false) := Px.hid (by rw [HD.out]; exact decide_eq_false (fun e => h3 (congrArg Env.header e)))
       have b3 : (x3 == y3) = false := by simpa using h3
       have b3n : ¬ x3 = y3 := h3
       clear h3
       go_wp2_with fail
       try go_quiet (fail)
       go_wp2
       go_ret
       rw [HF.out]
       exact ⟨by first | rfl | simp, by first | exact HWS.out | exact Fr.drewN HWS.out _⟩
     ·have HF : Hid (D = false) := Px.hid (by rw [HD.out]; exact decide_eq_false (fun e => h1 (congrArg Env.alg e)))
      have b1 : (x1 == y1) = false := by simpa using h1
      have b1n : ¬ x1 = y1 := h1
      clear h1
      go_wp2_with fail
      try go_quiet (fail)
      go_wp2
      go_ret
      rw [HF.out]
      exact ⟨by first | rfl | simp, by first | exact HWS.out | exact Fr.drewN HWS.out _⟩
    ·have HF : Hid (D = false) := Px.hid (by rw [HD.out]; exact decide_eq_false (fun e => h0 (congrArg Env.fmt e)))
     have b0 : (x0 == y0) = false := by simpa using h0
     have b0n : ¬ x0 = y0 := h0
     clear h0
     go_wp2_with fail
     try go_quiet (fail)
     go_wp2
     go_ret
     rw [HF.out]
     exact ⟨by first | rfl | simp, by first | exact HWS.out | exact Fr.drewN HWS.out _⟩
 ·have hnz : ¬ (x2.length : Int) = (y2.length : Int) := by omega
  have hnz2 : ((x2.length : Int) != (y2.length : Int)) = true := by simp only [bne_iff_ne, ne_eq]; omega
  have HF : Hid (D = false) := Px.hid (by rw [HD.out]; exact decide_eq_false (fun e => hn (congrArg (fun e => (Env.«to» e).length) e)))
  clear hn
  go_wp2
  go_ret
  rw [HF.out]
  exact ⟨rfl, H0.out.same⟩
end Go.Proofs.YtddiabaagpmkgaaDoor
