/-
  Several texts in one: The walk over the reference's Behind (layer 15). The walk over the reference's length (layer 15): a length as bytes. The walk over the reference's Told (layer 15).
-/
import Derived.Test.YtceffhkgnifmeaaDoorMT
import Derived.Deep.DeepCutAuto
import Derived.Deep.LoopGhost
import Derived.Deep.RegionWith
import Derived.Deep.CutBlock
/-! The walk over the reference's Behind (layer 15). -/
namespace Go.Proofs.YtceffhkgnifmeaaDoor
open Go.RowKit Go.Px Go.Px.R5

/-- What Behind tells. -/
def behV (r : Option Nat × Nat) : Value := .tuple #[.int .i64 (match r.1 with | none => -1 | some e => (e : Int)), .int .i64 (r.2 : Nat)]
/-- What holds at the head of Behind's loop. -/
structure Beh (w wr : World) (v : Value) (l : List Px.Node) (k most : Nat) (left : List Nat) : Prop where
  nums : Nums w wr v left
  eq : E5.behind l [] 0 0 = E5.behind (l.drop k) left most k
  len : left.length ≤ k
  mlen : left.length ≤ most
  most : most ≤ k
  small : ∀ c ∈ left, (c : Int) ≤ 9223372036854775807
  top : left = [] ∨ ∃ n r, left = (n + 1) :: r
theorem behind_neg {l : List Px.Node} {k most : Nat} {left : List Nat} (hk : k < l.length) (h : l[k].kids < -1) : E5.behind (l.drop k) left most k = (none, most) := by
  rw [List.drop_eq_getElem_cons hk, E5.behind, if_pos h]
theorem behind_step {l : List Px.Node} {k most : Nat} {left : List Nat} (hk : k < l.length) (h : ¬ l[k].kids < -1) : E5.behind (l.drop k) left most k =
    if (E5.pops (left2 l[k] left)).isEmpty then (some (k + 1), max most (left2 l[k] left).length) else E5.behind (l.drop (k + 1)) (E5.pops (left2 l[k] left)) (max most (left2 l[k] left).length) (k + 1) := by
  rw [List.drop_eq_getElem_cons hk, E5.behind, if_neg h]
  rfl
set_option maxRecDepth 100000 in
set_option maxHeartbeats 8000000 in
theorem behind_any (v : Value) (l : List Px.Node) (w : World) (h : Lies w 3 cNode v l) (hl : l.length ≤ 4096) (hw : ∀ a ∈ l, -9223372036854775808 ≤ a.kids ∧ a.kids ≤ 9223372036854775807) :
    Calls Tryd.prog 37 #[v, .int .i64 0] w fun e w' => e = .returned (behV (E5.behind l [] 0 0)) ∧ Same w w' := by
  obtain ⟨va, vc, hv, hv1, hv2⟩ := h.slice
  subst hv
  have H := Px.hid (And.intro h hw)
  clear h hv2 hw
  obtain ⟨i0, hi0, hz0, hz1, hz2⟩ := info_parts Tryd.infoI64
  go_enter Tryd.func37, Tryd.ntmps37
  go_wp2
  go_loopg [6, 7, 8] (l.length + 1) (fun gk v6 t7 i wr => ∃ (k most : Nat) (left : List Nat), gk + k = l.length + 1 ∧ k ≤ l.length ∧ i = .int .i64 (k : Nat) ∧ t7 = .int .i64 (most : Nat) ∧ Hid (Beh w wr v6 l k most left))
  case atStart => exact ⟨0, 0, [], rfl, Nat.zero_le _, rfl, rfl, Px.hid ⟨⟨owns_nil _ _ _ _, Same.refl w, nofun⟩, by rw [List.drop_zero], Nat.le_refl _, Nat.le_refl _, Nat.le_refl _, nofun, .inl rfl⟩⟩
  case round =>
    obtain ⟨k, most, left, hgk, hk, rfl, rfl, HS⟩ := hrel
    have HG := Px.hid hgk
    clear hgk
    obtain ⟨la, lc, hv6⟩ := HS.out.nums.len
    subst hv6
    by_cases hlt : k < l.length
    · have hlz : (k : Int) < (l.length : Int) := by omega
      obtain ⟨g', rfl⟩ : ∃ g', gk = g' + 1 := ⟨gk - 1, by have := HG.out; omega⟩
      obtain ⟨xb, xo, xc, hve, hxb, hcx⟩ := H.out.1.cell k l[k] (by simp [hlt])
      simp only [Value.slice.injEq, true_and] at hve
      obtain ⟨rfl, rfl⟩ := hve
      have hx1 := hcx 1 _ rfl
      rw [← Nat.add_assoc] at hx1
      obtain ⟨x, hx⟩ : ∃ x, x = l[k] := ⟨_, rfl⟩
      rw [← hx] at hx1
      have hxl := H.out.2 x (by rw [hx]; exact List.getElem_mem _)
      have hk1 := hxl.1
      have hk2 := hxl.2
      have HX := Px.hid (And.intro hx (show ∀ W, Same w W → W.cell? ⟨xb, xo + k * 3 + 1, none⟩ = some (.int .i64 x.kids) from fun W hW => (hW.cell (p := ⟨xb, xo + k * 3 + 1, none⟩) hxb (fun x => x)).trans hx1))
      have x1 := HX.out.2 wr HS.out.nums.same
      clear hcx hx hx1 hxl
      have hlen4 : left.length ≤ 4096 := by have := HS.out.len; omega
      by_cases hneg : x.kids < -1
      · have HR := Px.hid (show E5.behind l [] 0 0 = (none, most) by rw [HS.out.eq]; exact behind_neg hlt (by rw [← HX.out.1]; exact hneg))
        go_wp2
        go_ret2
        rw [HR.out]
        exact ⟨rfl, HS.out.nums.same⟩
      · have HSB := Px.hid (show E5.behind l [] 0 0 = if (E5.pops (left2 x left)).isEmpty then (some (k + 1), max most (left2 x left).length) else E5.behind (l.drop (k + 1)) (E5.pops (left2 x left)) (max most (left2 x left).length) (k + 1) by
          have h1 := HX.out.1
          rw [HS.out.eq, h1]
          exact behind_step hlt (by rw [← h1]; exact hneg))
        go_upto_if 25 with fail
        go_cut [] (fun wx => Nums w wx (.slice la left.length lc) (E5.dec left))
        case first =>
          clear x1
          rcases HS.out.top with rfl | ⟨n, rest, rfl⟩
          · go_wp2_with fail
            go_meet
            exact HS.out.nums
          · obtain ⟨g, cap, hve, hc1, hc2, hcell, hfz, hgl⟩ := HS.out.nums.top
            simp only [List.length_cons, Value.slice.injEq, true_and] at hve
            obtain ⟨rfl, rfl⟩ := hve
            unfold maxLen at hc2
            have hsm := HS.out.small (n + 1) (by simp)
            have hk0 : (0 : Int) < (rest.length : Int) + 1 := by omega
            have hn1 : ((n + 1 : Nat) : Int) = (n : Int) + 1 := by omega
            rw [hn1] at hcell hsm
            have HSE := Px.hid (HS.out.nums.set n)
            have hwr : IntKind.i64.wrap ((n : Int) + 1 - 1) = (n : Int) := by rw [show (n : Int) + 1 - 1 = n by omega]; exact IntWalk.i64_in _ ⟨by omega, by omega⟩
            have hwr2 : IntKind.i64.wrap (n : Int) = (n : Int) := IntWalk.i64_in _ ⟨by omega, by omega⟩
            clear hn1 hsm
            rw [List.length_cons]
            go_wp2_with fail
            go_meet
            exact HSE.out
        case rest =>
          have HN := Px.hid hcut
          clear hcut x1
          have x1 := HX.out.2 wc HN.out.same
          have hdl : (E5.dec left).length = left.length := E5.dec_len left
          have HDL := Px.hid hdl
          clear hdl
          go_upto_if 43 with fail
          go_cut [6] (fun v6 wx => Nums w wx v6 (left2 x left))
          case first =>
            by_cases hlf : 0 ≤ x.kids
            · have hlk : E5.leaf x = false := decide_eq_false (by omega)
              have hkn : x.kids = ((E5.count x : Nat) : Int) := by unfold E5.count; omega
              have HE := Px.hid (show left2 x left = E5.count x :: E5.dec left by unfold left2; rw [hlk]; rfl)
              rw [hkn] at x1
              obtain ⟨cn, hcn⟩ : ∃ cn, cn = E5.count x := ⟨_, rfl⟩
              rw [← hcn] at x1 HE
              have hrow := HN.out.row
              rw [HDL.out] at hrow
              obtain ⟨RL, hRL⟩ : ∃ RL, RL = (E5.dec left).reverse.flatMap cNum := ⟨_, rfl⟩
              rw [← hRL] at hrow
              have HO := Px.hid hrow
              have HRL := Px.hid hRL
              clear hrow hRL hlk hkn hcn
              go_wp2_with (at_builtin; go_must (refine wpList_append_lies _ rfl _ _ _ rfl 0 3 i0 _ 1 8 Tryd.underlying78 hi0 hz0 hz1 hz2 rfl (by omega) (.slice la left.length lc) left.length RL rfl (HO.out.alloc _) ⟨wc.heap.size, 0, none⟩ 1 1 [.int .i64 (cn : Nat)] rfl rfl (World.news_of_block (cs := #[.int .i64 (cn : Nat)]) (t := 3) (fr := (0, 0)) (heap_alloc_new wc _)) (by simp [Value.oneCell']) (by omega) (by unfold maxLen; omega) (by omega) (by omega) (wc.heap.size + 1) (by simp) ?_))
              intro gg cap WY hown1 hgrow hat hlt1
              rw [HRL.out] at hown1
              have HP := Px.hid (show Nums w WY (.slice (some ⟨gg, 0, none⟩) (left.length + 1) cap) (cn :: E5.dec left) from by
                have h1 := HN.out
                have h2 := hown1
                rw [← HDL.out] at h1 h2 ⊢
                exact Nums.push h1 h2 (grown_alloc1 (w := wc) (by rw [← HDL.out] at hgrow; exact hgrow)) (hat.imp (fun e => by rw [HDL.out]; exact e) (fun e => by omega)))
              clear hown1 hgrow hat
              go_wp2_with fail
              go_meet
              rw [HE.out]
              exact HP.out
            · have hlk : E5.leaf x = true := decide_eq_true (by omega)
              have HE := Px.hid (show left2 x left = E5.dec left by unfold left2; rw [hlk]; rfl)
              clear hlk
              go_wp2_with fail
              go_meet
              rw [HE.out]
              exact HN.out
          case rest =>
            rename_i t6 _
            obtain ⟨LL, hLL⟩ : ∃ LL, LL = left2 x left := ⟨_, rfl⟩
            rw [← hLL] at hcut HSB
            have HN2 := Px.hid hcut
            obtain ⟨lb, ld, hv6⟩ := hcut.len
            clear hcut
            subst hv6
            obtain ⟨MM, hMM⟩ : ∃ MM, MM = max most LL.length := ⟨_, rfl⟩
            rw [← hMM] at HSB
            have hLL1 : LL.length ≤ k + 1 := by
              rw [hLL]; unfold left2
              have := HS.out.len
              have := HDL.out
              split
              · omega
              · rw [List.length_cons]; omega
            have HM := Px.hid hMM
            have hm0 := HS.out.most
            have hm1 : MM ≤ k + 1 := by omega
            have hm2 : LL.length ≤ MM := by omega
            have HLLs := Px.hid (show ∀ c ∈ LL, (c : Int) ≤ 9223372036854775807 from by
              have hd : ∀ c ∈ E5.dec left, (c : Int) ≤ 9223372036854775807 := by
                have hs := HS.out.small
                cases left with
                | nil => exact nofun
                | cons n rest =>
                  intro c hc
                  rcases List.mem_cons.1 hc with rfl | hc
                  · have := hs n (by simp); omega
                  · exact hs c (by simp [hc])
              rw [hLL]; unfold left2
              split
              · exact hd
              · intro c hc
                rcases List.mem_cons.1 hc with rfl | hc
                · unfold E5.count; omega
                · exact hd c hc)
            clear x1 hMM hLL
            go_upto_if 55 with fail
            go_cut [7] (fun t7 wx => t7 = .int .i64 (MM : Nat) ∧ wx = wc)
            case first =>
              by_cases hgt : most < LL.length
              · have hgz : (most : Int) < (LL.length : Int) := by omega
                have HE := Px.hid (show MM = LL.length by rw [HM.out]; omega)
                clear hgt
                go_wp2_with fail
                go_meet
                rw [HE.out]
                exact ⟨rfl, rfl⟩
              · have hgz : ¬ (most : Int) < (LL.length : Int) := by omega
                have HE := Px.hid (show MM = most by rw [HM.out]; omega)
                clear hgt
                go_wp2_with fail
                go_meet
                rw [HE.out]
                exact ⟨rfl, rfl⟩
            case rest =>
              obtain ⟨rfl, hwc2⟩ := hcut
              subst hwc2
              obtain ⟨wo, rfl⟩ : ∃ wo : World, wo = wc := ⟨_, rfl⟩
              go_wp2
              go_loopg [6] (LL.length + 1) (fun gk2 v6 w2 => ∃ lf : List Nat, lf.length < gk2 ∧ Hid (Nums w w2 v6 lf ∧ E5.pops lf = E5.pops LL ∧ lf.length ≤ LL.length ∧ ∀ c ∈ lf, (c : Int) ≤ 9223372036854775807))
              case atStart => exact ⟨LL, by omega, Px.hid ⟨HN2.out, rfl, Nat.le_refl _, HLLs.out⟩⟩
              case round =>
                obtain ⟨lf, hgl, HQ⟩ := hrel
                have HGL := Px.hid hgl
                clear hgl
                rcases hlf : lf with _ | ⟨ci, rs⟩
                · rw [hlf] at HQ
                  obtain ⟨a2, c2, hv2⟩ := HQ.out.1.len
                  subst hv2
                  have HR := Px.hid (show E5.behind l [] 0 0 = (some (k + 1), MM) by
                    rw [HSB.out, if_pos]
                    have := HQ.out.2.1
                    rw [← this]
                    rfl)
                  clear hlf HGL
                  go_wp2
                  go_ret2
                  rw [HR.out]
                  exact ⟨by unfold behV; go_num, HQ.out.1.same⟩
                · rw [hlf] at HQ HGL
                  obtain ⟨g2, c2, rfl, hc1, hc2, hcell, hfz, hg2⟩ := HQ.out.1.top
                  unfold maxLen at hc2
                  clear hlf
                  by_cases hc0 : ci = 0
                  · subst hc0
                    go_wp2
                    go_roundg (rs.length + 1)
                    case measure => have := HGL.out; simp at this; omega
                    case rel => exact ⟨rs, by omega, Px.hid ⟨HQ.out.1.pop, HQ.out.2.1, Nat.le_of_succ_le HQ.out.2.2.1, fun c hc => HQ.out.2.2.2 c (by simp [hc])⟩⟩
                  · have hcz : ((ci : Int) == 0) = false := by simpa using hc0
                    have hzz : (((rs.length : Int) + 1) == 0) = false := beq_eq_false_iff_ne.2 (by omega)
                    have HC := Px.hid hc0
                    clear hc0
                    go_wp2
                    go_roundg g'
                    case measure => omega
                    case rel =>
                      have hp := HQ.out.2.1
                      have e : E5.pops (ci :: rs) = ci :: rs := by unfold E5.pops; rw [if_neg HC.out]
                      refine ⟨k + 1, MM, ci :: rs, by have := HG.out; omega, by omega, by go_num, rfl, Px.hid ⟨HQ.out.1, ?_, ?_, ?_, hm1, HQ.out.2.2.2, .inr ⟨ci - 1, rs, by rw [Nat.sub_add_cancel (Nat.one_le_iff_ne_zero.2 HC.out)]⟩⟩⟩
                      · rw [HSB.out, ← hp, e]
                        rfl
                      · have := HQ.out.2.2.1; omega
                      · have := HQ.out.2.2.1; omega
    · have hlz : ¬ (k : Int) < (l.length : Int) := by omega
      have HR := Px.hid (show E5.behind l [] 0 0 = (none, most) by
        rw [HS.out.eq, show k = l.length by omega, List.drop_length]
        rfl)
      go_wp2
      go_ret2
      rw [HR.out]
      exact ⟨rfl, HS.out.nums.same⟩
end Go.Proofs.YtceffhkgnifmeaaDoor

/-! The walk over the reference's length (layer 15): a length as bytes. -/
namespace Go.Proofs.YtceffhkgnifmeaaDoor
open Go.RowKit Go.Px Go.Px.R5

theorem app_S15 (a b : List UInt8) : (ByteArray.mk a.toArray) ++ (ByteArray.mk b.toArray) = ⟨(a ++ b).toArray⟩ := by
  apply ByteArray.ext
  simp
/-- One byte as a string. -/
theorem conv1 (m : Nat) (hm : m < 256) (b : Nat) (W : World) (h : W.heap[b]? = some (.cells #[.int .u8 (m : Nat)] 5 (0, 0))) : (convert 42 9 (.slice (some ⟨b, 0, none⟩) 1 1)).run Tryd.prog W = .ok (S [UInt8.ofNat m]) W := by
  have e : (UInt8.ofNat m).toNat = m := by rw [UInt8.toNat_ofNat']; omega
  have := Owns.str (w := W) (v := .slice (some ⟨b, 0, none⟩) 1 1) (l := [UInt8.ofNat m]) ⟨rfl, .inr ⟨b, 1, _, rfl, Nat.zero_le _, h, Nat.le_refl _, by unfold maxLen; omega, rfl, by simp [cByte, e]⟩⟩
  exact this
theorem beN_len : ∀ (m n : Nat) (s : Bytes), (E5.beN m n s).length ≤ s.length + m
  | 0, _, s => Nat.le_refl _
  | m + 1, n, s => by
    unfold E5.beN
    split
    · omega
    · have := beN_len m (n / 256) (UInt8.ofNat (n % 256) :: s)
      rw [List.length_cons] at this
      omega
set_option maxRecDepth 100000 in
set_option maxHeartbeats 4000000 in
theorem reflen_any (n : Nat) (hn : n ≤ 2000000000) (w : World) :
    Calls Tryd.prog 51 #[.int .i64 (n : Nat)] w fun e w' => e = .returned (S (E5.lenB n)) ∧ Same w w' := by
  by_cases hs : n < 128
  · have hz : (n : Int) < 128 := by omega
    have hwc : IntKind.u8.wrap (n : Int) = n := by rw [IntKind.wrap_u8]; omega
    have hcv := conv1 n (by omega) w.heap.size (w.alloc (.cells #[.int .u8 (n : Nat)] 5 (0, 0))) (heap_alloc_new _ _)
    have HE := Px.hid (show E5.lenB n = [UInt8.ofNat n] by unfold E5.lenB; rw [if_pos hs])
    clear hs
    go_enter Tryd.func51, Tryd.ntmps51
    go_wp2
    go_ret
    rw [HE.out]
    exact ⟨rfl, (Same.refl w).alloc _⟩
  · have hz : ¬ (n : Int) < 128 := by omega
    have HE := Px.hid (show E5.lenB n = UInt8.ofNat (128 + (E5.beN 8 n []).length) :: E5.beN 8 n [] by unfold E5.lenB; rw [if_neg hs])
    clear hs
    go_enter Tryd.func51, Tryd.ntmps51
    go_wp2
    go_loopg [0, 3] 9 (fun gk t0 t3 wr => ∃ (m n' : Nat) (s' : Bytes), m < gk ∧ t0 = .int .i64 (n' : Nat) ∧ t3 = S s' ∧ n' ≤ 2000000000 ∧ n' < 256 ^ m ∧ Hid (Same w wr ∧ E5.beN m n' s' = E5.beN 8 n [] ∧ s'.length ≤ 8 ∧ m ≤ 8 ∧ m + s'.length ≤ 8))
    case atStart => exact ⟨8, n, [], by omega, rfl, rfl, hn, by omega, Px.hid ⟨Same.refl w, rfl, by simp, by omega, by simp⟩⟩
    case round =>
      obtain ⟨m, n', s', hm, rfl, rfl, hn', hlt, HQ⟩ := hrel
      by_cases h0 : 0 < n'
      · have h0z : (0 : Int) < (n' : Int) := by omega
        obtain ⟨m', rfl⟩ : ∃ m', m = m' + 1 := ⟨m - 1, by
          rcases m with _ | m
          · simp at hlt; omega
          · rfl⟩
        obtain ⟨g', rfl⟩ : ∃ g', gk = g' + 1 := ⟨gk - 1, by omega⟩
        have hmod : (n' : Int).tmod 256 = ((n' % 256 : Nat) : Int) := by rw [Int.tmod_eq_emod_of_nonneg (by omega)]; omega
        have hdiv : (n' : Int).tdiv 256 = ((n' / 256 : Nat) : Int) := by rw [Int.tdiv_eq_ediv_of_nonneg (by omega)]; omega
        have hwc : IntKind.u8.wrap ((n' : Int) % 256) = (n' : Int) % 256 := by rw [IntKind.wrap_u8]; omega
        have hcv := conv1 (n' % 256) (by omega) wr.heap.size (wr.alloc (.cells #[.int .u8 ((n' : Int) % 256)] 5 (0, 0))) (by rw [heap_alloc_new]; rfl)
        obtain ⟨cd, hcd⟩ : ∃ cd, cd = [UInt8.ofNat (n' % 256)] := ⟨_, rfl⟩
        rw [← hcd] at hcv
        have happ := app_S15 cd s'
        have hszc : (ByteArray.mk cd.toArray).size = 1 := by rw [size_S, hcd]; rfl
        have hszs : (ByteArray.mk s'.toArray).size = s'.length := size_S s'
        have hsl8 : s'.length ≤ 8 := HQ.out.2.2.1
        obtain ⟨sn, hsn⟩ : ∃ sn, sn = cd ++ s' := ⟨_, rfl⟩
        rw [← hsn] at happ
        have HSN := Px.hid (show sn = UInt8.ofNat (n' % 256) :: s' by rw [hsn, hcd]; rfl)
        clear hsn hcd
        have hd2 : n' / 256 < 256 ^ m' := by rw [Nat.pow_succ] at hlt; exact Nat.div_lt_of_lt_mul (by rw [Nat.mul_comm]; exact hlt)
        have HD := Px.hid (And.intro hd2 hm)
        have HN0 := Px.hid (show n' ≠ 0 by omega)
        clear hlt hd2 hm h0
        go_wp2
        go_roundg g'
        case measure => omega
        case rel =>
          refine ⟨m', n' / 256, sn, by have := HD.out.2; omega, by go_num, rfl, by omega, HD.out.1, Px.hid ⟨HQ.out.1.alloc _, ?_, ?_, by have := HQ.out.2.2.2.1; omega, ?_⟩⟩
          · rw [← HQ.out.2.1]
            conv => rhs; unfold E5.beN
            rw [if_neg HN0.out, HSN.out]
          · have := HQ.out.2.2.2.2; rw [HSN.out, List.length_cons]; omega
          · have := HQ.out.2.2.2.2; rw [HSN.out, List.length_cons]; omega
      · have h0z : ¬ (0 : Int) < (n' : Int) := by omega
        have h00 : n' = 0 := by omega
        have hbe : s' = E5.beN 8 n [] := by
          rw [← HQ.out.2.1, h00]
          cases m with
          | zero => rfl
          | succ m => unfold E5.beN; rw [if_pos rfl]
        have hsl := HQ.out.2.2.1
        have hsz : (ByteArray.mk s'.toArray).size = s'.length := size_S s'
        have hwc : IntKind.u8.wrap (128 + (s'.length : Int)) = 128 + (s'.length : Int) := by rw [IntKind.wrap_u8]; omega
        have hcv := conv1 (128 + s'.length) (by omega) wr.heap.size (wr.alloc (.cells #[.int .u8 (128 + (s'.length : Int))] 5 (0, 0))) (by rw [heap_alloc_new]; rfl)
        obtain ⟨cd, hcd⟩ : ∃ cd, cd = [UInt8.ofNat (128 + s'.length)] := ⟨_, rfl⟩
        rw [← hcd] at hcv
        have happ := app_S15 cd s'
        have hszc : (ByteArray.mk cd.toArray).size = 1 := by rw [size_S, hcd]; rfl
        have hszs : (ByteArray.mk s'.toArray).size = s'.length := size_S s'
        have hsl8 : s'.length ≤ 8 := HQ.out.2.2.1
        obtain ⟨sn, hsn⟩ : ∃ sn, sn = cd ++ s' := ⟨_, rfl⟩
        rw [← hsn] at happ
        have HB := Px.hid (show sn = E5.lenB n by rw [HE.out, ← hbe, hsn, hcd]; rfl)
        clear hsn hcd
        clear hlt hm h0 h00 hbe
        go_wp2
        go_ret
        refine ⟨?_, HQ.out.1.alloc _⟩
        rw [← HB.out]
        rfl
end Go.Proofs.YtceffhkgnifmeaaDoor

/-! The walk over the reference's Told (layer 15). -/
namespace Go.Px.E5
theorem dgN_mono : ∀ (m a b : Nat), a ≤ b → dgN m a ≤ dgN m b
  | 0, _, _, _ => Nat.le_refl _
  | m + 1, a, b, h => by
    unfold dgN
    by_cases ha : a = 0
    · rw [if_pos ha]; exact Nat.zero_le _
    · rw [if_neg ha, if_neg (by omega)]
      have := dgN_mono m (a / 256) (b / 256) (Nat.div_le_div_right h)
      omega
theorem headN_mono {a b : Nat} (h : a ≤ b) : headN a ≤ headN b := by
  unfold headN
  rw [lenB_length, lenB_length]
  have := dgN_mono 8 a b h
  split <;> split <;> omega
theorem wrap_mono (t : UInt8) {s b : Bytes} (h : s.length ≤ b.length) : (wrap t s).length ≤ (wrap t b).length := by
  rw [wrap_size, wrap_size]
  have := headN_mono h
  omega
theorem kids_le {R : List Node → Bytes → Bool → Prop} (hR : ∀ l b o, R l b o → 1 ≤ l.length) (set : Bool) : ∀ {n : Nat} {last : Bytes} {l : List Node} {b : Bytes} {o : Bool}, Kids R set n last l b o → n ≤ l.length
  | 0, _, _, _, _, _ => Nat.zero_le _
  | n + 1, _, _, _, _, ⟨x, r, _, _, _, _, e, _, h1, h2, _⟩ => by
    have := hR _ _ _ h1
    have := kids_le hR set h2
    rw [e, List.length_append]
    omega
end Go.Px.E5
namespace Go.Proofs.YtceffhkgnifmeaaDoor
open Go.RowKit Go.Px Go.Px.R5

theorem same_keeps15 {w w' : World} (h : Same w w') : ∀ (b : Nat) (o : Obj), w.heap[b]? = some o → w'.heap[b]? = some o := fun b _ hb => (h.block b (ltOf hb) (fun x => x)).trans hb
/-- How an Encoder lies. -/
structure Tl (w : World) (b : Nat) (va : Value) (lg ou : Bool) : Prop where
  blk : w.heap[b]? = some (.cells #[va, .bool lg, .bool ou] 87 (0, 0))
theorem Tl.cells {w : World} {b : Nat} {va : Value} {lg ou : Bool} (h : Tl w b va lg ou) : w.cell? ⟨b, 0, none⟩ = some va ∧ w.cell? ⟨b, 1, none⟩ = some (.bool lg) ∧ w.cell? ⟨b, 2, none⟩ = some (.bool ou) :=
  ⟨cellOf h.blk 0 rfl, cellOf h.blk 1 rfl, cellOf h.blk 2 rfl⟩
theorem Tl.sm {w w' : World} {b : Nat} {va : Value} {lg ou : Bool} (h : Tl w b va lg ou) (hs : Same w w') : Tl w' b va lg ou := ⟨(hs.block b (ltOf h.blk) (fun x => x)).trans h.blk⟩
theorem Tl.setLong {w : World} {b : Nat} {va : Value} {lg ou : Bool} (h : Tl w b va lg ou) (n : Bool) : Tl (w.setCell ⟨b, 1, none⟩ (.bool n)) b va n ou := ⟨by rw [heap_setCell_same w b 1 _ _ _ h.blk]; rfl⟩
theorem Tl.setOut {w : World} {b : Nat} {va : Value} {lg ou : Bool} (h : Tl w b va lg ou) (n : Bool) : Tl (w.setCell ⟨b, 2, none⟩ (.bool n)) b va lg n := ⟨by rw [heap_setCell_same w b 2 _ _ _ h.blk]; rfl⟩
/-- The list that is told: it lies in memory that was there before the Encoder. -/
structure Lst (w0 : World) (b xb xo : Nat) (L : List Px.Node) : Prop where
  cell : ∀ (j : Nat) (x : Px.Node), L[j]? = some x → ∀ i u, (cNode x)[i]? = some u → w0.cell? ⟨xb, xo + (j * 3 + i), none⟩ = some u
  lt : xb < w0.heap.size
  le : w0.heap.size ≤ b
  len : L.length ≤ 4096
/-- What Told leaves. -/
structure Told (w0 : World) (b : Nat) (va : Value) (k : Nat) (x : List Px.Node) (B : Bytes) (o out : Bool) (s : Bytes) (w' : World) (k' : Nat) (lg ou : Bool) : Prop where
  tl : Tl w' b va lg ou
  same : Same w0 w'
  or : (lg = false ∧ s = B ∧ k' = k + x.length ∧ ou = (out || o)) ∨ (lg = true ∧ 262144 < B.length ∧ s.length ≤ B.length)
def ToldP (w0 w : World) (b : Nat) (va : Value) (k : Nat) (x : List Px.Node) (B : Bytes) (o out : Bool) (e : Ending) (w' : World) : Prop :=
  ∃ s k' lg ou, e = .returned (.tuple #[S s, .int .i64 (k' : Nat)]) ∧ Told w0 b va k x B o out s w' k' lg ou ∧ Fr (It b) w w'
theorem ToldP.mk {w0 w w' : World} {b : Nat} {va : Value} {k : Nat} {x : List Px.Node} {B : Bytes} {o out : Bool} {e : Ending} (s : Bytes) (k' : Nat) (lg ou : Bool) (h1 : e = .returned (.tuple #[S s, .int .i64 (k' : Nat)])) (h2 : Told w0 b va k x B o out s w' k' lg ou) (h3 : Fr (It b) w w') : ToldP w0 w b va k x B o out e w' := ⟨s, k', lg, ou, h1, h2, h3⟩
def ToldC (w0 : World) (b xb xo cap : Nat) (L : List Px.Node) (d : Nat) : Prop :=
  ∀ (w : World) (k : Nat) (x r : List Px.Node) (B : Bytes) (o out : Bool), Tl w b (.slice (some ⟨xb, xo, none⟩) L.length cap) false out → Same w0 w → E5.El d x B o → L.drop k = x ++ r → B.length ≤ 1000000 →
    Calls Tryd.prog 40 #[.pointer (some ⟨b, 0, none⟩), .int .i64 (k : Nat)] w (ToldP w0 w b (.slice (some ⟨xb, xo, none⟩) L.length cap) k x B o out)
theorem drop_head15 {L r : List Px.Node} {a : Px.Node} {k : Nat} (h : L.drop k = a :: r) : k < L.length ∧ L[k]? = some a ∧ L.drop (k + 1) = r := by
  have hk : k < L.length := by
    rcases Nat.lt_or_ge k L.length with h1 | h1
    · exact h1
    · rw [List.drop_eq_nil_of_le h1] at h; cases h
  rw [List.drop_eq_getElem_cons hk] at h
  simp only [List.cons.injEq] at h
  exact ⟨hk, by rw [List.getElem?_eq_getElem hk, h.1], h.2⟩
/-- What a region needs that tells a tag, a length and a body. -/
structure TagLen (ct LB HB body AB : Bytes) : Prop where
  one : ct.length = 1
  nine : LB.length ≤ 9
  h1 : ByteArray.mk ct.toArray ++ ByteArray.mk LB.toArray = ⟨HB.toArray⟩
  h2 : ByteArray.mk HB.toArray ++ ByteArray.mk body.toArray = ⟨AB.toArray⟩
  hl : HB.length ≤ 10
theorem tagLen (t : UInt8) (body : Bytes) : TagLen [t] (E5.lenB body.length) ([t] ++ E5.lenB body.length) body (E5.wrap t body) := by
  have := E5.lenB_le body.length
  exact ⟨rfl, this, app_S15 _ _, by rw [app_S15]; rfl, by rw [List.length_append, List.length_singleton]; omega⟩
end Go.Proofs.YtceffhkgnifmeaaDoor
