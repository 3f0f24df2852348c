/-
  Several texts in one: The walk over the reference's Told (layer 15), its two ways joined. The walk over the reference's Encode (layer 15). The walks over copied and over Same on an argument's list (layer 15). The walks over the statements DerTells and DerBack. A list of nodes among a statement's arguments, as plain data.
-/
import Derived.Test.YtceffhkgnifmeaaDoorMX
import Derived.Test.YtceffhkgnifmeaaDoorMY
import Derived.Test.YtceffhkgnifmeaaDoorMT
import Derived.Test.YtceffhkgnifmeaaDoorCardR
import Derived.Deep.Slices
import Derived.Deep.Fields
import Derived.ChangeSame
/-! The walk over the reference's Told (layer 15), its two ways joined. -/
namespace Go.Proofs.YtceffhkgnifmeaaDoor
open Go.RowKit Go.Px Go.Px.R5

/-- Told tells an element. -/
theorem told_any (w0 : World) (b xb xo cap : Nat) (L : List Px.Node) (hL : Lst w0 b xb xo L) : ∀ d, ToldC w0 b xb xo cap L d := by
  have leafC : ∀ (a : Px.Node), E5.leaf a = true → ∀ (w : World) (k : Nat) (r : List Px.Node) (out : Bool), Tl w b (.slice (some ⟨xb, xo, none⟩) L.length cap) false out → Same w0 w → L.drop k = [a] ++ r → (E5.wrap a.tag a.body).length ≤ 1000000 →
      Calls Tryd.prog 40 #[.pointer (some ⟨b, 0, none⟩), .int .i64 (k : Nat)] w (ToldP w0 w b (.slice (some ⟨xb, xo, none⟩) L.length cap) k [a] (E5.wrap a.tag a.body) false out) :=
    fun a h w k r out ht hs hd hB => told_leaf w0 b xb xo cap L hL a w k r out ht hs h hd hB
  intro d
  induction d with
  | zero =>
    intro w k x r B o out ht hs hit hd hB
    obtain ⟨a, rfl, _, h2, rfl, rfl⟩ := hit
    exact leafC a h2 w k r out ht hs hd hB
  | succ d ih =>
    intro w k x r B o out ht hs hit hd hB
    rcases hit with ⟨a, rfl, _, h2, rfl, rfl⟩ | ⟨a, t, br, rfl, _, h2, h3, rfl⟩
    · exact leafC a h2 w k r out ht hs hd hB
    · exact told_node w0 b xb xo cap L hL d a ih w k t r br o out ht hs h2 h3 hd (by rw [E5.wrap_size] at hB; omega)
end Go.Proofs.YtceffhkgnifmeaaDoor

/-! The walk over the reference's Encode (layer 15). -/
namespace Go.Px.E5
theorem behind_kids : ∀ (l : List Node) (left : List Nat) (most i m : Nat), behind l left most i = (some (i + l.length), m) → ∀ a ∈ l, -1 ≤ a.kids
  | [], _, _, _, _, _ => nofun
  | a :: r, left, most, i, m, h => by
    unfold behind at h
    by_cases hk : a.kids < -1
    · rw [if_pos hk] at h; simp at h
    · rw [if_neg hk] at h
      have ha : -1 ≤ a.kids := by omega
      intro b hb
      rcases List.mem_cons.1 hb with rfl | hb
      · exact ha
      · dsimp only at h
        generalize (if leaf a = true then dec left else count a :: dec left) = l2 at h
        split at h
        · simp only [Prod.mk.injEq, Option.some.injEq, List.length_cons] at h
          have : r.length = 0 := by omega
          rw [List.eq_nil_of_length_eq_zero this] at hb
          cases hb
        · exact behind_kids r _ _ (i + 1) m (by rw [h, List.length_cons]; congr 2; omega) b hb
/-- What the reference's Encode finds wrong with one. -/
def refW (a : Node) : Bool := !(R5.tagE a.tag.toNat == 0 && (R5.inner a.tag.toNat == decide (0 ≤ a.kids)) && (if leaf a then R5.body a.tag.toNat a.body else a.body.isEmpty))
theorem right_refW {a : Node} (h : -1 ≤ a.kids) : right a = !refW a := by
  unfold right refW
  rw [Bool.not_not, decide_eq_true h, Bool.and_true]
  have e : (!leaf a) = decide (0 ≤ a.kids) := by
    unfold leaf
    by_cases hk : a.kids < 0
    · rw [decide_eq_true hk, decide_eq_false (by omega)]; rfl
    · rw [decide_eq_false hk, decide_eq_true (by omega)]; rfl
  rw [e]
theorem refW_ways (a : Node) : (∃ te, te = R5.tagE a.tag.toNat ∧ (te == 0) = false ∧ refW a = true) ∨ (R5.tagE a.tag.toNat = 0 ∧
    ((R5.inner a.tag.toNat = true ∧ ¬ 0 ≤ a.kids ∧ refW a = true) ∨ (R5.inner a.tag.toNat = false ∧ 0 ≤ a.kids ∧ refW a = true) ∨ (R5.inner a.tag.toNat = true ∧ 0 ≤ a.kids ∧ refW a = !a.body.isEmpty) ∨ (R5.inner a.tag.toNat = false ∧ ¬ 0 ≤ a.kids ∧ refW a = !R5.body a.tag.toNat a.body))) := by
  unfold refW
  by_cases h1 : R5.tagE a.tag.toNat = 0
  · refine .inr ⟨h1, ?_⟩
    rw [show (R5.tagE a.tag.toNat == 0) = true from beq_iff_eq.2 h1, Bool.true_and]
    by_cases h3 : 0 ≤ a.kids
    · have hl : leaf a = false := decide_eq_false (by omega)
      rw [hl, decide_eq_true h3]
      cases R5.inner a.tag.toNat
      · exact .inr (.inl ⟨rfl, h3, rfl⟩)
      · exact .inr (.inr (.inl ⟨rfl, h3, by simp⟩))
    · have hl : leaf a = true := decide_eq_true (by omega)
      rw [hl, decide_eq_false h3]
      cases R5.inner a.tag.toNat
      · exact .inr (.inr (.inr ⟨rfl, h3, by simp⟩))
      · exact .inl ⟨rfl, h3, rfl⟩
  · exact .inl ⟨_, rfl, beq_eq_false_iff_ne.2 h1, by rw [show (R5.tagE a.tag.toNat == 0) = false from beq_eq_false_iff_ne.2 h1]; rfl⟩
theorem tot_take (l : List Node) (k : Nat) (hk : k < l.length) : totN (l.take (k + 1)) 0 = if 262144 < l[k].body.length ∨ 262144 < totN (l.take k) 0 then 262145 else totN (l.take k) 0 + l[k].body.length := by
  rw [List.take_succ_eq_append_getElem hk, tot_app]
end Go.Px.E5
namespace Go.Proofs.YtceffhkgnifmeaaDoor
open Go.RowKit Go.Px Go.Px.R5

theorem inner_t (t : Nat) (h : inner t = true) : ((t : Int) / 32 % 2 == 1) = true := by
  unfold inner at h
  rw [beq_iff_eq] at h ⊢
  omega
theorem inner_f (t : Nat) (h : inner t = false) : ((t : Int) / 32 % 2 == 1) = false := by
  unfold inner at h
  rw [beq_eq_false_iff_ne] at h ⊢
  omega
set_option maxRecDepth 100000 in
set_option maxHeartbeats 8000000 in
theorem refencode_any (v : Value) (l : List Px.Node) (w : World) (h : Lies w 3 cNode v l) (hw : ∀ a ∈ l, -9223372036854775808 ≤ a.kids ∧ a.kids ≤ 9223372036854775807 ∧ a.body.length ≤ 140737488355327) :
    Calls Tryd.prog 19 #[v] w (EncP w l) := by
  obtain ⟨va, vc, hv, hv1, hv2⟩ := h.slice
  subst hv
  have hvm : l.length ≤ 9223372036854775807 := by unfold maxLen at hv2; omega
  have H := Px.hid (And.intro h hw)
  clear h hw hv2
  by_cases hmany : 4096 < l.length
  · have hz : (4096 : Int) < (l.length : Int) := by omega
    have HR := Px.hid (show E5.Enc l ([], 10) from .many hmany)
    clear hmany
    go_enter Tryd.func19, Tryd.ntmps19
    go_wp2
    go_ret2
    exact EncP.mk [] 10 HR.out rfl (Same.refl w)
  · have hz : ¬ (4096 : Int) < (l.length : Int) := by omega
    have hl : l.length ≤ 4096 := by omega
    clear hmany
    have HB := Px.hid (behind_any _ l w H.out.1 hl (fun a ha => ⟨(H.out.2 a ha).1, (H.out.2 a ha).2.1⟩))
    obtain ⟨eb, m, hem⟩ : ∃ eb m, E5.behind l [] 0 0 = (eb, m) := ⟨_, _, rfl⟩
    rw [hem] at HB
    by_cases hend : l ≠ [] ∧ eb = some l.length
    · obtain ⟨hne, rfl⟩ := hend
      have hpos : 0 < l.length := List.length_pos_iff.2 hne
      have HEM := Px.hid (And.intro hem hne)
      have HKIDS := Px.hid (E5.behind_kids l [] 0 0 m (by rw [Nat.zero_add]; exact hem))
      unfold behV at HB
      have hne0 : ((l.length : Int) == 0) = false := beq_eq_false_iff_ne.2 (by omega)
      clear hem hne
      go_enter Tryd.func19, Tryd.ntmps19
      go_wp2_with fail
      refine HB.out.mono ?_
      rintro e w1 ⟨rfl, hs1⟩
      have HS1 := Px.hid hs1
      clear hs1
      go_wp2
      go_loopg [6, 7] (l.length + 1) (fun gk t6 t7 wr => ∃ k : Nat, gk + k = l.length + 1 ∧ k ≤ l.length ∧ t6 = .int .i64 (E5.totN (l.take k) 0 : Nat) ∧ t7 = .int .i64 (k : Nat) ∧ Hid (Same w wr ∧ E5.totN (l.take k) 0 ≤ 524288 ∧ ∀ j (hj : j < l.length), j < k → E5.right l[j] = true))
      case atStart => exact ⟨0, rfl, Nat.zero_le _, rfl, rfl, Px.hid ⟨HS1.out, by simp [E5.totN], fun j hj h => absurd h (Nat.not_lt_zero j)⟩⟩
      case round =>
        clear HS1
        obtain ⟨k, hgk, hk, rfl, rfl, HT⟩ := hrel
        have HG := Px.hid hgk
        clear hgk
        have htb := HT.out.2.1
        have HTK := Px.hid (fun hk => E5.tot_take l k hk)
        obtain ⟨tk, htk⟩ : ∃ tk, tk = E5.totN (l.take k) 0 := ⟨_, rfl⟩
        rw [← htk] at HTK htb ⊢
        have HTKE := Px.hid htk
        clear htk
        by_cases hlt : k < l.length
        · have hlz : (k : Int) < (l.length : Int) := by omega
          obtain ⟨g', rfl⟩ : ∃ g', gk = g' + 1 := ⟨gk - 1, by have := HG.out; omega⟩
          obtain ⟨xb, xo, xc, hve, hxb, hcx⟩ := (Lies.same H.out.1 HT.out.1).cell k l[k] (by simp [hlt])
          simp only [Value.slice.injEq, true_and] at hve
          obtain ⟨rfl, rfl⟩ := hve
          have x0 := hcx 0 _ rfl
          have x1 := hcx 1 _ rfl
          have x2 := hcx 2 _ rfl
          rw [← Nat.add_assoc] at x0 x1 x2
          rw [Nat.add_zero] at x0
          have hmem : l[k] ∈ l := List.getElem_mem _
          have hsum := HTK.out hlt
          obtain ⟨x, hx⟩ : ∃ x, x = l[k] := ⟨_, rfl⟩
          rw [← hx] at x0 x1 x2 hmem hsum
          have hxl := H.out.2 x hmem
          have HX := Px.hid (And.intro hx (And.intro hmem (And.intro hsum (And.intro hxl.2.2 (HKIDS.out x hmem)))))
          have hk1 := hxl.1
          have hk2 := hxl.2.1
          have hbl := hxl.2.2
          have hsz : (ByteArray.mk x.body.toArray).size = x.body.length := size_S x.body
          clear hcx hx hmem hsum hxl
          go_upto_region 11 with fail
          obtain ⟨q, hq⟩ : ∃ q, q = wr.heap.size := ⟨_, rfl⟩
          obtain ⟨WX, hWX⟩ : ∃ WX, WX = wr.alloc (.cells #[.int .u8 x.tag.toNat, .int .i64 x.kids, .string ⟨x.body.toArray⟩] 63 (0, 0)) := ⟨_, rfl⟩
          rw [← hWX, ← hq]
          have hsX : Same wr WX := by rw [hWX]; exact (Same.refl wr).alloc _
          have hbX : WX.heap[q]? = some (.cells #[.int .u8 x.tag.toNat, .int .i64 x.kids, S x.body] 63 (0, 0)) := by rw [hWX, hq]; exact heap_alloc_new wr _
          have HSX := Px.hid (And.intro (HT.out.1.trans hsX) hbX)
          have y0 := cellOf hbX 0 rfl
          have y1 := cellOf hbX 1 rfl
          have y2 := cellOf hbX 2 rfl
          clear hWX hsX hbX x0 x1 x2 hq
          have htb8 : x.tag.toNat < 256 := UInt8.toNat_lt _
          go_cut [77] (fun t77 wx => t77 = .bool (E5.refW x) ∧ Same WX wx)
          case first =>
            rcases E5.refW_ways x with ⟨te, hte, q1, q2⟩ | ⟨hte, ⟨q1, q3, q2⟩ | ⟨q1, q3, q2⟩ | ⟨q1, q3, q2⟩ | ⟨q1, q3, q2⟩⟩
            · have HE := Px.hid (And.intro hte q2)
              have hne : ¬ te = 0 := beq_eq_false_iff_ne.1 q1
              have hbn : (te != 0) = true := bne_iff_ne.2 hne
              clear hte q2
              go_wp2_with fail
              refine (rtag_any _ htb8 _).mono ?_
              rintro r w2 ⟨rfl, hw2⟩
              subst hw2
              rw [← HE.out.1]
              go_wp2_with fail
              go_meet
              rw [HE.out.2]
              exact ⟨rfl, Same.refl _⟩
            · have HE := Px.hid (And.intro hte q2)
              have hbt := inner_t _ q1
              have d2 := decide_eq_false q3
              clear hte q2 q1
              go_wp2_with fail
              refine (rtag_any _ htb8 _).mono ?_
              rintro r w2 ⟨rfl, hw2⟩
              subst hw2
              rw [HE.out.1]
              go_wp2_with fail
              go_meet
              rw [HE.out.2]
              exact ⟨rfl, Same.refl _⟩
            · have HE := Px.hid (And.intro hte q2)
              have hbt := inner_f _ q1
              have d2 := decide_eq_true q3
              clear hte q2 q1
              go_wp2_with fail
              refine (rtag_any _ htb8 _).mono ?_
              rintro r w2 ⟨rfl, hw2⟩
              subst hw2
              rw [HE.out.1]
              go_wp2_with fail
              go_meet
              rw [HE.out.2]
              exact ⟨rfl, Same.refl _⟩
            · have HE := Px.hid (And.intro hte q2)
              have hbt := inner_t _ q1
              have d2 := decide_eq_true q3
              have d3 : ¬ x.kids < 0 := by omega
              clear hte q2 q1
              by_cases hbe : x.body = []
              · have HE2 := Px.hid (show (!x.body.isEmpty) = false by rw [hbe]; rfl)
                rw [hbe] at y2
                clear hbe
                go_wp2_with fail
                refine (rtag_any _ htb8 _).mono ?_
                rintro r w2 ⟨rfl, hw2⟩
                subst hw2
                rw [HE.out.1]
                go_wp2_with fail
                go_meet
                rw [HE.out.2, HE2.out]
                exact ⟨rfl, Same.refl _⟩
              · have HE2 := Px.hid (show (!x.body.isEmpty) = true by rw [show x.body.isEmpty = false by rw [List.isEmpty_eq_false_iff]; exact hbe]; rfl)
                obtain ⟨nb, hnb⟩ : ∃ nb, x.body.length = nb + 1 := ⟨x.body.length - 1, by have := List.length_pos_iff.2 hbe; omega⟩
                rw [hnb] at hsz
                clear hbe hnb
                go_wp2_with fail
                refine (rtag_any _ htb8 _).mono ?_
                rintro r w2 ⟨rfl, hw2⟩
                subst hw2
                rw [HE.out.1]
                go_wp2_with fail
                go_meet
                rw [HE.out.2, HE2.out]
                exact ⟨rfl, Same.refl _⟩
            · have HE := Px.hid (And.intro hte q2)
              have hbt := inner_f _ q1
              have d2 := decide_eq_false q3
              have d3 : x.kids < 0 := by omega
              clear hte q2 q1
              go_wp2_with fail
              refine (rtag_any _ htb8 _).mono ?_
              rintro r w2 ⟨rfl, hw2⟩
              subst hw2
              rw [HE.out.1]
              go_wp2_with fail
              refine (rbody_any _ _ HX.out.2.2.2.1 _).mono ?_
              rintro r w3 ⟨rfl, hs3⟩
              have HS3 := Px.hid hs3
              clear hs3
              go_wp2_with fail
              go_meet
              rw [HE.out.2]
              exact ⟨rfl, HS3.out⟩
          case rest =>
            obtain ⟨rfl, hsc⟩ := hcut
            have HSC := Px.hid (And.intro (HSX.out.1.trans hsc) ((hsc.block q (ltOf HSX.out.2) (fun x => x)).trans HSX.out.2))
            clear hsc y0 y1 y2 HSX
            cases hrw : E5.refW x
            · have HRW := Px.hid (show E5.right x = true by rw [E5.right_refW HX.out.2.2.2.2, hrw]; rfl)
              clear hrw
              have y2 := cellOf HSC.out.2 2 rfl
              obtain ⟨tn, htn⟩ : ∃ tn, tn = (if 262144 < x.body.length ∨ 262144 < tk then 262145 else tk + x.body.length) := ⟨_, rfl⟩
              have HTN := Px.hid htn
              clear htn
              obtain ⟨BG, hBG⟩ : ∃ BG, BG = decide (262144 < x.body.length ∨ 262144 < tk) := ⟨_, rfl⟩
              have HBG := Px.hid hBG
              clear hBG
              go_upto_region 13 with fail
              go_cut [85] (fun t85 wx => t85 = .bool BG ∧ wx = wc)
              case first =>
                by_cases hb1 : 262144 < x.body.length
                · have hz1 : (262144 : Int) < (x.body.length : Int) := by omega
                  have HE := Px.hid (show BG = true by rw [HBG.out, decide_eq_true (.inl hb1)])
                  clear hb1
                  go_wp2_with fail
                  go_meet
                  rw [HE.out]
                  exact ⟨rfl, rfl⟩
                · have hz1 : ¬ (262144 : Int) < (x.body.length : Int) := by omega
                  by_cases hb2 : 262144 < tk
                  · have hz2 : (262144 : Int) < (tk : Int) := by omega
                    have HE := Px.hid (show BG = true by rw [HBG.out, decide_eq_true (.inr hb2)])
                    clear hb1 hb2
                    go_wp2_with fail
                    go_meet
                    rw [HE.out]
                    exact ⟨rfl, rfl⟩
                  · have hz2 : ¬ (262144 : Int) < (tk : Int) := by omega
                    have HE := Px.hid (show BG = false by rw [HBG.out, decide_eq_false (by omega)])
                    clear hb1 hb2
                    go_wp2_with fail
                    go_meet
                    rw [HE.out]
                    exact ⟨rfl, rfl⟩
              case rest =>
               obtain ⟨rfl, hwc⟩ := hcut
               subst hwc
               have htn5 : tn ≤ 524288 := by rw [HTN.out]; split <;> omega
               have HREL := Px.hid (show tn = E5.totN (l.take (k + 1)) 0 ∧ Same w wc ∧ E5.totN (l.take (k + 1)) 0 ≤ 524288 ∧ ∀ j (hj : j < l.length), j < k + 1 → E5.right l[j] = true from by
                have e : tn = E5.totN (l.take (k + 1)) 0 := by rw [HX.out.2.2.1]; exact HTN.out
                refine ⟨e, HSC.out.1, by rw [← e]; exact htn5, fun j hj hjk => ?_⟩
                by_cases hjk2 : j < k
                · exact HT.out.2.2 j hj hjk2
                · obtain rfl : j = k := by omega
                  rw [← HX.out.1]
                  exact HRW.out)
               cases BG
               · have hnb := of_decide_eq_false HBG.out.symm
                 have HE := Px.hid (show tn = tk + x.body.length by rw [HTN.out, if_neg hnb])
                 have h1 : x.body.length ≤ 262144 := by omega
                 have h2 : tk ≤ 262144 := by omega
                 clear hnb
                 go_wp2
                 go_roundg g'
                 case measure => omega
                 case rel => exact ⟨k + 1, by have := HG.out; omega, by omega, by rw [← HREL.out.1, HE.out]; go_num, by go_num, Px.hid HREL.out.2⟩
               · have HE := Px.hid (show tn = 262145 by rw [HTN.out, if_pos (of_decide_eq_true HBG.out.symm)])
                 go_wp2
                 go_roundg g'
                 case measure => omega
                 case rel => exact ⟨k + 1, by have := HG.out; omega, by omega, by rw [← HREL.out.1, HE.out]; rfl, by go_num, Px.hid HREL.out.2⟩
            · have HR := Px.hid (E5.enc_wrong hl HX.out.2.1 (by rw [E5.right_refW HX.out.2.2.2.2, hrw]; rfl))
              clear hrw
              go_wp2
              go_ret2
              exact EncP.mk [] 9 HR.out rfl HSC.out.1
        · have hlz : ¬ (k : Int) < (l.length : Int) := by omega
          have HTE := Px.hid (show tk = E5.totN l 0 by rw [HTKE.out, show k = l.length by omega, List.take_length])
          have HSH := Px.hid (E5.shape_behind HEM.out.1 (fun a ha => by
            obtain ⟨j, hj, rfl⟩ := List.getElem_of_mem ha
            exact HT.out.2.2 j hj (by omega)))
          clear hk hlt HG HTKE HTK
          by_cases h32 : 32 < m
          · have h32z : (32 : Int) < (m : Int) := by omega
            have HR := Px.hid (show E5.Enc l ([], 10) from .deep m hl HSH.out HEM.out.2 h32)
            clear h32
            go_wp2
            go_ret2
            exact EncP.mk [] 10 HR.out rfl HT.out.1
          · have h32z : ¬ (32 : Int) < (m : Int) := by omega
            by_cases hbig : 262144 < tk
            · have hbz : (262144 : Int) < (tk : Int) := by omega
              have HR := Px.hid (E5.enc_total hl HEM.out.2 HSH.out (by omega) (by rw [← HTE.out]; exact hbig))
              clear h32 hbig
              go_wp2
              go_ret2
              exact EncP.mk [] 10 HR.out rfl HT.out.1
            · have hbz : ¬ (262144 : Int) < (tk : Int) := by omega
              obtain ⟨B, o, hit⟩ := E5.el_of_shape (D := 32) HEM.out.2 HSH.out (by omega)
              have hBl := E5.el_total hl hit (by rw [← HTE.out]; exact hbig)
              obtain ⟨xb, xo, xc, hve, hxb, _⟩ := (Lies.same H.out.1 HT.out.1).cell 0 l[0] (by simp [hpos])
              simp only [Value.slice.injEq, true_and] at hve
              obtain ⟨rfl, rfl⟩ := hve
              have hlst : Lst wr wr.heap.size xb xo l := ⟨fun j x hj i u hu => by
                obtain ⟨b', o', c', hve, _, hc⟩ := (Lies.same H.out.1 HT.out.1).cell j x hj
                simp only [Value.slice.injEq, Option.some.injEq, Addr.mk.injEq, and_true, true_and] at hve
                obtain ⟨⟨rfl, rfl⟩, _⟩ := hve
                exact hc i u hu, hxb, Nat.le_refl _, hl⟩
              have HTO := Px.hid (And.intro (told_any wr wr.heap.size xb xo vc l hlst 32) (And.intro hit (show B.length ≤ 1000000 by omega)))
              clear hlst hit h32 hbig hBl
              go_wp2_with fail
              have HBX := Px.hid (show Tl (wr.alloc (.cells #[.slice (some ⟨xb, xo, none⟩) l.length vc, .bool false, .bool false] 87 (0, 0))) wr.heap.size (.slice (some ⟨xb, xo, none⟩) l.length vc) false false from ⟨heap_alloc_new wr _⟩)
              refine (HTO.out.1 _ 0 l [] B o false HBX.out ((Same.refl wr).alloc _) HTO.out.2.1 (by simp) HTO.out.2.2).mono ?_
              rintro e w5 ⟨s, k', lg, ou, rfl, htold, _⟩
              have HQ := Px.hid htold
              have q1 := htold.tl.cells.2.1
              have q2 := htold.tl.cells.2.2
              have hsz : (ByteArray.mk s.toArray).size = s.length := size_S s
              clear htold
              have HS5 := Px.hid (HT.out.1.trans HQ.out.same)
              cases lg
              · have hor : s = B ∧ ou = o := by
                  rcases HQ.out.or with ⟨_, e, _, e2⟩ | ⟨e, _⟩
                  · exact ⟨e, by rw [e2]; rfl⟩
                  · cases e
                have HEL := Px.hid (show E5.El 32 l s ou by rw [hor.1, hor.2]; exact HTO.out.2.1)
                have hs1 : s.length ≤ 1000000 := by rw [hor.1]; exact HTO.out.2.2
                clear hor
                by_cases hlong : 262144 < s.length
                · have hlz2 : (262144 : Int) < (s.length : Int) := by omega
                  have HR := Px.hid (show E5.Enc l ([], 10) from .long s ou hl HEL.out hlong)
                  clear hlong
                  go_wp2
                  go_ret2
                  exact EncP.mk [] 10 HR.out rfl HS5.out
                · have hlz2 : ¬ (262144 : Int) < (s.length : Int) := by omega
                  cases ou
                  · have HR := Px.hid (show E5.Enc l (s, 0) from .ok s hl HEL.out (by omega))
                    clear hlong
                    go_wp2
                    go_ret2
                    exact EncP.mk s 0 HR.out rfl HS5.out
                  · have HR := Px.hid (show E5.Enc l ([], 9) from .out s hl HEL.out (by omega))
                    clear hlong
                    go_wp2
                    go_ret2
                    exact EncP.mk [] 9 HR.out rfl HS5.out
              · have HR := Px.hid (show E5.Enc l ([], 10) from .long B o hl HTO.out.2.1 (by
                  rcases HQ.out.or with ⟨e, _⟩ | ⟨_, e, _⟩
                  · cases e
                  · exact e))
                go_wp2
                go_ret2
                exact EncP.mk [] 10 HR.out rfl HS5.out
    · have HR := Px.hid (E5.enc_behind hl (by
        by_cases hn : l = []
        · exact .inl hn
        · exact .inr (by rw [hem]; exact fun e => hend ⟨hn, e⟩)))
      unfold behV at HB
      have HEND := Px.hid hend
      clear hem hend
      cases eb with
      | none =>
        have hne : ((-1 : Int) != (l.length : Int)) = true := bne_iff_ne.2 (by omega)
        go_enter Tryd.func19, Tryd.ntmps19
        go_wp2_with fail
        refine HB.out.mono ?_
        rintro e w2 ⟨rfl, hs2⟩
        have HS2 := Px.hid hs2
        clear hs2
        by_cases hn0 : l.length = 0
        · have hnz : ((l.length : Int) == 0) = true := beq_iff_eq.2 (by omega)
          clear hn0
          go_wp2
          go_ret2
          exact EncP.mk [] 9 HR.out rfl HS2.out
        · have hnz : ((l.length : Int) == 0) = false := beq_eq_false_iff_ne.2 (by omega)
          clear hn0
          go_wp2
          go_ret2
          exact EncP.mk [] 9 HR.out rfl HS2.out
      | some p =>
        go_enter Tryd.func19, Tryd.ntmps19
        go_wp2_with fail
        refine HB.out.mono ?_
        rintro e w2 ⟨rfl, hs2⟩
        have HS2 := Px.hid hs2
        clear hs2
        by_cases hn0 : l.length = 0
        · have hnz : ((l.length : Int) == 0) = true := beq_iff_eq.2 (by omega)
          clear hn0
          go_wp2
          go_ret2
          exact EncP.mk [] 9 HR.out rfl HS2.out
        · have hnz : ((l.length : Int) == 0) = false := beq_eq_false_iff_ne.2 (by omega)
          have hne : ((p : Int) != (l.length : Int)) = true := bne_iff_ne.2 (fun e => HEND.out ⟨fun e2 => hn0 (by rw [e2]; rfl), by rw [show p = l.length by omega]⟩)
          clear hn0
          go_wp2
          go_ret2
          exact EncP.mk [] 9 HR.out rfl HS2.out
end Go.Proofs.YtceffhkgnifmeaaDoor

/-! The walks over copied and over Same on an argument's list (layer 15). -/
namespace Go.Proofs.YtceffhkgnifmeaaDoor
open Go.RowKit Go.Px Go.Px.R5

theorem node_one (l : List Px.Node) : ∀ u ∈ l.flatMap cNode, u.oneCell' = true := by
  intro u hu
  simp only [List.mem_flatMap] at hu
  obtain ⟨a, _, hu⟩ := hu
  simp only [cNode, List.mem_cons, List.not_mem_nil, or_false] at hu
  rcases hu with rfl | rfl | rfl <;> rfl
set_option maxRecDepth 100000 in
set_option maxHeartbeats 2000000 in
theorem copied_any (v : Value) (l : List Px.Node) (w : World) (h : Lies w 3 cNode v l) (hl : l.length * 32 ≤ 140737488351232) :
    Calls Tryd.prog 18 #[v] w fun e w' => ∃ vo, e = .returned vo ∧ Owns w' 63 3 cNode vo l ∧ Same w w' := by
  have hsrc : ∀ W, Same w W → Src Tryd.prog 3 25 v l.length (l.flatMap cNode) W := fun W hW => (Lies.same h hW).src cNode_len (by omega) Tryd.underlying25 (node_one l)
  have H := Px.hid hsrc
  clear h hsrc
  obtain ⟨i0, hi0, hz0, hz1, hz2⟩ := info_parts Tryd.infoNode
  go_enter Tryd.func18, Tryd.ntmps18
  go_wp2_with (at_builtin; go_must (refine wpList_append_src0 rfl _ _ 25 25 rfl 63 i0 _ 3 32 Tryd.underlying25 hi0 hz0 hz1 hz2 rfl w.heap.size rfl (heap_alloc_new w _) v l.length (l.flatMap cNode) rfl (H.out _ ((Same.refl w).alloc _)) (by unfold maxLen; omega) (by omega) ?_))
  intro g cap w' hown hgrow hat
  go_wp2
  go_ret
  exact ⟨_, rfl, hown, Fr.grown ((Same.refl w).alloc _) hgrow (fun k e => by cases e)⟩
set_option maxRecDepth 100000 in
set_option maxHeartbeats 2000000 in
theorem same_lies (w : World) (va vb : Value) (l : List Px.Node) (ha : Lies w 3 cNode va l) (hb : Lies w 3 cNode vb l) :
    Calls Tryd.prog 16 #[va, vb] w fun r w' => r = .returned (.bool true) ∧ Same w w' := by
  obtain ⟨aa, ac, hva, hac1, hac2⟩ := ha.slice
  obtain ⟨ba, bc, hvb, _, _⟩ := hb.slice
  subst hva hvb
  have HA := Px.hid (And.intro ha hb)
  have hlm : l.length ≤ maxLen := Nat.le_trans hac1 hac2
  unfold maxLen at hlm
  clear ha hb hac1 hac2
  go_enter Tryd.func16, Tryd.ntmps16
  go_wp2
  go_loopw [5] (fun i wr => ∃ k : Nat, k ≤ l.length ∧ i = .int .i64 (k : Nat) ∧ Same w wr) (fun i _ => l.length - (intOf i).toNat)
  case atStart => exact ⟨0, Nat.zero_le _, rfl, Same.refl w⟩
  case round =>
    obtain ⟨k, hk, rfl, hs⟩ := hrel
    by_cases hlt : k < l.length
    · have hltz : (k : Int) < (l.length : Int) := by omega
      obtain ⟨g1, q1, p1, e1, _, c1⟩ := (Lies.same HA.out.1 hs).cell k l[k] (by simp [hlt])
      obtain ⟨g2, q2, p2, e2, _, c2⟩ := (Lies.same HA.out.2 hs).cell k l[k] (by simp [hlt])
      simp only [Value.slice.injEq, true_and] at e1 e2
      obtain ⟨rfl, rfl⟩ := e1
      obtain ⟨rfl, rfl⟩ := e2
      have x0 := c1 0 _ rfl
      have x1 := c1 1 _ rfl
      have x2 := c1 2 _ rfl
      have y0 := c2 0 _ rfl
      have y1 := c2 1 _ rfl
      have y2 := c2 2 _ rfl
      have HS := Px.hid hs
      clear c1 c2 hs HA
      obtain ⟨kd, hkd⟩ : ∃ kd, kd = l[k].tag.toNat := ⟨_, rfl⟩
      obtain ⟨nm, hnm⟩ : ∃ nm, nm = l[k].kids := ⟨_, rfl⟩
      obtain ⟨tx, htx⟩ : ∃ tx, tx = l[k].body := ⟨_, rfl⟩
      rw [← hkd] at x0 y0
      rw [← hnm] at x1 y1
      rw [← htx] at x2 y2
      clear hkd hnm htx
      rw [← Nat.add_assoc] at x0 y0 x1 y1 x2 y2
      rw [Nat.add_zero] at x0 y0
      go_wp2_with fail
      go_quiet (fail)
      go_wp2
      go_roundw
      case rel => exact ⟨k + 1, by omega, by go_num, (HS.out.drewN nq)⟩
      case measure => simp [intOf]; omega
    · have hltz : ¬ (k : Int) < (l.length : Int) := by omega
      have HS := Px.hid hs
      clear hs
      go_wp2
      go_ret
      exact ⟨rfl, HS.out⟩
/-- What a list as an argument gives. -/
structure NodesAt (w : World) (v : Value) (l : List Px.Node) : Prop where
  lies : Lies w 3 cNode v l
  wf : ∀ a ∈ l, -9223372036854775808 ≤ a.kids ∧ a.kids ≤ 9223372036854775807
end Go.Proofs.YtceffhkgnifmeaaDoor

/-! The walks over the statements DerTells and DerBack. -/
namespace Go.Proofs.YtceffhkgnifmeaaDoor
open Go.RowKit Go.Px Go.Px.R5

set_option maxRecDepth 100000 in
set_option maxHeartbeats 2000000 in
theorem law_DerTells {v : Value} (l : List Px.Node) (w : World) (h : NodesAt w v l) (hl : l.length * 32 ≤ 140737488351232 ∧ ∀ a ∈ l, a.body.length ≤ 140737488351232) (hT : Tabs w) :
    Calls Tryd.prog 4 #[v] w fun e w' => e = .returned (.bool true) ∧ Below w.heap.size w w' := by
  have hw : ∀ a ∈ l, -9223372036854775808 ≤ a.kids ∧ a.kids ≤ 9223372036854775807 ∧ a.body.length ≤ 140737488355327 := fun a ha => ⟨(h.wf a ha).1, (h.wf a ha).2, by have := hl.2 a ha; omega⟩
  have H := Px.hid (And.intro h.lies (And.intro hl.1 (And.intro hT hw)))
  clear h hl hT hw
  go_enter Tryd.func4, Tryd.ntmps4
  go_wp2_with fail
  refine (wakes15_any _ H.out.2.2.1).mono ?_
  rintro e w1 ⟨rfl, hs⟩
  have HS := Px.hid hs
  clear hs
  go_wp2_with fail
  refine (copied_any v l _ (Lies.same H.out.1 HS.out) H.out.2.1).mono ?_
  rintro e w2 ⟨vo, rfl, ho, hs⟩
  have HO := Px.hid ho
  have HS := Px.hid (HS.out.trans hs)
  clear ho hs
  go_wp2_with fail
  refine (dencode_any vo l _ (HO.out.lies cNode_len) H.out.2.2.2 (H.out.2.2.1.same HS.out)).mono ?_
  rintro e w3 ⟨d, hd, rfl, hs⟩
  have HS := Px.hid (HS.out.trans hs)
  have HD := Px.hid hd
  clear hs hd
  go_wp2_with fail
  refine (refencode_any v l _ (Lies.same H.out.1 HS.out) H.out.2.2.2).mono ?_
  rintro e w4 ⟨d2, hd2, rfl, hs⟩
  have HS := Px.hid (HS.out.trans hs)
  obtain rfl : d2 = d := hd2.det HD.out
  clear hs hd2
  go_wp2
  go_ret
  exact ⟨rfl, HS.out.below⟩
set_option maxRecDepth 100000 in
set_option maxHeartbeats 2000000 in
theorem law_DerBack {v : Value} (l : List Px.Node) (w : World) (h : NodesAt w v l) (hl : l.length * 32 ≤ 140737488351232 ∧ ∀ a ∈ l, a.body.length ≤ 140737488351232) (hT : Tabs w) :
    Calls Tryd.prog 5 #[v] w fun e w' => e = .returned (.bool true) ∧ Below w.heap.size w w' := by
  have hw : ∀ a ∈ l, -9223372036854775808 ≤ a.kids ∧ a.kids ≤ 9223372036854775807 ∧ a.body.length ≤ 140737488355327 := fun a ha => ⟨(h.wf a ha).1, (h.wf a ha).2, by have := hl.2 a ha; omega⟩
  have H := Px.hid (And.intro h.lies (And.intro hl.1 (And.intro hT hw)))
  clear h hl hT hw
  go_enter Tryd.func5, Tryd.ntmps5
  go_wp2_with fail
  refine (wakes15_any _ H.out.2.2.1).mono ?_
  rintro e w1 ⟨rfl, hs⟩
  have HS := Px.hid hs
  clear hs
  go_wp2_with fail
  refine (copied_any v l _ (Lies.same H.out.1 HS.out) H.out.2.1).mono ?_
  rintro e w2 ⟨vo, rfl, ho, hs⟩
  have HO := Px.hid ho
  have HS := Px.hid (HS.out.trans hs)
  clear ho hs
  go_wp2_with fail
  refine (dencode_any vo l _ (HO.out.lies cNode_len) H.out.2.2.2 (H.out.2.2.1.same HS.out)).mono ?_
  rintro e w3 ⟨⟨s, c⟩, hd, rfl, hs⟩
  have HS := Px.hid (HS.out.trans hs)
  clear hs
  by_cases he : c = 0
  · have hb := E5.Enc.back hd he most most_may rfl rfl rfl
    have hlen : s.length ≤ 140737488355327 := by
      cases hd with
      | ok _ _ _ h => show s.length ≤ _; omega
      | _ => simp at he
    have HB := Px.hid (And.intro hb hlen)
    clear hb hlen hd
    subst he
    go_wp2_with fail
    refine (most_any _).mono ?_
    rintro e w4 ⟨rfl, hs⟩
    have HS := Px.hid (HS.out.trans hs)
    clear hs
    go_wp2_with fail
    refine (decode_any s most HB.out.2 _ (H.out.2.2.1.same HS.out)).mono ?_
    intro e w5 hg
    obtain ⟨a, c, rfl, ho, hs⟩ := hg.len
    rw [HB.out.1] at ho ⊢
    have HO := Px.hid ho
    have HS := Px.hid (HS.out.trans hs)
    clear hg ho hs
    go_wp2_with fail
    refine (same_lies _ _ _ l (Lies.same H.out.1 HS.out) (HO.out.lies cNode_len)).mono ?_
    rintro e w6 ⟨rfl, hs⟩
    have HS := Px.hid (HS.out.trans hs)
    clear hs
    go_wp2
    go_ret
    exact ⟨rfl, HS.out.below⟩
  · have hnl : s = [] := E5.Enc.fail hd he
    have hb : (c != 0) = true := bne_iff_ne.2 he
    clear he hd
    subst hnl
    go_wp2
    go_ret
    exact ⟨rfl, HS.out.below⟩
end Go.Proofs.YtceffhkgnifmeaaDoor

/-! A list of nodes among a statement's arguments, as plain data. -/
namespace Go.Proofs.YtceffhkgnifmeaaDoor
open Go.ChangeShapes Go.WideShapes Go.ChangeAt Go.RowKit Go.Px Go.Shelf Go.Lib

theorem exists_list {α : Type} (p : Nat → α → Prop) : ∀ n : Nat, (∀ i, i < n → ∃ x, p i x) → ∃ l : List α, l.length = n ∧ ∀ (i : Nat) (x : α), l[i]? = some x → p i x
  | 0, _ => ⟨[], rfl, fun i x h => by simp at h⟩
  | n + 1, h => by
    obtain ⟨l, hl, hp⟩ := exists_list p n (fun i hi => h i (by omega))
    obtain ⟨x, hx⟩ := h n (Nat.lt_succ_self n)
    refine ⟨l ++ [x], by simp [hl], fun i y hy => ?_⟩
    by_cases hi : i < n
    · rw [List.getElem?_append_left (by omega)] at hy
      exact hp i y hy
    · rw [List.getElem?_append_right (by omega)] at hy
      have h0 : i - l.length = 0 := by
        rcases Nat.eq_zero_or_pos (i - l.length) with e | e
        · exact e
        · rw [List.getElem?_eq_none (by simp; omega)] at hy; cases hy
      rw [h0] at hy
      simp only [List.getElem?_cons_zero, Option.some.injEq] at hy
      obtain rfl := hy
      obtain rfl : i = n := by omega
      exact hx
theorem node_cells : Tryd.prog.cellsOf 63 = 3 ∧ Tryd.prog.cellsOf 5 = 1 ∧ Tryd.prog.cellsOf 3 = 1 ∧ Tryd.prog.cellsOf 9 = 1 := ⟨by kernel_rfl, by kernel_rfl, by kernel_rfl, by kernel_rfl⟩
set_option maxRecDepth 100000 in
theorem open_node {H : Type} {enc : TypeId × Value → H} {w : World} {base : Nat} {sp : Nat → Bool} {held : Bool} {n : Nat} {cs : List Value} {x : DataW H × List MemPlace} (h : DataW.trod enc Tryd.prog w base sp held n 63 cs = some x) :
    ∃ a : Px.Node, cs = cNode a ∧ (-9223372036854775808 ≤ a.kids ∧ a.kids ≤ 9223372036854775807) ∧ ∃ d0 d1, x.1 = .agg [d0, d1, .lit (.string a.body)] := by
  obtain ⟨ys, n', _, hxe, hlen, hyl, hf⟩ := DataW.trod_struct Tryd.underlying63 h
  obtain ⟨hc3, e0, e1, e2⟩ := node_cells
  rw [hc3] at hlen
  match cs, hlen, ys, hyl, hxe with
  | [c0, c1, c2], _, [y0, y1, y2], _, hxe =>
    have h0 : DataW.trod enc Tryd.prog w base sp held n' 5 (([c0, c1, c2].drop 0).take (Tryd.prog.cellsOf 5)) = some y0 := hf 0 _ rfl
    have h1 : DataW.trod enc Tryd.prog w base sp held n' 3 (([c0, c1, c2].drop 1).take (Tryd.prog.cellsOf 3)) = some y1 := hf 1 _ rfl
    have h2 : DataW.trod enc Tryd.prog w base sp held n' 9 (([c0, c1, c2].drop 2).take (Tryd.prog.cellsOf 9)) = some y2 := hf 2 _ rfl
    rw [e0] at h0
    rw [e1] at h1
    rw [e2] at h2
    obtain ⟨a, ea, _, wa⟩ := DataW.trod_int (x := y0) Tryd.underlying5 h0
    obtain ⟨b, eb, _, wb⟩ := DataW.trod_int (x := y1) Tryd.underlying3 h1
    obtain ⟨s, es, hy2, ws⟩ := DataW.trod_string (x := y2) Tryd.underlying9 h2
    simp only [List.drop_zero, List.drop_succ_cons, List.take_succ_cons, List.take_zero, List.cons.injEq, and_true] at ea eb es
    have ha := int_range wa
    have ha0 : (0 : Int) ≤ a := ha.1
    have ha1 : a ≤ 255 := ha.2
    refine ⟨⟨UInt8.ofNat a.toNat, b, s.data.toList⟩, ?_, int_range wb, y0.1, y1.1, ?_⟩
    · rw [ea, eb, es]
      unfold cNode
      have : (((UInt8.ofNat a.toNat).toNat : Nat) : Int) = a := by rw [UInt8.toNat_ofNat']; omega
      rw [this, ← mk_S]
    · rw [hxe, hy2]
      rfl
set_option maxRecDepth 100000 in
theorem open_nodes {H : Type} {enc : TypeId × Value → H} {w : World} {base b0 : Nat} {held : Bool} {r : Reach} {v : Value} {d : DataW H} {ps : List MemPlace} (hv : Value.okWide Tryd.prog w r b0 25 v) (h : DataW.Trod enc Tryd.prog w base (fun _ => true) held 25 v d ps) :
    ∃ l : List Px.Node, NodesAt w v l ∧ (l = [] ∨ ∃ elems spare, d = .slice elems spare ∧ elems.length = l.length ∧ ∀ (i : Nat) (a : Px.Node), l[i]? = some a → ∃ d0 d1, .agg [d0, d1, .lit (.string a.body)] ∈ elems) := by
  obtain ⟨a0, len, cap, rfl⟩ := okWide_slice Tryd.underlying25 hv
  obtain ⟨fuel, hf⟩ := h
  have hc3 := node_cells.1
  rcases Go.Deep.open_slice Tryd.underlying25 hf with ⟨hcs, _⟩ | ⟨a, len', cap', m, n, D, Pl, hcs, _, hl, hm, hmm, hx, hi⟩
  · simp [Value.cells] at hcs
    obtain ⟨rfl, rfl, rfl⟩ := hcs
    exact ⟨[], ⟨⟨⟨none, 0, rfl, Nat.le_refl _, Nat.zero_le _⟩, fun j x h => by simp at h⟩, fun a ha => by cases ha⟩, .inl rfl⟩
  · simp [Value.cells] at hcs
    obtain ⟨rfl, rfl, rfl⟩ := hcs
    simp only [if_true] at hmm
    simp only [Prod.mk.injEq] at hx
    rw [hc3] at hi
    obtain ⟨l, hll, hp⟩ := exists_list (fun i x => (∀ j u, (cNode x)[j]? = some u → w.cell? (a.add (i * 3 + j)) = some u) ∧ (-9223372036854775808 ≤ x.kids ∧ x.kids ≤ 9223372036854775807) ∧ ∃ d0 d1, D i = .agg [d0, d1, .lit (.string x.body)]) len (fun i hil => by
      obtain ⟨cs', hc, ht⟩ := hi i (by omega)
      obtain ⟨x, rfl, h1, h2⟩ := open_node ht
      obtain ⟨_, _, hat⟩ := World.cells?_some hc
      refine ⟨x, fun j u hu => ?_, h1, h2⟩
      have hj : j < 3 := by
        rcases Nat.lt_or_ge j 3 with e | e
        · exact e
        · rw [List.getElem?_eq_none (show (cNode x).length ≤ j from e)] at hu; cases hu
      rw [← Go.Deep.add_add, hat j hj]
      exact hu)
    refine ⟨l, ⟨⟨⟨some a, cap, by rw [hll], by omega, hm⟩, fun j x hj => ?_⟩, fun x hx => ?_⟩, .inr ⟨_, _, hx.1, by simp [hll], fun i x hix => ?_⟩⟩
    · obtain ⟨hcell, _, _⟩ := hp j x hj
      obtain ⟨b, off, spot⟩ := a
      have h0 := hcell 0 _ rfl
      have hspot : spot = none := by
        have hl0 : 0 < l.length := Nat.lt_of_le_of_lt (Nat.zero_le _) (List.getElem?_eq_some_iff.1 hj).1
        have h00 := (hp 0 l[0] (List.getElem?_eq_getElem hl0)).1 0 _ rfl
        exact World.cell?_spot (show w.cell? ⟨b, off, spot⟩ = some _ from h00)
      subst hspot
      refine ⟨b, off, cap, by rw [hll], ?_, fun i u hu => ?_⟩
      · have := World.block_lt_of_cell? w _ h0
        rw [Go.WideShapes.add_plain] at this
        exact this
      · have := hcell i u hu
        rw [Go.WideShapes.add_plain] at this
        exact this
    · obtain ⟨j, hj, rfl⟩ := List.getElem_of_mem hx
      exact (hp j _ (List.getElem?_eq_getElem hj)).2.1
    · obtain ⟨_, _, d0, d1, e⟩ := hp i x hix
      have hil : i < l.length := (List.getElem?_eq_some_iff.1 hix).1
      exact ⟨d0, d1, List.mem_map.2 ⟨i, List.mem_range.2 (by omega), e⟩⟩
theorem weights_all {H : Type} {P : Program} {e : TypeId} {n : Nat} : ∀ {elems : List (DataW H)} {d : DataW H}, d ∈ elems → n ∈ d.weights P e → n ∈ DataW.weightsAll P e elems
  | x :: r, d, h, hn => by
    unfold DataW.weightsAll
    rcases List.mem_cons.1 h with rfl | h
    · exact List.mem_append_left _ hn
    · exact List.mem_append_right _ (weights_all h hn)
theorem nodes_reach {H : Type} {ts : List TypeId} {ds : List (DataW H)} {d : DataW H} {l : List Px.Node} (hsz : (DataW.weightsEach Tryd.prog ts ds).all (· ≤ reachBytes) = true) {j : Nat} (ht : ts[j]? = some 25) (hd : ds[j]? = some d) (h : l = [] ∨ ∃ elems spare, d = .slice elems spare ∧ elems.length = l.length ∧ ∀ (i : Nat) (a : Px.Node), l[i]? = some a → ∃ d0 d1, .agg [d0, d1, .lit (.string a.body)] ∈ elems) : l.length * 32 ≤ 140737488351232 ∧ ∀ a ∈ l, a.body.length ≤ 140737488351232 := by
  rcases h with rfl | ⟨elems, spare, rfl, he, hm⟩
  · exact ⟨by simp, nofun⟩
  · refine ⟨?_, fun a ha => ?_⟩
    · have := sized_slice hsz ht hd Tryd.underlying25
      rw [show Tryd.prog.bytesOf 63 = 32 by kernel_rfl, he] at this
      have h2 : (l.length + spare.length) * 32 ≤ 140737488351232 := this
      omega
    · obtain ⟨i, hi, rfl⟩ := List.getElem_of_mem ha
      obtain ⟨d0, d1, hmem⟩ := hm i _ (List.getElem?_eq_getElem hi)
      have hw : l[i].body.length ∈ DataW.weights Tryd.prog 25 (DataW.slice elems spare) := by
        unfold DataW.weights
        rw [Tryd.underlying25]
        refine List.mem_cons_of_mem _ (List.mem_append_left _ (weights_all hmem ?_))
        unfold DataW.weights
        rw [Tryd.underlying63]
        simp [DataW.weightsEach, DataW.weights]
      have := List.all_eq_true.1 hsz _ (DataW.weights_mem_each ht hd _ hw)
      have h2 : l[i].body.length ≤ reachBytes := by simpa using this
      exact h2
end Go.Proofs.YtceffhkgnifmeaaDoor
