/-
  Several texts in one: Within an object of a list that is one value, each member's place is in the list (plain law). No program is named here. The walk over the reference's twice (layer 16). The walk over the reference's told (layer 16): how a Teller lies; a value that holds no other.
-/
import Derived.Test.YtahojodgmjmpnaaDoorTK
import Derived.Test.YtahojodgmjmpnaaDoorTW
/-! Within an object of a list that is one value, each member's place is in the list (plain law). No program is named here. -/
namespace Go.Px.E6
open R6 (Bf bad less opened drop0 behN sep)
/-- The places of so many values, one behind another, are in the list. -/
def Safe (L : List Val) : Nat → Nat → Prop
  | 0, _ => True
  | m + 1, p => p < L.length ∧ ∃ e, (R6.behind L p).1 = some e ∧ e ≤ L.length ∧ p < e ∧ Safe L m e
/-- A stretch of a list in which each object is safe. -/
def SafeT (L : List Val) (p n : Nat) : Prop := ∀ j, j < n → (L.getD (p + j) ⟨0, 0, []⟩).kind = 6 → Safe L (L.getD (p + j) ⟨0, 0, []⟩).kids.toNat (p + j + 1)
theorem SafeT.add {L : List Val} {p a b : Nat} (h1 : SafeT L p a) (h2 : SafeT L (p + a) b) : SafeT L p (a + b) := by
  intro j hj hk
  by_cases h : j < a
  · exact h1 j h hk
  · have := h2 (j - a) (by omega)
    rw [show p + a + (j - a) = p + j by omega] at this
    exact this hk
theorem SafeT.one {L : List Val} {p : Nat} (h : (L.getD p ⟨0, 0, []⟩).kind = 6 → Safe L (L.getD p ⟨0, 0, []⟩).kids.toNat (p + 1)) : SafeT L p 1 := by
  intro j hj
  obtain rfl : j = 0 := by omega
  exact h
def SafeIt (d : Nat) : Prop := ∀ x t dp, ItF d x t dp → ∀ (L r : List Val) (p : Nat), L.drop p = x ++ r → SafeT L p x.length
theorem safe_kids {d : Nat} (ih : SafeIt d) {ob : Bool} : ∀ (m k : Nat) (nm : List Bytes) (x : List Val) (u : Bytes) (dp : Bool), Kids (ItF d) ob m k nm x u dp → ∀ (L r : List Val) (p : Nat), L.drop p = x ++ r →
    Safe L m p ∧ SafeT L p x.length
  | 0, k, nm, x, u, dp, h, L, r, p, hL => by
    obtain ⟨rfl, _, rfl⟩ := h
    exact ⟨trivial, fun j hj => by cases hj⟩
  | m + 1, k, nm, x, u, dp, h, L, r, p, hL => by
    obtain ⟨x1, y, u1, v, d1, d2, rfl, _, h1, h2, h3, rfl⟩ := h
    rw [List.append_assoc] at hL
    have hbe := behind_it h1 hL
    have hL2 : L.drop (p + x1.length) = y ++ r := by rw [← List.drop_drop, hL, List.drop_left]
    have e1 := ih x1 u1 d1 h1 L (y ++ r) p hL
    obtain ⟨e2, e3⟩ := safe_kids ih m (k + 1) _ y v d2 h3 L r (p + x1.length) hL2
    have hl := congrArg List.length hL
    rw [List.length_drop, List.length_append] at hl
    have hp := h1.pos
    rw [List.length_append]
    exact ⟨⟨by omega, p + x1.length, hbe, by omega, by omega, e2⟩, e1.add e3⟩
theorem safe_it : ∀ d, SafeIt d
  | 0 => by
    intro x t dp h L r p hL
    obtain ⟨a, rfl, hr, h4, _, rfl⟩ := h
    refine SafeT.one fun h => ?_
    rw [getD_drop hL] at h
    omega
  | d + 1 => by
    intro x t dp h L r p hL
    rcases h with ⟨a, rfl, hr, h4, _, rfl⟩ | ⟨a, r', u, rfl, hr, h5, _, hk⟩
    · refine SafeT.one fun h => ?_
      rw [getD_drop hL] at h
      omega
    · have hL2 : L.drop (p + 1) = r' ++ r := by rw [← List.drop_drop, hL]; rfl
      obtain ⟨e1, e2⟩ := safe_kids (safe_it d) a.kids.toNat 0 [] r' u dp hk L r (p + 1) hL2
      rw [List.length_cons, Nat.add_comm]
      refine SafeT.add (SafeT.one fun _ => ?_) e2
      rw [getD_drop hL]
      exact e1
/-- In a list that is one value, all objects are safe. -/
theorem safe_all {l : List Val} (hall : ∀ v ∈ l, right v = true) (hb : (R6.behind l 0).1 = some l.length) (hne : l ≠ []) : ∀ j, j < l.length → (l.getD j ⟨0, 0, []⟩).kind = 6 → Safe l (l.getD j ⟨0, 0, []⟩).kids.toNat (j + 1) := by
  cases l with
  | nil => exact absurd rfl hne
  | cons a r =>
    have hit := it_of_beh (D := (R6.behind (a :: r) 0).2) hall hb (Nat.le_refl _)
    have h := safe_it _ _ _ _ hit (a :: r) [] 0 (by simp)
    intro j hj
    have := h j hj
    rw [Nat.zero_add] at this
    exact this
end Go.Px.E6

/-! The walk over the reference's twice (layer 16). -/
namespace Go.Proofs.YtahojodgmjmpnaaDoor
open Go.RowKit Go.Px

/-- What holds at the head of twice's loop. -/
structure Tw (w wr : World) (vn : Value) (l : List Val) (p M m i next : Nat) (names : List Bytes) : Prop where
  own : Owns wr 9 1 cStr vn names
  same : Same w wr
  new : ∀ g, vn.ownBlock = some g → w.heap.size ≤ g
  eq : R6.twice l p = R6.twN l m i next names
  safe : E6.Safe l m next
  sum : i + m = M
  inx : i ≤ next
  nml : names.length ≤ i
  nxl : next ≤ l.length
section
variable {w wr w2 : World} {vn : Value} {l : List Val} {p M m i next e : Nat} {names : List Bytes}
theorem Tw.sm (h : Tw w wr vn l p M m i next names) (hs : Same wr w2) : Tw w w2 vn l p M m i next names :=
  ⟨Owns.same h.own hs, h.same.trans hs, h.new, h.eq, h.safe, h.sum, h.inx, h.nml, h.nxl⟩
theorem twN_true (ho : i % 2 = 0) (h : (names.contains (l.getD next ⟨0, 0, []⟩).text) = true) : R6.twN l (m + 1) i next names = true := by
  rw [R6.twN, if_pos (by simp [ho]), if_pos h]
theorem twN_even (ho : i % 2 = 0) (h : (names.contains (l.getD next ⟨0, 0, []⟩).text) = false) (hb : (R6.behind l next).1 = some e) : R6.twN l (m + 1) i next names = R6.twN l m (i + 1) e (names ++ [(l.getD next ⟨0, 0, []⟩).text]) := by
  rw [R6.twN, if_pos (by simp [ho]), if_neg (by rw [h]; decide), hb]
  rfl
theorem twN_odd (ho : i % 2 = 1) (hb : (R6.behind l next).1 = some e) : R6.twN l (m + 1) i next names = R6.twN l m (i + 1) e names := by
  rw [R6.twN, if_neg (by simp [ho]), hb]
  rfl
/-- One name more. -/
theorem Tw.put {w1 : World} {g cap : Nat} {t : Bytes} (h : Tw w wr vn l p M m i next names)
    (hown : w1.ownsRow 0 9 1 (.slice (some ⟨g, 0, none⟩) (names.length + 1) cap) (names.length + 1) (names.flatMap cStr ++ cStr t)) (hg : wr.grownBy w1 vn.ownBlock) (hat : vn.ownBlock = some g ∨ wr.heap.size ≤ g) :
    Owns w1 9 1 cStr (.slice (some ⟨g, 0, none⟩) (names.length + 1) cap) (names ++ [t]) ∧ Same w w1 ∧ w.heap.size ≤ g := by
  refine ⟨owns_append hown, Fr.grown h.same hg (fun k e => .inr (h.new k e)), ?_⟩
  rcases hat with e | e
  · exact h.new _ e
  · exact Nat.le_trans h.same.size e
end
theorem Tryd.infoStr2 : (Tryd.prog.info? 9).map (fun i => (i.zero, i.size, i.bytes)) = some (some (S []), 1, 16) := by kernel_rfl
theorem behV_some {r : Option Nat × Nat} {e : Nat} (h : r.1 = some e) : behV r = .tuple #[.int .i64 (e : Nat), .int .i64 (r.2 : Nat)] := by
  unfold behV
  rw [h]
set_option maxRecDepth 100000 in
set_option maxHeartbeats 8000000 in
theorem twice_any (v : Value) (l : List Val) (p : Nat) (w : World) (h : Lies w 3 cVal v l) (hl : l.length ≤ 4096) (hp : p < l.length) (hw : ∀ a ∈ l, Fair a) (hs : E6.Safe l (l.getD p ⟨0, 0, []⟩).kids.toNat (p + 1)) :
    Calls Tryd.prog 28 #[v, .int .i64 (p : Nat)] w fun e w' => e = .returned (.bool (R6.twice l p)) ∧ Same w w' := by
  have hfull := h
  obtain ⟨va, vc, hv, hv1, hv2⟩ := h.slice
  subst hv
  obtain ⟨xb, xo, xc, hve, hxb, hcx⟩ := h.cell p l[p] (by simp [hp])
  simp only [Value.slice.injEq, true_and] at hve
  obtain ⟨rfl, rfl⟩ := hve
  have hx1 := hcx 1 _ rfl
  rw [← Nat.add_assoc] at hx1
  have hgx : l.getD p ⟨0, 0, []⟩ = l[p] := by rw [List.getD_eq_getElem?_getD, List.getElem?_eq_getElem hp]; rfl
  rw [hgx] at hs
  have htw : R6.twice l p = R6.twN l l[p].kids.toNat 0 (p + 1) [] := by unfold R6.twice; rw [hgx]
  obtain ⟨⟨_, _⟩, ⟨hk3, hk4⟩, _⟩ := hw l[p] (List.getElem_mem _)
  obtain ⟨x, hx⟩ : ∃ x, x = l[p] := ⟨_, rfl⟩
  rw [← hx] at hx1 hs htw hk3 hk4
  obtain ⟨M, hM⟩ : ∃ M, x.kids.toNat = M := ⟨_, rfl⟩
  rw [hM] at hs htw
  have HX := Px.hid (show ∀ W, Same w W → W.cell? ⟨xb, xo + p * 3 + 1, none⟩ = some (.int .i64 x.kids) from fun W hW => (hW.cell (p := ⟨xb, xo + p * 3 + 1, none⟩) hxb (fun x => x)).trans hx1)
  have H := Px.hid (And.intro hfull (And.intro hw (And.intro hs htw)))
  have HM := Px.hid hM
  have hpz : (p : Int) < (l.length : Int) := by omega
  obtain ⟨j0, hj0, hy0, hy1, hy2⟩ := info_parts Tryd.infoStr2
  clear hfull h hw hs htw hcx hx1 hgx hx hM hv2
  go_enter Tryd.func28, Tryd.ntmps28
  go_wp2
  go_loopg [5, 6, 7] (M + 1) (fun gk vn nx ii wr => ∃ (m i next : Nat) (names : List Bytes), gk = m + 1 ∧ ii = .int .i64 (i : Nat) ∧ nx = .int .i64 (next : Nat) ∧ Hid (Tw w wr vn l p M m i next names))
  case atStart => exact ⟨M, 0, p + 1, [], rfl, rfl, by go_num, Px.hid ⟨owns_nil _ _ _ _, Same.refl w, (fun g h => by simp [Value.ownBlock] at h), H.out.2.2.2, H.out.2.2.1, Nat.zero_add _, Nat.zero_le _, Nat.le_refl _, hp⟩⟩
  case round =>
    obtain ⟨m, i, next, names, rfl, rfl, rfl, HS⟩ := hrel
    have x1 := HX.out wr HS.out.same
    by_cases hlt : i < M
    · obtain ⟨m', rfl⟩ : ∃ m', m = m' + 1 := ⟨m - 1, by have := HS.out.sum; omega⟩
      obtain ⟨hnl, e, hbe, hel, hne, hsf⟩ := HS.out.safe
      have hkz : (i : Int) < x.kids := by have := HM.out; omega
      have hil : i ≤ 4096 := by have := HS.out.inx; omega
      have hnz : (next : Int) < (l.length : Int) := by omega
      have hel2 : e ≤ 4096 := by omega
      obtain ⟨yb, yo, yc, hve, hyb, hcy⟩ := H.out.1.cell next l[next] (by simp [hnl])
      simp only [Value.slice.injEq, Option.some.injEq, Addr.mk.injEq, and_true, true_and] at hve
      obtain ⟨⟨rfl, rfl⟩, rfl⟩ := hve
      have hy2' := hcy 2 _ rfl
      rw [← Nat.add_assoc] at hy2'
      obtain ⟨bn, hbn⟩ : ∃ bn, bn = l[next].text := ⟨_, rfl⟩
      rw [← hbn] at hy2'
      have hgn : (l.getD next ⟨0, 0, []⟩).text = bn := by rw [hbn, List.getD_eq_getElem?_getD, List.getElem?_eq_getElem hnl]; rfl
      have HY := Px.hid (show ∀ W, Same w W → W.cell? ⟨xb, xo + next * 3 + 2, none⟩ = some (S bn) from fun W hW => (hW.cell (p := ⟨xb, xo + next * 3 + 2, none⟩) hyb (fun x => x)).trans hy2')
      have HB := Px.hid (And.intro hbe (And.intro hne (And.intro hsf hgn)))
      have HCB := Px.hid (fun (W : World) (hW : Same w W) => behind_any (.slice (some ⟨xb, xo, none⟩) l.length vc) l next W (Lies.same H.out.1 hW) hl (Nat.le_of_lt hnl) H.out.2.1)
      rw [behV_some hbe] at HCB
      clear hbe hne hsf hgn hbn hcy hy2' hlt
      by_cases ho : i % 2 = 1
      · have b2 : (i : Int).tmod 2 = 1 := by rw [Int.tmod_eq_emod_of_nonneg (by omega)]; omega
        have HE := Px.hid ho
        clear ho
        go_wp2_with fail
        refine (HCB.out _ HS.out.same).mono ?_
        rintro r w2 ⟨rfl, h1⟩
        have H1 := Px.hid h1
        clear h1
        go_wp2
        go_roundg (m' + 1)
        case measure => omega
        case rel => exact ⟨m', i + 1, e, names, rfl, by go_num, rfl, Px.hid ⟨Owns.same HS.out.own H1.out, HS.out.same.trans H1.out, HS.out.new, by rw [HS.out.eq]; exact twN_odd HE.out HB.out.1, HB.out.2.2.1, by have := HS.out.sum; omega, by have := HS.out.inx; have := HB.out.2.1; omega, by have := HS.out.nml; omega, hel⟩⟩
      · have b2 : (i : Int).tmod 2 = 0 := by rw [Int.tmod_eq_emod_of_nonneg (by omega)]; omega
        have HE := Px.hid (show i % 2 = 0 by omega)
        have hnm4 : names.length ≤ 4096 := by have := HS.out.nml; omega
        obtain ⟨na, nc, hvn, _⟩ := HS.out.own.len
        subst hvn
        clear ho
        go_wp2
        go_loopw [8] (fun kk w2 => ∃ k W, W = w2 ∧ k ≤ names.length ∧ kk = .int .i64 (k : Nat) ∧ Hid (Same wr W) ∧ ∀ j, j < k → names[j]? ≠ some bn) (fun kk _ => names.length - (intOf kk).toNat)
        case atStart => exact ⟨0, _, rfl, Nat.zero_le _, rfl, Px.hid (Same.refl wr), fun j hj => by omega⟩
        case round =>
          obtain ⟨k, w2, rfl, hk, rfl, HW, hno⟩ := hrel
          by_cases hlt : k < names.length
          · have hltz : (k : Int) < (names.length : Int) := by omega
            obtain ⟨xn, hx⟩ : ∃ x, names[k]? = some x := ⟨_, List.getElem?_eq_getElem hlt⟩
            have HO2 := Px.hid (Owns.same HS.out.own HW.out)
            obtain ⟨g, cap', hv', hca, hcb, hcc, _⟩ := Owns.at HO2.out cStr_len hx
            simp only [Value.slice.injEq] at hv'
            have ha := hv'.1
            subst ha
            have ck := hcc 0 (S xn) rfl
            rw [Nat.add_zero, Nat.mul_one] at ck
            have y2 := HY.out _ (HS.out.same.trans HW.out)
            have HXN := Px.hid (And.intro hx hno)
            have HLT := Px.hid hlt
            clear hv' hcc hx hno hlt hca hcb
            obtain ⟨q, hq⟩ : ∃ q, (xn == bn) = q := ⟨_, rfl⟩
            have HQ := Px.hid hq
            cases q with
            | true =>
              have HR := Px.hid (show R6.twice l p = true by
                rw [HS.out.eq]
                refine twN_true HE.out ?_
                rw [HB.out.2.2.2]
                have ht : xn = bn := by simpa using HQ.out
                have : bn ∈ names := by rw [← ht]; exact List.mem_of_getElem? HXN.out.1
                simp [this])
              go_wp2_with fail
              go_quiet (fail)
              have HQ2 := Px.hid (HW.out.drewN nq)
              go_wp2
              go_ret
              rw [HR.out]
              exact ⟨rfl, HS.out.same.trans HQ2.out⟩
            | false =>
              go_wp2_with fail
              go_quiet (fail)
              have HQ2 := Px.hid (HW.out.drewN nq)
              go_wp2
              go_roundw
              case rel =>
                refine ⟨k + 1, _, rfl, HLT.out, by go_num, HQ2, fun j hj => ?_⟩
                by_cases e : j = k
                · subst e
                  rw [HXN.out.1]
                  have ht : ¬ xn = bn := by simpa using HQ.out
                  exact fun h => ht (by simpa using h)
                · exact HXN.out.2 j (by omega)
              case measure => have := HLT.out; simp [intOf]; omega
          · have hlt' : ¬ (k : Int) < (names.length : Int) := by omega
            have HNC := Px.hid (show names.contains bn = false by
              have hk : k = names.length := by omega
              subst hk
              simp only [List.contains_eq_mem, decide_eq_false_iff_not]
              intro hm
              obtain ⟨j, hj⟩ := List.mem_iff_getElem?.1 hm
              have := (List.getElem?_eq_some_iff.1 hj).1
              exact hno j this hj)
            clear hno hlt
            have HS2 := Px.hid (HS.out.sm HW.out)
            have y2 := HY.out _ HS2.out.same
            obtain ⟨NL, hNL⟩ : ∃ NL, names.length = NL := ⟨_, rfl⟩
            obtain ⟨RL, hRL⟩ : ∃ RL, names.flatMap cStr = RL := ⟨_, rfl⟩
            have HRW := Px.hid (show w2.ownsRow 0 9 1 (.slice na names.length nc) names.length (names.flatMap cStr) from HS2.out.own)
            rw [hNL] at hnm4 hk hlt'
            rw [hNL] at HRW HS2 ⊢
            rw [hRL] at HRW
            have HNL := Px.hid (And.intro hNL hRL)
            clear hNL hRL
            go_wp2_with (at_builtin; go_must (refine wpList_append_lies _ rfl _ _ _ rfl 0 9 j0 _ 1 16 Tryd.underlying64 hj0 hy0 hy1 hy2 rfl (by omega) (.slice na NL nc) NL RL rfl (HRW.out.alloc _) ⟨w2.heap.size, 0, none⟩ 1 1 (cStr bn) rfl rfl (World.news_of_block (cs := #[S bn]) (t := 9) (fr := (0, 0)) (heap_alloc_new w2 _)) (by simp [cStr, Value.oneCell']) (by omega) (by unfold maxLen; omega) (by omega) (by omega) (w2.heap.size + 1) (by simp) ?_))
            intro gg cap WY hown1 hgrow hat hlt1
            have HP := Px.hid (show Owns WY 9 1 cStr (.slice (some ⟨gg, 0, none⟩) (NL + 1) cap) (names ++ [bn]) ∧ Same w WY ∧ w.heap.size ≤ gg from by
              obtain ⟨e1, e2⟩ := HNL.out
              subst e1 e2
              exact HS2.out.put hown1 (grown_alloc1 (w := w2) hgrow) (hat.imp id (fun e => by omega)))
            clear hown1 hgrow hat hlt1 y2
            go_wp2_with fail
            refine (HCB.out _ HP.out.2.1).mono ?_
            rintro r w3 ⟨rfl, h1⟩
            have H1 := Px.hid h1
            clear h1
            go_wp2
            go_roundg (m' + 1)
            case measure => omega
            case rel =>
              refine ⟨m', i + 1, e, names ++ [bn], rfl, by go_num, rfl, Px.hid ⟨Owns.same HP.out.1 H1.out, HP.out.2.1.trans H1.out, ?_, ?_, HB.out.2.2.1, by have := HS.out.sum; omega, by have := HS.out.inx; have := HB.out.2.1; omega, by have := HS.out.nml; simp; omega, hel⟩⟩
              · intro g' hg'
                simp only [Value.ownBlock, Option.some.injEq] at hg'
                subst hg'
                exact HP.out.2.2
              · rw [HS.out.eq, twN_even HE.out (by rw [HB.out.2.2.2]; exact HNC.out) HB.out.1, HB.out.2.2.2]
    · have hkz : ¬ (i : Int) < x.kids := by have := HM.out; omega
      have HR := Px.hid (show R6.twice l p = false by
        have := HS.out.sum
        rw [HS.out.eq, show m = 0 by omega, R6.twN])
      go_wp2
      go_ret
      rw [HR.out]
      exact ⟨rfl, HS.out.same⟩
end Go.Proofs.YtahojodgmjmpnaaDoor

/-! The walk over the reference's told (layer 16): how a Teller lies; a value that holds no other. -/
namespace Go.Px.E6
open R6 (sep)
theorem kids_le6 {R : List Val → Bytes → Bool → Prop} (hR : ∀ l b o, R l b o → 1 ≤ l.length) (ob : Bool) : ∀ {n i : Nat} {nm : List Bytes} {l : List Val} {b : Bytes} {o : Bool}, Kids R ob n i nm l b o → n ≤ l.length
  | 0, _, _, _, _, _, _ => Nat.zero_le _
  | n + 1, _, _, _, _, _, ⟨x, y, _, _, _, _, e, _, h1, _, h2, _⟩ => by
    have := hR _ _ _ h1
    have := kids_le6 hR ob h2
    rw [e, List.length_append]
    omega
theorem total_append : ∀ (a b : List Val), R6.total (a ++ b) = R6.total a + R6.total b
  | [], b => by simp [R6.total]
  | x :: a, b => by
    rw [List.cons_append, R6.total, R6.total, total_append a b, Nat.add_assoc]
theorem sep_le (ob : Bool) (i : Nat) : (sep ob i).length ≤ 1 := by
  unfold sep
  split
  · simp
  · split <;> simp
theorem body_six (a : Val) : (body a).length + 1 ≤ 6 * a.text.length + 6 := by
  unfold body
  have := told_six a.text
  repeat' split
  all_goals (first | omega | (simp only [List.length_cons, List.length_nil]; omega))
/-- How long what is told may be. -/
def LenIt (d : Nat) : Prop := ∀ x t dp, ItF d x t dp → t.length + 1 ≤ 6 * R6.total x + 6 * x.length
theorem len_kids {d : Nat} (ih : LenIt d) {ob : Bool} : ∀ (m k : Nat) (nm : List Bytes) (x : List Val) (u : Bytes) (dp : Bool), Kids (ItF d) ob m k nm x u dp → u.length ≤ 6 * R6.total x + 6 * x.length
  | 0, k, nm, x, u, dp, h => by
    obtain ⟨rfl, rfl, rfl⟩ := h
    exact Nat.zero_le _
  | m + 1, k, nm, x, u, dp, h => by
    obtain ⟨x1, y, u1, v, d1, d2, rfl, rfl, h1, h2, h3, rfl⟩ := h
    have e1 := ih x1 u1 d1 h1
    have e2 := len_kids ih m (k + 1) _ y v d2 h3
    have e3 := sep_le ob k
    rw [total_append, List.length_append, List.length_append, List.length_append]
    omega
theorem len_it : ∀ d, LenIt d
  | 0 => by
    intro x t dp h
    obtain ⟨a, rfl, hr, h4, rfl, rfl⟩ := h
    have := body_six a
    simp only [R6.total, List.length_singleton]
    omega
  | d + 1 => by
    intro x t dp h
    rcases h with ⟨a, rfl, hr, h4, rfl, rfl⟩ | ⟨a, r', u, rfl, hr, h5, rfl, hk⟩
    · have := body_six a
      simp only [R6.total, List.length_singleton]
      omega
    · have := len_kids (len_it d) _ _ _ _ _ _ hk
      simp only [R6.total, List.length_cons, List.length_append, List.length_nil]
      omega
end Go.Px.E6
namespace Go.Proofs.YtahojodgmjmpnaaDoor
open Go.RowKit Go.Px

/-- How a Teller lies. -/
structure Tel (w : World) (b : Nat) (va : Value) (at_ dp : Nat) (bad lg : Bool) : Prop where
  blk : w.heap[b]? = some (.cells #[va, .int .i64 (at_ : Nat), .int .i64 (dp : Nat), .bool bad, .bool lg] 74 (0, 0))
section
variable {w w' : World} {b at_ dp : Nat} {va : Value} {bad lg : Bool}
theorem Tel.cells (h : Tel w b va at_ dp bad lg) : w.cell? ⟨b, 0, none⟩ = some va ∧ w.cell? ⟨b, 1, none⟩ = some (.int .i64 (at_ : Nat)) ∧ w.cell? ⟨b, 2, none⟩ = some (.int .i64 (dp : Nat)) ∧ w.cell? ⟨b, 3, none⟩ = some (.bool bad) ∧ w.cell? ⟨b, 4, none⟩ = some (.bool lg) :=
  ⟨cellOf h.blk 0 rfl, cellOf h.blk 1 rfl, cellOf h.blk 2 rfl, cellOf h.blk 3 rfl, cellOf h.blk 4 rfl⟩
theorem Tel.sm (h : Tel w b va at_ dp bad lg) (hs : Same w w') : Tel w' b va at_ dp bad lg := ⟨(hs.block b (ltOf h.blk) (fun x => x)).trans h.blk⟩
theorem Tel.setAt (h : Tel w b va at_ dp bad lg) (n : Nat) : Tel (w.setCell ⟨b, 1, none⟩ (.int .i64 (n : Nat))) b va n dp bad lg := ⟨by rw [heap_setCell_same w b 1 _ _ _ h.blk]; rfl⟩
theorem Tel.setDeep (h : Tel w b va at_ dp bad lg) (n : Nat) : Tel (w.setCell ⟨b, 2, none⟩ (.int .i64 (n : Nat))) b va at_ n bad lg := ⟨by rw [heap_setCell_same w b 2 _ _ _ h.blk]; rfl⟩
theorem Tel.setLong (h : Tel w b va at_ dp bad lg) (n : Bool) : Tel (w.setCell ⟨b, 4, none⟩ (.bool n)) b va at_ dp bad n := ⟨by rw [heap_setCell_same w b 4 _ _ _ h.blk]; rfl⟩
end
/-- The list that is told: it lies in memory that was there before the Teller. -/
structure Lst (w0 : World) (b xb xo : Nat) (L : List Val) : Prop where
  cell : ∀ (j : Nat) (x : Val), L[j]? = some x → ∀ i u, (cVal x)[i]? = some u → w0.cell? ⟨xb, xo + (j * 3 + i), none⟩ = some u
  lt : xb < w0.heap.size
  le : w0.heap.size ≤ b
  len : L.length ≤ 4096
  txt : ∀ a ∈ L, a.text.length ≤ 262144
/-- What told leaves. -/
structure Told (w0 w : World) (b : Nat) (va : Value) (k : Nat) (x : List Val) (t s : Bytes) (w' : World) (q dp : Nat) (lg : Bool) : Prop where
  tel : Tel w' b va q dp false lg
  same : Same w0 w'
  or : (lg = false ∧ s = t ∧ q = k + x.length) ∨ (lg = true ∧ 262144 < t.length ∧ s.length ≤ t.length)
  fr : Fr (It b) w w'
def ToldP (w0 w : World) (b : Nat) (va : Value) (k : Nat) (x : List Val) (t : Bytes) (e : Ending) (w' : World) : Prop := ∃ s q dp lg, e = .returned (S s) ∧ Told w0 w b va k x t s w' q dp lg
def ToldC (w0 : World) (b xb xo cap : Nat) (L : List Val) (d : Nat) : Prop :=
  ∀ (w : World) (k dep dp : Nat) (x r : List Val) (t : Bytes) (o : Bool), Tel w b (.slice (some ⟨xb, xo, none⟩) L.length cap) k dp false false → Same w0 w → E6.ItF d x t o → L.drop k = x ++ r → t.length ≤ 2000000 → dep + d ≤ 10000 →
    Calls Tryd.prog 29 #[.pointer (some ⟨b, 0, none⟩), .int .i64 (dep : Nat)] w (ToldP w0 w b (.slice (some ⟨xb, xo, none⟩) L.length cap) k x t)
theorem drop_head6 {L r : List Val} {a : Val} {k : Nat} (h : L.drop k = a :: r) : k < L.length ∧ L[k]? = some a ∧ L.drop (k + 1) = r := by
  have hk : k < L.length := by
    rcases Nat.lt_or_ge k L.length with h1 | h1
    · exact h1
    · rw [List.drop_eq_nil_of_le h1] at h; cases h
  rw [List.drop_eq_getElem_cons hk] at h
  simp only [List.cons.injEq] at h
  exact ⟨hk, by rw [List.getElem?_eq_getElem hk, h.1], h.2⟩
set_option maxRecDepth 100000 in
set_option maxHeartbeats 16000000 in
theorem told_leaf (w0 : World) (b xb xo cap : Nat) (L : List Val) (hL : Lst w0 b xb xo L) (a : Val)
    (w : World) (k dep dp : Nat) (r : List Val) (ht : Tel w b (.slice (some ⟨xb, xo, none⟩) L.length cap) k dp false false) (hs : Same w0 w) (hr : E6.right a = true) (h4 : a.kind ≤ 4) (hd : L.drop k = a :: r) :
    Calls Tryd.prog 29 #[.pointer (some ⟨b, 0, none⟩), .int .i64 (dep : Nat)] w (ToldP w0 w b (.slice (some ⟨xb, xo, none⟩) L.length cap) k [a] (E6.body a)) := by
  obtain ⟨hkl, hget, hdrop⟩ := drop_head6 hd
  have hcx := hL.cell k a hget
  have hxb := hL.lt
  have hx0 := hcx 0 _ rfl
  have hx1 := hcx 1 _ rfl
  have hx2 := hcx 2 _ rfl
  rw [← Nat.add_assoc] at hx0 hx1 hx2
  rw [Nat.add_zero] at hx0
  have x0 := (hs.cell (p := ⟨xb, xo + k * 3, none⟩) hxb (fun x => x)).trans hx0
  have x1 := (hs.cell (p := ⟨xb, xo + k * 3 + 1, none⟩) hxb (fun x => x)).trans hx1
  have x2 := (hs.cell (p := ⟨xb, xo + k * 3 + 2, none⟩) hxb (fun x => x)).trans hx2
  obtain ⟨t0, t1, t2, t3, t4⟩ := ht.cells
  have hlen := hL.len
  have hklz : (k : Int) < (L.length : Int) := by omega
  have hge : decide ((L.length : Int) ≤ (k : Int)) = false := decide_eq_false (by omega)
  have hmem : a ∈ L := List.mem_of_getElem? hget
  have HTX := Px.hid (hL.txt a hmem)
  have HH := Px.hid (And.intro ht (And.intro hs hL.le))
  obtain ⟨hk0, _⟩ := E6.right_kind hr
  have hkk : a.kind = 0 ∨ a.kind = 1 ∨ a.kind = 2 ∨ a.kind = 3 ∨ a.kind = 4 := by omega
  have hbb := ltOf ht.blk
  have hf1 := freeOf ht.blk 1
  clear ht hs hd hget hdrop hcx hx0 hx1 hx2 hr h4 hk0 hmem hL
  go_enter Tryd.func29, Tryd.ntmps29
  go_wp2_with fail
  go_quiet (fail)
  go_upto_region 4 with fail
  obtain ⟨W1, hW1⟩ : ∃ W1, W1 = w.drewN nq := ⟨_, rfl⟩
  rw [← hW1]
  have hs1 : Same w W1 := by rw [hW1]; exact (Same.refl w).drewN nq
  have H1 := Px.hid (And.intro hs1 (HH.out.1.sm hs1))
  replace x0 := (hs1.cell (p := ⟨xb, xo + k * 3, none⟩) (Nat.lt_of_lt_of_le hxb HH.out.2.1.size) (fun x => x)).trans x0
  replace x1 := (hs1.cell (p := ⟨xb, xo + k * 3 + 1, none⟩) (Nat.lt_of_lt_of_le hxb HH.out.2.1.size) (fun x => x)).trans x1
  replace x2 := (hs1.cell (p := ⟨xb, xo + k * 3 + 2, none⟩) (Nat.lt_of_lt_of_le hxb HH.out.2.1.size) (fun x => x)).trans x2
  obtain ⟨t0, t1, t2, t3, t4⟩ := H1.out.2.cells
  have hxb1 : xb < W1.heap.size := Nat.lt_of_lt_of_le hxb (HH.out.2.1.trans hs1).size
  have hbb1 := ltOf H1.out.2.blk
  clear hs1 hW1 hbb hf1
  go_cut [5] (fun t5 wx => ∃ q, t5 = .pointer (some ⟨q, 0, none⟩) ∧ wx.heap[q]? = some (.cells #[.int .i64 a.kind, .int .i64 a.kids, S a.text] 58 (0, 0)) ∧ W1.heap.size ≤ q ∧ Same W1 wx)
  case first =>
    go_region
    all_goals
      go_wp2_with fail
      go_meet
      exact ⟨_, rfl, heap_alloc_new W1 _, Nat.le_refl _, ((Same.refl W1).alloc _).drew⟩
  case rest =>
    obtain ⟨q, rfl, hbq, hq, hsq⟩ := hcut
    have hqb : q ≠ b := by omega
    have HT := Px.hid (H1.out.2.sm hsq)
    have hk1 := HT.out.cells.2.1
    have hf1 := freeOf HT.out.blk 1
    have hbc := ltOf HT.out.blk
    have hw1 : IntKind.i64.wrap ((k : Int) + 1) = (k : Int) + 1 := IntWalk.i64_in _ ⟨by omega, by omega⟩
    have hcast : ((k + 1 : Nat) : Int) = (k : Int) + 1 := by omega
    have HQ := Px.hid (And.intro hbq hsq)
    clear x0 x1 x2 t0 t1 t2 t3 t4 hbq hsq hbb1 hxb1
    go_upto_region 6 with fail
    obtain ⟨W3, hW3⟩ : ∃ W3, W3 = wc.setCell ⟨b, 1, none⟩ (.int .i64 ((k : Int) + 1)) := ⟨_, rfl⟩
    rw [← hW3]
    have htel := HT.out.setAt (k + 1)
    rw [hcast, ← hW3] at htel
    have hb3 : W3.heap[q]? = some (.cells #[.int .i64 a.kind, .int .i64 a.kids, S a.text] 58 (0, 0)) := by rw [hW3, heap_setCell_other wc _ q _ (fun e => hqb e)]; exact HQ.out.1
    have hsm : Same w0 W3 := by rw [hW3]; exact ((HH.out.2.1.trans H1.out.1).trans HQ.out.2).setCell (p := ⟨b, 1, none⟩) (.inr HH.out.2.2) _
    have hfr : Fr (It b) w W3 := by rw [hW3]; exact Fr.trans ((H1.out.1.trans HQ.out.2).fr (It b)) (It.set _) (fun _ _ e => e)
    have HF := Px.hid (fun (s : Bytes) (W4 : World) (h4 : Same W3 W4) (e : s = E6.body a) => (show ToldP w0 w b (.slice (some ⟨xb, xo, none⟩) L.length cap) k [a] (E6.body a) (.returned (S s)) W4 from
      ⟨s, k + 1, dp, false, rfl, htel.sm h4, hsm.trans h4, .inl ⟨rfl, e, rfl⟩, Fr.trans hfr (h4.fr (It b)) (fun _ _ e => e)⟩))
    have y0 := cellOf hb3 0 rfl
    have y2 := cellOf hb3 2 rfl
    clear htel hb3 hsm hfr hW3 hk1 hf1 hbc hcast
    rcases hkk with e | e | e | e | e
    · rw [e] at y0
      have HE := Px.hid (show ([110, 117, 108, 108] : Bytes) = E6.body a by unfold E6.body; rw [e]; rfl)
      clear e
      go_wp2
      go_ret
      exact HF.out _ _ (Same.refl _) HE.out
    · rw [e] at y0
      have HE := Px.hid (show ([102, 97, 108, 115, 101] : Bytes) = E6.body a by unfold E6.body; rw [e]; rfl)
      clear e
      go_wp2
      go_ret
      exact HF.out _ _ (Same.refl _) HE.out
    · rw [e] at y0
      have HE := Px.hid (show ([116, 114, 117, 101] : Bytes) = E6.body a by unfold E6.body; rw [e]; rfl)
      clear e
      go_wp2
      go_ret
      exact HF.out _ _ (Same.refl _) HE.out
    · rw [e] at y0
      have HE := Px.hid (show a.text = E6.body a by unfold E6.body; rw [e]; rfl)
      clear e
      go_wp2
      go_ret
      exact HF.out _ _ (Same.refl _) HE.out
    · rw [e] at y0
      have HE := Px.hid (show E6.told a.text = E6.body a by unfold E6.body; rw [e]; rfl)
      clear e
      go_wp2_with fail
      refine (quoted_any a.text (by have := HTX.out; omega) _).mono ?_
      rintro r4 w4 ⟨rfl, h4⟩
      have H4 := Px.hid h4
      clear h4
      go_wp2
      go_ret
      exact HF.out _ _ H4.out HE.out
end Go.Proofs.YtahojodgmjmpnaaDoor
