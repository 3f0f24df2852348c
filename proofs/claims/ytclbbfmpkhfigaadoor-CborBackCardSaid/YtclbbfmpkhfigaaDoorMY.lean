/-
  Several texts in one: The walk over the reference's Encode (layer 17). The walks over the statements' copied and the reference's Same, of lists that lie anywhere (layer 17). The walks over the statements CborTells and CborBack.
-/
import Derived.Test.YtclbbfmpkhfigaaDoorMX
import Derived.Test.YtclbbfmpkhfigaaDoorMI
/-! The walk over the reference's Encode (layer 17). -/
namespace Go.Proofs.YtclbbfmpkhfigaaDoor
open Go.RowKit Go.Px Go.Px.R7

/-- How long all texts are, so far. -/
def tot (l : List Atom) : Nat := (l.map (fun a => a.text.length)).sum
theorem tot_take (l : List Atom) (k : Nat) (hk : k < l.length) : tot (l.take (k + 1)) = tot (l.take k) + l[k].text.length := by
  unfold tot
  rw [List.take_succ_eq_append_getElem hk, List.map_append, List.sum_append]
  simp
theorem head_le9 (k n : Nat) (hn : n < 18446744073709551616) : (R7.headB k n).length ≤ 9 := by
  rw [E7.headB_size]
  have h2 := (E7.infoOf_lt n hn).2
  have h3 : 2 ^ R7.infoOf n ≤ 2 ^ 3 := Nat.pow_le_pow_right (by omega) h2
  split <;> omega
theorem tot_le (l : List Atom) : tot l ≤ (E7.encB l).length ∧ ((E7.Wf l) → (E7.encB l).length ≤ tot l + 9 * l.length) := by
  induction l with
  | nil => exact ⟨Nat.le_refl _, fun _ => Nat.le_refl _⟩
  | cons a t ih =>
    have e : tot (a :: t) = a.text.length + tot t := rfl
    rw [e, E7.encB_cons, List.length_append]
    have h1 := atomB_text a
    refine ⟨by omega, fun hw => ?_⟩
    have h2 := ih.2 (fun b hb => hw b (by simp [hb]))
    have h3 : (E7.atomB a).length ≤ a.text.length + 9 := by
      unfold E7.atomB
      rw [List.length_append]
      have h4 := hw a (by simp)
      have h5 : (if (a.kind == 2 || a.kind == 3) = true then a.text.length else a.num) < 18446744073709551616 := by split; exact h4.2; exact h4.1
      have h6 := head_le9 a.kind.toNat _ h5
      omega
    rw [List.length_cons]
    omega
theorem tot_part (l : List Atom) (k : Nat) : tot (l.take k) ≤ tot l := by
  conv => rhs; rw [← List.take_append_drop k l]
  unfold tot
  rw [List.map_append, List.sum_append]
  omega
theorem behind_pos {l : List Atom} {m : Nat} (h : E7.behind l [] 0 0 = (some l.length, m)) : 0 < l.length := by
  have := E7.behind_le l [] 0 0 _ _ h
  omega
set_option maxRecDepth 100000 in
set_option maxHeartbeats 8000000 in
theorem refencode_any (v : Value) (l : List Atom) (w : World) (h : Lies w 3 cAtom v l) (hw : ∀ a ∈ l, a.num < 18446744073709551616 ∧ a.text.length ≤ maxLen) :
    Calls Tryd.prog 27 #[v] w (Tells w (E7.encode l)) := by
  obtain ⟨va, vc, hv, hv1, hv2⟩ := h.slice
  subst hv
  have hvm : l.length ≤ 9223372036854775807 := by unfold maxLen at hv2; omega
  have hwf : E7.Wf l := fun a ha => ⟨(hw a ha).1, by have := (hw a ha).2; unfold maxLen at this; omega⟩
  have H := Px.hid (And.intro h (And.intro hw hwf))
  clear h hw hv2 hwf
  by_cases hmany : 4096 < l.length
  · have hz : (4096 : Int) < (l.length : Int) := by omega
    have HR := Px.hid (encode_many hmany)
    clear hmany
    go_enter Tryd.func27, Tryd.ntmps27
    go_wp2
    go_ret2
    exact tells_of HR.out rfl (Same.refl w)
  · have hz : ¬ (4096 : Int) < (l.length : Int) := by omega
    have hl : l.length ≤ 4096 := by omega
    clear hmany
    go_enter Tryd.func27, Tryd.ntmps27
    go_wp2
    go_loopg [4] (l.length + 1) (fun gk i wr => ∃ k : Nat, gk + k = l.length + 1 ∧ k ≤ l.length ∧ i = .int .i64 (k : Nat) ∧ Hid (Same w wr ∧ ∀ j (hj : j < l.length), j < k → E7.right l[j] = true))
    case atStart => exact ⟨0, rfl, Nat.zero_le _, rfl, Px.hid ⟨Same.refl w, fun j hj h => absurd h (Nat.not_lt_zero j)⟩⟩
    case round =>
      obtain ⟨k, hgk, hk, rfl, HS⟩ := hrel
      have HG := Px.hid hgk
      clear hgk
      by_cases hlt : k < l.length
      · have hlz : (k : Int) < (l.length : Int) := by omega
        obtain ⟨g', rfl⟩ : ∃ g', gk = g' + 1 := ⟨gk - 1, by have := HG.out; omega⟩
        obtain ⟨xb, xo, xc, hve, hxb, hcx⟩ := (Lies.same H.out.1 HS.out.1).cell k l[k] (by simp [hlt])
        simp only [Value.slice.injEq, true_and] at hve
        obtain ⟨rfl, rfl⟩ := hve
        have x0 := hcx 0 _ rfl
        have x1 := hcx 1 _ rfl
        have x2 := hcx 2 _ rfl
        rw [← Nat.add_assoc] at x0 x1 x2
        rw [Nat.add_zero] at x0
        obtain ⟨x, hx⟩ : ∃ x, x = l[k] := ⟨_, rfl⟩
        rw [← hx] at x0 x1 x2
        have hmem : x ∈ l := by rw [hx]; exact List.getElem_mem _
        have hrr := rright_any x wr (H.out.2.1 x hmem).2
        unfold atomV at hrr
        have HRR := Px.hid (And.intro hrr (And.intro hx hmem))
        clear hcx hx hmem hrr
        cases hr : E7.right x
        · have HR := Px.hid (E7.enc_right hl HRR.out.2.2 hr H.out.2.2)
          rw [hr] at HRR
          clear hr
          go_wp2_with fail
          refine HRR.out.1.mono ?_
          rintro e w1 ⟨rfl, hs1⟩
          have HS1 := Px.hid (HS.out.1.trans hs1)
          clear hs1
          go_wp2
          go_ret2
          exact tells_of HR.out rfl HS1.out
        · have HR := Px.hid hr
          rw [hr] at HRR
          clear hr
          go_wp2_with fail
          refine HRR.out.1.mono ?_
          rintro e w1 ⟨rfl, hs1⟩
          have HS1 := Px.hid (HS.out.1.trans hs1)
          clear hs1
          go_wp2
          go_roundg g'
          case measure => omega
          case rel =>
            refine ⟨k + 1, by have := HG.out; omega, by omega, by go_num, Px.hid ⟨HS1.out, fun j hj hjk => ?_⟩⟩
            by_cases hjk2 : j < k
            · exact HS.out.2 j hj hjk2
            · obtain rfl : j = k := by omega
              rw [← HRR.out.2.1]
              exact HR.out
      · have hlz : ¬ (k : Int) < (l.length : Int) := by omega
        have HALL := Px.hid (show ∀ a ∈ l, E7.right a = true from fun a ha => by
          obtain ⟨j, hj, rfl⟩ := List.getElem_of_mem ha
          exact HS.out.2 j hj (by omega))
        have HB := Px.hid (behind_any _ l wr (Lies.same H.out.1 HS.out.1) hl)
        clear hk hlt HG
        obtain ⟨eb, m, hem⟩ : ∃ eb m, E7.behind l [] 0 0 = (eb, m) := ⟨_, _, rfl⟩
        rw [hem] at HB
        by_cases hend : eb = some l.length
        · subst hend
          have hpos := behind_pos hem
          have HON := Px.hid (E7.enc_on hl H.out.2.2 HALL.out hem)
          clear hem
          unfold behV at HB
          have hne0 : ((l.length : Int) == 0) = false := beq_eq_false_iff_ne.2 (by omega)
          by_cases h32 : 32 < m
          · have h32z : (32 : Int) < (m : Int) := by omega
            have HR := Px.hid (HON.out.1 h32)
            clear h32 hpos
            go_wp2_with fail
            refine HB.out.mono ?_
            rintro e w2 ⟨rfl, hs2⟩
            have HS2 := Px.hid (HS.out.1.trans hs2)
            clear hs2
            go_wp2
            go_ret2
            exact tells_of HR.out rfl HS2.out
          · have h32z : ¬ (32 : Int) < (m : Int) := by omega
            have HON2 := Px.hid (HON.out.2 (by omega))
            clear h32 HON
            go_wp2_with fail
            refine HB.out.mono ?_
            rintro e w2 ⟨rfl, hs2⟩
            have HS2 := Px.hid (HS.out.1.trans hs2)
            clear hs2
            go_wp2
            go_loopg [7, 8] (l.length + 1) (fun gk t7 i wr => ∃ k : Nat, gk + k = l.length + 1 ∧ k ≤ l.length ∧ t7 = .int .i64 (tot (l.take k) : Nat) ∧ i = .int .i64 (k : Nat) ∧ Hid (Same w wr ∧ tot (l.take k) ≤ 524288))
            case atStart => exact ⟨0, rfl, Nat.zero_le _, rfl, rfl, Px.hid ⟨HS2.out, by simp [tot]⟩⟩
            case round =>
              obtain ⟨k, hgk, hk, rfl, rfl, HT⟩ := hrel
              have HG := Px.hid hgk
              clear hgk
              have htb := HT.out.2
              have hparts := tot_part l k
              have hte := (tot_le l).1
              have HTK := Px.hid (fun hk => tot_take l k hk)
              obtain ⟨tk, htk⟩ : ∃ tk, tk = tot (l.take k) := ⟨_, rfl⟩
              rw [← htk] at HTK htb hparts ⊢
              have HTKE := Px.hid htk
              clear htk
              by_cases hlt : k < l.length
              · have hlz : (k : Int) < (l.length : Int) := by omega
                by_cases hbig : 262144 < tk
                · have hbz : ¬ (tk : Int) ≤ 262144 := by omega
                  have hbz2 : (262144 : Int) < (tk : Int) := by omega
                  obtain ⟨o, _, ho, _⟩ := HON2.out
                  have HR := Px.hid (ho (by omega))
                  clear ho hbig hparts hte
                  go_wp2
                  go_ret2
                  exact tells_of HR.out rfl HT.out.1
                · have hbz : (tk : Int) ≤ 262144 := by omega
                  obtain ⟨g', rfl⟩ : ∃ g', gk = g' + 1 := ⟨gk - 1, by have := HG.out; omega⟩
                  obtain ⟨xb, xo, xc, hve, hxb, hcx⟩ := (Lies.same H.out.1 HT.out.1).cell k l[k] (by simp [hlt])
                  simp only [Value.slice.injEq, true_and] at hve
                  obtain ⟨rfl, rfl⟩ := hve
                  have x2 := hcx 2 _ rfl
                  rw [← Nat.add_assoc] at x2
                  have hmem : l[k] ∈ l := List.getElem_mem _
                  have hxl := H.out.2.1 l[k] hmem
                  have hxe := encB_mem hmem
                  have hsum := HTK.out hlt
                  obtain ⟨x, hx⟩ : ∃ x, x = l[k] := ⟨_, rfl⟩
                  rw [← hx] at x2 hxl hxe hsum
                  have hxl2 := hxl.2
                  unfold maxLen at hxl2
                  have hsz : (ByteArray.mk x.text.toArray).size = x.text.length := size_S x.text
                  have HSUM := Px.hid hsum
                  clear hcx hx hmem hsum hxl
                  by_cases hxb2 : 262144 < x.text.length
                  · have hbz2 : (262144 : Int) < (x.text.length : Int) := by omega
                    obtain ⟨o, _, ho, _⟩ := HON2.out
                    have HR := Px.hid (ho (by omega))
                    clear ho hbig hparts hte hxe hxb2
                    go_wp2
                    go_ret2
                    exact tells_of HR.out rfl HT.out.1
                  · have hbz2 : ¬ (262144 : Int) < (x.text.length : Int) := by omega
                    clear hbig hparts hte hxe
                    go_wp2
                    go_roundg g'
                    case measure => omega
                    case rel => exact ⟨k + 1, by have := HG.out; omega, by omega, by rw [HSUM.out]; go_num, by go_num, Px.hid ⟨HT.out.1, by rw [HSUM.out]; omega⟩⟩
              · have hlz : ¬ (k : Int) < (l.length : Int) := by omega
                have HTE := Px.hid (show tk = tot l by rw [HTKE.out, show k = l.length by omega, List.take_length])
                by_cases hbig : 262144 < tk
                · have hbz2 : (262144 : Int) < (tk : Int) := by omega
                  obtain ⟨o, _, ho, _⟩ := HON2.out
                  have HR := Px.hid (ho (by omega))
                  clear ho hbig hparts hte
                  go_wp2
                  go_ret2
                  exact tells_of HR.out rfl HT.out.1
                · have hbz2 : ¬ (262144 : Int) < (tk : Int) := by omega
                  have HEB := Px.hid (show (E7.encB l).length ≤ 1000000 by have := (tot_le l).2 H.out.2.2; have := HTE.out; omega)
                  obtain ⟨o, hit, ho1, ho2⟩ := HON2.out
                  obtain ⟨xb, xo, xc, hve, hxb, _⟩ := (Lies.same H.out.1 HT.out.1).cell 0 l[0] (by simp [hpos])
                  simp only [Value.slice.injEq, true_and] at hve
                  obtain ⟨rfl, rfl⟩ := hve
                  have hlst : Lst wr wr.heap.size xb xo l := ⟨fun j x hj i u hu => by
                    obtain ⟨b', o', c', hve, _, hc⟩ := (Lies.same H.out.1 HT.out.1).cell j x hj
                    simp only [Value.slice.injEq, Option.some.injEq, Addr.mk.injEq, and_true, true_and] at hve
                    obtain ⟨⟨rfl, rfl⟩, _⟩ := hve
                    exact hc i u hu, hxb, Nat.le_refl _, H.out.2.2, hl, HEB.out⟩
                  have HTO := Px.hid (And.intro (told_any wr wr.heap.size xb xo vc l hlst 32) (And.intro hit (And.intro ho1 ho2)))
                  clear hlst hit ho1 ho2 hbig hparts hte htb
                  go_wp2_with fail
                  have HBX := Px.hid (show Tl (wr.alloc (.cells #[.slice (some ⟨xb, xo, none⟩) l.length vc, .int .i64 0, .bool false, .bool false] 88 (0, 0))) wr.heap.size (.slice (some ⟨xb, xo, none⟩) l.length vc) 0 false false from ⟨heap_alloc_new wr _⟩)
                  refine (HTO.out.1 _ 0 l [] o false HBX.out ((Same.refl wr).alloc _) HTO.out.2.1 (by simp)).mono ?_
                  rintro e w5 ⟨s, k', lg, ou, rfl, htold, _⟩
                  have HQ := Px.hid htold
                  have q2 := htold.tl.cells.2.2.1
                  have q3 := htold.tl.cells.2.2.2
                  have hsz : (ByteArray.mk s.toArray).size = s.length := size_S s
                  clear htold
                  have HS5 := Px.hid (HT.out.1.trans HQ.out.same)
                  cases lg
                  · have hor : s = E7.encB l ∧ ou = o := by
                      rcases HQ.out.or with ⟨_, e, _, e2⟩ | ⟨e, _⟩
                      · exact ⟨e, by rw [e2]; rfl⟩
                      · cases e
                    by_cases hlong : 262144 < s.length
                    · have hlz2 : (262144 : Int) < (s.length : Int) := by omega
                      have HR := Px.hid (HTO.out.2.2.1 (by rw [← hor.1]; exact hlong))
                      clear hor hlong
                      go_wp2
                      go_ret2
                      exact tells_of HR.out rfl HS5.out
                    · have hlz2 : ¬ (262144 : Int) < (s.length : Int) := by omega
                      have hR := HTO.out.2.2.2 (by rw [← hor.1]; omega)
                      rw [← hor.1, ← hor.2] at hR
                      have HR := Px.hid hR
                      clear hor hlong hR
                      cases ou
                      · have HR := Px.hid (show E7.encode l = (s, 0) from HR.out)
                        go_wp2
                        go_ret2
                        exact tells_of HR.out rfl HS5.out
                      · have HR := Px.hid (show E7.encode l = ([], 9) from HR.out)
                        go_wp2
                        go_ret2
                        exact tells_of HR.out rfl HS5.out
                  · have HR := Px.hid (HTO.out.2.2.1 (by
                      rcases HQ.out.or with ⟨e, _⟩ | ⟨_, e, _⟩
                      · cases e
                      · exact e))
                    go_wp2
                    go_ret2
                    exact tells_of HR.out rfl HS5.out
        · have HR := Px.hid (E7.enc_behind hl H.out.2.2 (fun m' h => hend (by rw [hem] at h; exact congrArg Prod.fst h)))
          unfold behV at HB
          have HEND := Px.hid hend
          clear hem hend
          cases eb with
          | none =>
            go_wp2_with fail
            refine HB.out.mono ?_
            rintro e w2 ⟨rfl, hs2⟩
            have HS2 := Px.hid (HS.out.1.trans hs2)
            clear hs2
            have hne : ((-1 : Int) != (l.length : Int)) = true := bne_iff_ne.2 (by omega)
            go_wp2
            go_ret2
            exact tells_of HR.out rfl HS2.out
          | some q =>
            go_wp2_with fail
            refine HB.out.mono ?_
            rintro e w2 ⟨rfl, hs2⟩
            have HS2 := Px.hid (HS.out.1.trans hs2)
            clear hs2
            have hne : ((q : Int) != (l.length : Int)) = true := by
              have := HEND.out
              simp only [Option.some.injEq] at this
              simp; omega
            go_wp2
            go_ret2
            exact tells_of HR.out rfl HS2.out
end Go.Proofs.YtclbbfmpkhfigaaDoor

/-! The walks over the statements' copied and the reference's Same, of lists that lie anywhere (layer 17). -/
namespace Go.Px
open Go.RowKit
theorem flat_get {α : Type} {c : α → List Value} {sz : Nat} (hc : ∀ a, (c a).length = sz) (hs : 0 < sz) : ∀ (l : List α) (j : Nat) (u : Value), (l.flatMap c)[j]? = some u → ∃ x, l[j / sz]? = some x ∧ (c x)[j % sz]? = some u
  | [], j, u, h => by simp at h
  | a :: t, j, u, h => by
    rw [List.flatMap_cons] at h
    by_cases hj : j < sz
    · rw [List.getElem?_append_left (by rw [hc]; exact hj)] at h
      exact ⟨a, by rw [Nat.div_eq_of_lt hj]; rfl, by rw [Nat.mod_eq_of_lt hj]; exact h⟩
    · rw [List.getElem?_append_right (by rw [hc]; omega), hc] at h
      obtain ⟨x, h1, h2⟩ := flat_get hc hs t (j - sz) u h
      have e : j = (j - sz) + sz := by omega
      have e1 : j / sz = (j - sz) / sz + 1 := by
        conv => lhs; rw [e]
        exact Nat.add_div_right _ hs
      have e2 : j % sz = (j - sz) % sz := by
        conv => lhs; rw [e]
        exact Nat.add_mod_right _ _
      exact ⟨x, by rw [e1]; exact h1, by rw [e2]; exact h2⟩
/-- What lies somewhere, as what an append takes. -/
theorem Lies.src {α : Type} {P : Program} {w : World} {sz : Nat} {c : α → List Value} {v : Value} {l : List α} {tx e' : TypeId} (h : Lies w sz c v l) (hc : ∀ a, (c a).length = sz) (hs : 0 < sz) (hk : P.underlying tx = some (.slice e')) (h1 : ∀ u ∈ l.flatMap c, u.oneCell' = true) :
    Src P sz tx v l.length (l.flatMap c) w := by
  obtain ⟨a, cap, hv, _, _⟩ := h.slice
  cases l with
  | nil =>
    subst hv
    cases a with
    | none => exact Src.ofNil w hk cap
    | some ad => exact Src.ofSlice w hk ad 0 cap [] (by simp) (fun j u hu => by simp at hu) (fun u hu => by cases hu)
  | cons x t =>
    obtain ⟨b, off, cap2, hv2, _, _⟩ := h.cell 0 x rfl
    rw [hv2]
    refine Src.ofSlice w hk ⟨b, off, none⟩ _ _ _ (flat_len hc _) (fun j u hu => ?_) h1
    obtain ⟨y, h2, h3⟩ := flat_get hc hs _ j u hu
    obtain ⟨b', off', cap3, hv3, _, hcell⟩ := h.cell _ y h2
    rw [hv2] at hv3
    simp only [Value.slice.injEq, Option.some.injEq, Addr.mk.injEq, and_true, true_and] at hv3
    obtain ⟨⟨rfl, rfl⟩, _⟩ := hv3
    have := hcell _ u h3
    have e : j / sz * sz + j % sz = j := by rw [Nat.mul_comm]; exact Nat.div_add_mod j sz
    rw [e] at this
    have hadd : (⟨b, off, none⟩ : Addr).add j = ⟨b, off + j, none⟩ := by unfold Addr.add; split <;> simp_all
    rw [hadd]
    exact this
/-- An append onto an empty slice of the call's own. -/
theorem run_append_src0 (P : Program) (w : World) (t tx ty : TypeId) (e : TypeId) (i : TypeInfo) (z : Value) (size bytes : Nat) (ht : P.underlying t = some (.slice e)) (hi : P.info? e = some i) (hz : i.zero = some z)
    (hsize : i.size = size) (hby : i.bytes = bytes) (hzs : z.cells.size = size) (b : Nat) (hb : w.heap[b]? = some (.cells #[] e (0, 0)))
    (x : Value) (m : Nat) (news : List Value) (hs : Src P size tx x m news w) (h63 : m ≤ maxLen) (hbytes : m * bytes ≤ 140737488355328) :
    ∃ g cap w', (Builtin.append_ #[t, tx] ty #[.slice (some ⟨b, 0, none⟩) 0 0, x]).run P w = .ok (.slice (some ⟨g, 0, none⟩) m cap) w' ∧
      w'.ownsRow 0 e size (.slice (some ⟨g, 0, none⟩) m cap) m news ∧ w.grownBy w' none ∧ (g = b ∨ g = w.heap.size) := by
  subst hsize
  subst hby
  by_cases hm : m = 0
  · subst hm
    have hnl : news = [] := List.eq_nil_of_length_eq_zero (by rw [hs.newsLen]; simp)
    subst hnl
    have hr := run_append_room_src (P := P) w t tx ty e i ht hi b 0 0 0 x 0 [] hs (Nat.le_refl _) (fun j hj => absurd hj (Nat.not_lt_zero j)) (fun j hj => absurd hj (Nat.not_lt_zero j))
    exact ⟨b, 0, w, hr, ⟨by simp, .inr ⟨b, 0, #[], rfl, Nat.zero_le _, hb, Nat.le_refl _, Nat.zero_le _, by simp, by simp⟩⟩, ⟨rfl, rfl, rfl, Nat.le_refl _, fun _ _ _ => rfl⟩, .inl rfl⟩
  · have hr := run_append_grow_src (P := P) w t tx ty e i z ht hi hz (some ⟨b, 0, none⟩) 0 0 [] (run_firstCells_some w.drew i.size 0 ⟨b, 0, none⟩ 0 0 [] (by simp) (fun j u hu => by simp at hu)) x m news hs (by omega) (by unfold maxLen at h63; omega) (growslice_fits (by omega) (by rw [Nat.zero_add]; exact hbytes))
    simp only [Nat.zero_add, List.nil_append] at hr
    refine ⟨w.heap.size, _, _, hr, ⟨hs.newsLen, .inr ⟨w.heap.size, _, _, rfl, Nat.zero_le _, heap_alloc_new w.drew _, grownCap_ge w m 0 e, grownCap_le_maxLen w m 0 e h63, ?_, ?_⟩⟩, ⟨rfl, rfl, rfl, by simp, fun k hk _ => heap_alloc_old w.drew _ hk⟩, .inr rfl⟩
    · have hge := grownCap_ge w m 0 e
      simp only [Array.size_append, List.size_toArray, size_zeroCells, hzs, hs.newsLen, ← Nat.add_mul]
      congr 1
      omega
    · simp only [Array.toList_append]
      rw [← hs.newsLen]
      exact List.take_left
theorem wp_append_src0 {P : Program} {w : World} {o : Oper} {a : Act} {K : Act → World → Prop} {Q : Exit → Act → World → Prop} (s x : Operand) (t tx : TypeId)
    (ho : o.op = .call { callee := .builtin .append, args := #[s, x], argTypes := #[t, tx] })
    (e : TypeId) (i : TypeInfo) (z : Value) (size bytes : Nat) (ht : P.underlying t = some (.slice e)) (hi : P.info? e = some i) (hz : i.zero = some z)
    (hsize : i.size = size) (hby : i.bytes = bytes) (hzs : z.cells.size = size) (b : Nat) (hs : a.eval s = .slice (some ⟨b, 0, none⟩) 0 0) (hb : w.heap[b]? = some (.cells #[] e (0, 0)))
    (vx : Value) (m : Nat) (news : List Value) (hx : a.eval x = vx) (hsrc : Src P size tx vx m news w) (h63 : m ≤ maxLen) (hbytes : m * bytes ≤ 140737488355328)
    (h : ∀ g cap w', w'.ownsRow 0 e size (.slice (some ⟨g, 0, none⟩) m cap) m news → w.grownBy w' none → (g = b ∨ g = w.heap.size) → K (a.put o.dst (.slice (some ⟨g, 0, none⟩) m cap)) w') : o.wp P a w K Q := by
  obtain ⟨g, cap, w', hr, h2, h3, h4⟩ := run_append_src0 P w t tx o.type e i z size bytes ht hi hz hsize hby hzs b hb vx m news hsrc h63 hbytes
  unfold Oper.wp execOp
  simp only [ho, resolve, invoke, builtin, Sem.run_bind, Sem.run_pure, Result.andThen_ok, List.map_toArray, List.map_cons, List.map_nil, hs, hx, hr]
  exact h g cap w' h2 h3 h4
theorem wpList_append_src0 {P : Program} {w : World} {ops : Array Oper} {rest : List Oper} {o : Oper} {a : Act} {Q : Exit → Act → World → Prop} (hgd : o.guard = none) (s x : Operand) (t tx : TypeId)
    (ho : o.op = .call { callee := .builtin .append, args := #[s, x], argTypes := #[t, tx] })
    (e : TypeId) (i : TypeInfo) (z : Value) (size bytes : Nat) (ht : P.underlying t = some (.slice e)) (hi : P.info? e = some i) (hz : i.zero = some z)
    (hsize : i.size = size) (hby : i.bytes = bytes) (hzs : z.cells.size = size) (b : Nat) (hs : a.eval s = .slice (some ⟨b, 0, none⟩) 0 0) (hb : w.heap[b]? = some (.cells #[] e (0, 0)))
    (vx : Value) (m : Nat) (news : List Value) (hx : a.eval x = vx) (hsrc : Src P size tx vx m news w) (h63 : m ≤ maxLen) (hbytes : m * bytes ≤ 140737488355328)
    (h : ∀ g cap w', w'.ownsRow 0 e size (.slice (some ⟨g, 0, none⟩) m cap) m news → w.grownBy w' none → (g = b ∨ g = w.heap.size) → wpList P ops Q rest (a.put o.dst (.slice (some ⟨g, 0, none⟩) m cap)) w') : wpList P ops Q (o :: rest) a w :=
  wpList_plain hgd fun _ hK => wp_append_src0 s x t tx ho e i z size bytes ht hi hz hsize hby hzs b hs hb vx m news hx hsrc h63 hbytes fun g cap w' h2 h3 h4 => hK _ _ (h g cap w' h2 h3 h4)
end Go.Px
namespace Go.Proofs.YtclbbfmpkhfigaaDoor
open Go.RowKit Go.Px Go.Px.R7

set_option maxRecDepth 100000 in
set_option maxHeartbeats 2000000 in
theorem copied_any (v : Value) (l : List Atom) (w : World) (h : Lies w 3 cAtom v l) (hl : l.length * 32 ≤ 140737488351232) :
    Calls Tryd.prog 26 #[v] w fun e w' => ∃ vo, e = .returned vo ∧ Owns w' 72 3 cAtom vo l ∧ Same w w' := by
  have hsrc : ∀ W, Same w W → Src Tryd.prog 3 32 v l.length (l.flatMap cAtom) W := fun W hW => (Lies.same h hW).src cAtom_len (by omega) Tryd.underlying32 (atom_one l)
  have H := Px.hid hsrc
  clear h hsrc
  obtain ⟨i0, hi0, hz0, hz1, hz2⟩ := info_parts Tryd.infoAtom
  go_enter Tryd.func26, Tryd.ntmps26
  go_wp2_with (at_builtin; go_must (refine wpList_append_src0 rfl _ _ 32 32 rfl 72 i0 _ 3 32 Tryd.underlying32 hi0 hz0 hz1 hz2 rfl w.heap.size rfl (heap_alloc_new w _) v l.length (l.flatMap cAtom) rfl (H.out _ ((Same.refl w).alloc _)) (by unfold maxLen; omega) (by omega) ?_))
  intro g cap w' hown hgrow hat
  go_wp2
  go_ret
  exact ⟨_, rfl, hown, Fr.grown ((Same.refl w).alloc _) hgrow (fun k e => by cases e)⟩
end Go.Proofs.YtclbbfmpkhfigaaDoor

/-! The walks over the statements CborTells and CborBack. -/
namespace Go.Proofs.YtclbbfmpkhfigaaDoor
open Go.RowKit Go.Px Go.Px.R7

set_option maxRecDepth 100000 in
set_option maxHeartbeats 2000000 in
theorem same_lies (w : World) (va vb : Value) (l : List Atom) (ha : Lies w 3 cAtom va l) (hb : Lies w 3 cAtom vb l) :
    Calls Tryd.prog 20 #[va, vb] w fun r w' => r = .returned (.bool true) ∧ Same w w' := by
  obtain ⟨aa, ac, hva, hac1, hac2⟩ := ha.slice
  obtain ⟨ba, bc, hvb, _, _⟩ := hb.slice
  subst hva hvb
  have HA := Px.hid (And.intro ha hb)
  have hlm : l.length ≤ maxLen := Nat.le_trans hac1 hac2
  unfold maxLen at hlm
  clear ha hb hac1 hac2
  go_enter Tryd.func20, Tryd.ntmps20
  go_wp2
  go_loopw [5] (fun i wr => ∃ k : Nat, k ≤ l.length ∧ i = .int .i64 (k : Nat) ∧ Same w wr) (fun i _ => l.length - (intOf i).toNat)
  case atStart => exact ⟨0, Nat.zero_le _, rfl, Same.refl w⟩
  case round =>
    obtain ⟨k, hk, rfl, hs⟩ := hrel
    by_cases hlt : k < l.length
    · have hltz : (k : Int) < (l.length : Int) := by omega
      obtain ⟨g1, q1, p1, e1, _, c1⟩ := (Lies.same HA.out.1 hs).cell k l[k] (by simp [hlt])
      obtain ⟨g2, q2, p2, e2, _, c2⟩ := (Lies.same HA.out.2 hs).cell k l[k] (by simp [hlt])
      simp only [Value.slice.injEq, true_and] at e1 e2
      obtain ⟨rfl, rfl⟩ := e1
      obtain ⟨rfl, rfl⟩ := e2
      have x0 := c1 0 _ rfl
      have x1 := c1 1 _ rfl
      have x2 := c1 2 _ rfl
      have y0 := c2 0 _ rfl
      have y1 := c2 1 _ rfl
      have y2 := c2 2 _ rfl
      have HS := Px.hid hs
      clear c1 c2 hs HA
      obtain ⟨kd, hkd⟩ : ∃ kd, kd = l[k].kind := ⟨_, rfl⟩
      obtain ⟨nm, hnm⟩ : ∃ nm, nm = l[k].num := ⟨_, rfl⟩
      obtain ⟨tx, htx⟩ : ∃ tx, tx = l[k].text := ⟨_, rfl⟩
      rw [← hkd] at x0 y0
      rw [← hnm] at x1 y1
      rw [← htx] at x2 y2
      clear hkd hnm htx
      rw [← Nat.add_assoc] at x0 y0 x1 y1 x2 y2
      rw [Nat.add_zero] at x0 y0
      go_wp2_with fail
      go_quiet (fail)
      go_wp2
      go_roundw
      case rel => exact ⟨k + 1, by omega, by go_num, (HS.out.drewN nq)⟩
      case measure => simp [intOf]; omega
    · have hltz : ¬ (k : Int) < (l.length : Int) := by omega
      have HS := Px.hid hs
      clear hs
      go_wp2
      go_ret
      exact ⟨rfl, HS.out⟩


/-- What a list as an argument gives. -/
structure AtomsAt (w : World) (v : Value) (l : List Atom) : Prop where
  lies : Lies w 3 cAtom v l
  wf : ∀ a ∈ l, a.num < 18446744073709551616 ∧ a.text.length ≤ maxLen
theorem AtomsAt.wf2 {w : World} {v : Value} {l : List Atom} (h : AtomsAt w v l) : (∀ a ∈ l, a.num < 18446744073709551616 ∧ a.text.length ≤ 9223372036854775807) ∧ E7.Wf l :=
  ⟨fun a ha => ⟨(h.wf a ha).1, by have := (h.wf a ha).2; unfold maxLen at this; omega⟩, fun a ha => ⟨(h.wf a ha).1, by have := (h.wf a ha).2; unfold maxLen at this; omega⟩⟩
set_option maxRecDepth 100000 in
set_option maxHeartbeats 2000000 in
theorem law_CborTells {v : Value} (l : List Atom) (w : World) (h : AtomsAt w v l) (hl : l.length * 32 ≤ 140737488351232) (hT : Tabs w) :
    Calls Tryd.prog 8 #[v] w fun e w' => e = .returned (.bool true) ∧ Below w.heap.size w w' := by
  have H := Px.hid (And.intro h (And.intro hl hT))
  clear h hl hT
  go_enter Tryd.func8, Tryd.ntmps8
  go_wp2_with fail
  refine (wakes17_any _ H.out.2.2).mono ?_
  rintro e w1 ⟨rfl, hs⟩
  have HS := Px.hid hs
  clear hs
  go_wp2_with fail
  refine (copied_any v l _ (Lies.same H.out.1.lies HS.out) H.out.2.1).mono ?_
  rintro e w2 ⟨vo, rfl, ho, hs⟩
  have HO := Px.hid ho
  have HS := Px.hid (HS.out.trans hs)
  clear ho hs
  go_wp2_with fail
  refine (encode_any vo l _ (HO.out.lies cAtom_len) H.out.1.wf2.1 (H.out.2.2.same HS.out)).mono ?_
  rintro e w3 ⟨rfl, hs⟩
  have HS := Px.hid (HS.out.trans hs)
  clear hs
  have HR := Px.hid (fun W hW => refencode_any v l W (Lies.same H.out.1.lies hW) H.out.1.wf)
  obtain ⟨d, hd⟩ : ∃ d, d = E7.encode l := ⟨_, rfl⟩
  rw [← hd] at HR ⊢
  clear hd
  go_wp2_with fail
  refine (HR.out _ HS.out).mono ?_
  rintro e w4 ⟨rfl, hs⟩
  have HS := Px.hid (HS.out.trans hs)
  clear hs
  go_wp2
  go_ret
  exact ⟨rfl, HS.out.below⟩
set_option maxRecDepth 100000 in
set_option maxHeartbeats 2000000 in
theorem law_CborBack {v : Value} (l : List Atom) (w : World) (h : AtomsAt w v l) (hl : l.length * 32 ≤ 140737488351232) (hT : Tabs w) :
    Calls Tryd.prog 9 #[v] w fun e w' => e = .returned (.bool true) ∧ Below w.heap.size w w' := by
  have H := Px.hid (And.intro h (And.intro hl hT))
  clear h hl hT
  go_enter Tryd.func9, Tryd.ntmps9
  go_wp2_with fail
  refine (wakes17_any _ H.out.2.2).mono ?_
  rintro e w1 ⟨rfl, hs⟩
  have HS := Px.hid hs
  clear hs
  go_wp2_with fail
  refine (copied_any v l _ (Lies.same H.out.1.lies HS.out) H.out.2.1).mono ?_
  rintro e w2 ⟨vo, rfl, ho, hs⟩
  have HO := Px.hid ho
  have HS := Px.hid (HS.out.trans hs)
  clear ho hs
  go_wp2_with fail
  refine (encode_any vo l _ (HO.out.lies cAtom_len) H.out.1.wf2.1 (H.out.2.2.same HS.out)).mono ?_
  rintro e w3 ⟨rfl, hs⟩
  have HS := Px.hid (HS.out.trans hs)
  clear hs
  by_cases he : (E7.encode l).2 = 0
  · have hb := E7.encode_back H.out.1.wf2.2 he (lim := most) most_may rfl rfl rfl
    have hlen : (E7.encode l).1.length ≤ 140737488355327 := by
      have h1 := E7.encode_enc l H.out.1.wf2.2
      generalize E7.encode l = r at h1 he
      cases h1 with
      | ok m _ _ _ _ _ h => show (E7.encB l).length ≤ _; omega
      | _ => simp at he
    have HB := Px.hid (And.intro hb hlen)
    rw [he]
    clear hb hlen he
    obtain ⟨s, hs⟩ : ∃ s, s = (E7.encode l).1 := ⟨_, rfl⟩
    rw [← hs] at HB ⊢
    clear hs
    go_wp2_with fail
    refine (most_any _).mono ?_
    rintro e w4 ⟨rfl, hs⟩
    have HS := Px.hid (HS.out.trans hs)
    clear hs
    go_wp2_with fail
    refine (decode_any s most HB.out.2 _ (H.out.2.2.same HS.out)).mono ?_
    intro e w5 hg
    obtain ⟨a, c, rfl, ho, hs⟩ := hg.len
    rw [HB.out.1] at ho ⊢
    have HO := Px.hid ho
    have HS := Px.hid (HS.out.trans hs)
    clear hg ho hs
    go_wp2_with fail
    refine (same_lies _ _ _ l (Lies.same H.out.1.lies HS.out) (HO.out.lies cAtom_len)).mono ?_
    rintro e w6 ⟨rfl, hs⟩
    have HS := Px.hid (HS.out.trans hs)
    clear hs
    go_wp2
    go_ret
    exact ⟨rfl, HS.out.below⟩
  · have hnl := E7.encode_nil H.out.1.wf2.2 he
    rw [hnl]
    have hb : ((E7.encode l).2 != 0) = true := by simpa using he
    clear he hnl
    obtain ⟨d, hd⟩ : ∃ d, d = E7.encode l := ⟨_, rfl⟩
    rw [← hd] at hb ⊢
    clear hd
    go_wp2
    go_ret
    exact ⟨rfl, HS.out.below⟩
end Go.Proofs.YtclbbfmpkhfigaaDoor
