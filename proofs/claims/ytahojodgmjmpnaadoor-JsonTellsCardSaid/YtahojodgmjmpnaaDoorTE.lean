/-
  Several texts in one: The walk over the program's reader of package json: text. How the program's reader of package json lies in memory with its list, its frames and their names, and what becomes of that. The walks over the program's reader of package json: one, over, end.
-/
import Derived.Test.YtahojodgmjmpnaaDoorTD
import Derived.BigRegion
/-! The walk over the program's reader of package json: text. -/
namespace Go.Proofs.YtahojodgmjmpnaaDoor
open Go.RowKit Go.Px

theorem escape_place {s l : Bytes} {lim : Lim} {p q : Nat} (h : D6.escape s lim p = .ok (l, q)) : p < q ∧ q ≤ min s.length lim.b.toNat := by
  unfold D6.escape at h
  obtain ⟨W, hW⟩ : ∃ W, D6.want s lim p = W := ⟨_, rfl⟩
  rw [hW] at h
  cases W with
  | error e => cases h
  | ok c =>
    have hpl := (want_lt6 hW).1
    simp only at h
    split at h
    · cases h; omega
    · split at h
      · cases hf : D6.four s lim (p + 1) with
        | error e => rw [hf] at h; cases h
        | ok n =>
          have hp5 := fourN_len 4 (p + 1) 0 n hf (by omega)
          rw [hf] at h
          simp only at h
          split at h
          · cases h
          · split at h
            · unfold D6.second at h
              cases hm : D6.must s lim (p + 5) 92 with
              | error e => rw [hm] at h; cases h
              | ok q1 =>
                obtain ⟨rfl, _⟩ := must_ok hm
                rw [hm] at h
                simp only at h
                cases hm2 : D6.must s lim (p + 5 + 1) 117 with
                | error e => rw [hm2] at h; cases h
                | ok q2 =>
                  obtain ⟨rfl, _⟩ := must_ok hm2
                  rw [hm2] at h
                  simp only at h
                  cases hf2 : D6.four s lim (p + 5 + 1 + 1) with
                  | error e => rw [hf2] at h; cases h
                  | ok m =>
                    have hp11 := fourN_len 4 (p + 5 + 1 + 1) 0 m hf2 (by omega)
                    rw [hf2] at h
                    simp only at h
                    split at h
                    · cases h
                    · have hq : p + 5 + 6 = q := (Prod.mk.inj (Except.ok.inj h)).2
                      omega
            · have hq : p + 5 = q := (Prod.mk.inj (Except.ok.inj h)).2
              omega
      · cases h
theorem signN_place {s : Bytes} {lim : Lim} : ∀ (m p l h r : Nat), D6.signN s lim m p l h = .ok r → r = p + m ∧ (0 < m → r ≤ min s.length lim.b.toNat)
  | 0, p, l, h, r, e => by
    have e : Except.ok p = Except.ok (ε := D6.Flt) r := e
    cases e
    exact ⟨rfl, fun h => absurd h (by decide)⟩
  | m + 1, p, l, h, r, e => by
    rw [jsignN_succ] at e
    obtain ⟨W, hW⟩ : ∃ W, D6.want s lim p = W := ⟨_, rfl⟩
    rw [hW] at e
    cases W with
    | error e' => cases e
    | ok c =>
      have hpl := (want_lt6 hW).1
      simp only at e
      split at e
      · cases e
      · have := signN_place m (p + 1) _ _ r e
        refine ⟨by omega, fun _ => ?_⟩
        cases m with
        | zero => omega
        | succ m => exact this.2 (by omega)
theorem sign_place {s : Bytes} {lim : Lim} {p q : Nat} (h : D6.sign s lim p = .ok q) : p < q ∧ q ≤ min s.length lim.b.toNat := by
  unfold D6.sign at h
  obtain ⟨W, hW⟩ : ∃ W, D6.want s lim p = W := ⟨_, rfl⟩
  rw [hW] at h
  cases W with
  | error e => cases h
  | ok c =>
    simp only at h
    split at h
    · cases h
    · rename_i hn
      have := signN_place _ _ _ _ _ h
      have hn : D6.more c ≠ 0 := by simpa using hn
      exact ⟨by omega, this.2 (by omega)⟩
theorem jsgn_no' {b p c : Nat} {s : Bytes} {lim : Lim} {vs vo : Value} {w : World} {e : D6.Flt} (hc : Cj s lim) (h : Jr w b s lim p vs vo) (hw : D6.want s lim p = .ok c) (he : D6.sign s lim p = .error e) :
    Calls Tryd.prog 62 #[.pointer (some ⟨b, 0, none⟩)] w fun r w' => r = jpanics e ∧ Fr (It b) w w' := by
  have := jsgn_any b p c s lim vs vo hc w h hw
  rw [he] at this
  exact this
theorem jsgn_yes' {b p q c : Nat} {s : Bytes} {lim : Lim} {vs vo : Value} {w : World} (hc : Cj s lim) (h : Jr w b s lim p vs vo) (hw : D6.want s lim p = .ok c) (he : D6.sign s lim p = .ok q) :
    Calls Tryd.prog 62 #[.pointer (some ⟨b, 0, none⟩)] w fun r w' => ∃ v, r = .returned v ∧ NewB w w' v ((s.take q).drop p) ∧ Jr w' b s lim q vs vo ∧ Fr (It b) w w' := by
  have := jsgn_any b p c s lim vs vo hc w h hw
  rw [he] at this
  refine this.mono ?_
  rintro r w' ⟨v, h1, h2, h3, h4, h5, h6, h7⟩
  exact ⟨v, h1, newB h2 h3 h4 h5, h6, h7⟩
/-- What text leaves. -/
def JText (w : World) (b : Nat) (s : Bytes) (lim : Lim) (vs vo : Value) (res : Except D6.Flt (Bytes × Nat)) (r : Ending) (w' : World) : Prop := match res with
  | .error e => r = jpanics e ∧ Fr (It b) w w'
  | .ok (l, q) => r = .returned (S l) ∧ Jr w' b s lim q vs vo ∧ Fr (It b) w w'
section
variable {w w' : World} {b : Nat} {s : Bytes} {lim : Lim} {vs vo : Value} {res : Except D6.Flt (Bytes × Nat)}
theorem JText.bad {e : D6.Flt} (h : res = .error e) (hf : Fr (It b) w w') : JText w b s lim vs vo res (jpanics e) w' := by
  rw [h]; exact ⟨rfl, hf⟩
theorem JText.good {l : Bytes} {q : Nat} (h : res = .ok (l, q)) (hj : Jr w' b s lim q vs vo) (hf : Fr (It b) w w') : JText w b s lim vs vo res (.returned (S l)) w' := by
  rw [h]; exact ⟨rfl, hj, hf⟩
end
theorem jtextN_succ (s : Bytes) (lim : Lim) (m p : Nat) (out : Bytes) : D6.textN s lim (m + 1) p out = match D6.want s lim p with
  | .error e => .error e
  | .ok c =>
    if c == 34 then .ok (out, p + 1)
    else if c < 32 then .error (p, 9)
    else if c == 92 then (match D6.escape s lim (p + 1) with | .error e => .error e | .ok (b, q) => D6.textN s lim m q (out ++ b))
    else if 128 ≤ c then (match D6.sign s lim p with | .error e => .error e | .ok q => D6.textN s lim m q (out ++ (s.take q).drop p))
    else D6.textN s lim m (p + 1) (out ++ [s.getD p 0]) := rfl

set_option maxRecDepth 100000 in
set_option maxHeartbeats 8000000 in
theorem jtext_any (b p : Nat) (s : Bytes) (lim : Lim) (vs vo : Value) (hc : Cj s lim) (hp : p < min s.length lim.b.toNat) (w : World) (h : Jr w b s lim p vs vo) :
    Calls Tryd.prog 46 #[.pointer (some ⟨b, 0, none⟩)] w (JText w b s lim vs vo (D6.text s lim p)) := by
  obtain ⟨R, hR⟩ : ∃ R, R = D6.text s lim p := ⟨_, rfl⟩
  rw [← hR]
  have hR2 : D6.textN s lim (s.length + 1 - p) (p + 1) [] = R := hR.symm
  have hlen := hc.len
  have hT0 : JTxt w w b s lim p vs vo (.slice none 0 0) [] := ⟨h, Fr.refl _ _, World.ownsRow_nil _ _ _ _, h.lt⟩
  have H := Px.hid (And.intro (hT0.move (p + 1)) (And.intro hp (And.intro hc hR2)))
  have hw1 := wrap1 p (by omega)
  obtain ⟨_, _, _, _, c5, _, _⟩ := h.cells
  have f5 := h.free 5
  clear h hp hc hR hR2 hT0 hlen
  go_enter Tryd.func46, Tryd.ntmps46
  go_wp2
  go_loopg [3] (s.length + 1 - p) (fun gk v wr => ∃ k out, k ≤ min s.length lim.b.toNat ∧ s.length + 1 ≤ gk + k ∧ out.length ≤ 4 * k ∧ out.length ≤ 4000000 ∧ JTxt w wr b s lim k vs vo v out ∧ D6.textN s lim gk k out = R)
  case atStart => exact ⟨p + 1, [], H.out.2.1, by have := H.out.2.1; omega, Nat.zero_le _, Nat.zero_le _, H.out.1, H.out.2.2.2⟩
  case round =>
    clear c5 f5 hw1
    obtain ⟨k, out, hk, hgk, hol, hoL, hT, hps⟩ := hrel
    obtain ⟨g', rfl⟩ : ∃ g', gk = g' + 1 := ⟨gk - 1, by omega⟩
    rw [jtextN_succ] at hps
    have hlen := H.out.2.2.1.len
    have HC := Px.hid H.out.2.2.1
    have hk2 : k ≤ 140737488355327 := by omega
    have hwk := wrap1 k hk2
    have HMAY := Px.hid (J6.may_of H.out.2.2.1.may)
    obtain ⟨W, hW⟩ : ∃ W, D6.want s lim k = W := ⟨_, rfl⟩
    rw [hW] at hps
    have HT := Px.hid (And.intro hT (And.intro hgk hol))
    obtain ⟨i0, hi0, hz0, hz1, hz2⟩ := info_parts Tryd.infoU8
    cases W with
    | error e =>
      have HW := Px.hid (jwant_no b k s lim vs vo wr hT.j e hW)
      have HP := Px.hid hps
      clear hps hW hT H hgk hol hk hlen
      go_wp2_with fail
      refine HW.out.mono ?_
      rintro r w1 ⟨rfl, hs⟩
      have HS := Px.hid hs
      clear hs
      unfold jpanics
      go_wp2
      exact ⟨rfl, JText.bad HP.out.symm (It.trans HT.out.1.fr HS.out.it)⟩
    | ok c =>
      have HW := Px.hid (jwant_yes b k s lim vs vo wr hT.j c hW)
      obtain ⟨hkl, hkb, hcc⟩ := want_lt6 hW
      have HKB := Px.hid (show k ≤ 262144 by have := HMAY.out; omega)
      clear hkb
      have hby : c < 256 := by rw [hcc]; exact at_lt s k
      have hgd : s.getD k 0 = UInt8.ofNat c := by rw [hcc]; unfold R6.at_; simp
      have HLT := Px.hid (And.intro hkl (And.intro hgd (And.intro hby hW)))
      simp only at hps
      clear hW hT H hgk hol hk hlen hkl hcc hgd
      by_cases e1 : c = 34
      · rw [if_pos (by simpa using e1)] at hps
        have HP := Px.hid hps
        subst e1
        clear hps hby
        go_wp2_with fail
        refine HW.out.mono ?_
        rintro r w1 ⟨rfl, hs⟩
        have ht := HT.out.1.step (HT.out.1.j.same hs) hs.it
        obtain ⟨_, _, _, _, c5, _, _⟩ := ht.j.cells
        have f5 := ht.j.free 5
        have ht2 := ht.move (k + 1)
        have hstr : (convert 62 9 u3).run Tryd.prog (w1.setCell ⟨b, 5, none⟩ (.int .i64 ((k : Int) + 1))) = .ok (S out) (w1.setCell ⟨b, 5, none⟩ (.int .i64 ((k : Int) + 1))) := Owns.str (owns0 ht2.row) (by kernel_rfl) (by kernel_rfl) (by kernel_rfl)
        have H2 := Px.hid ht2
        clear hs ht ht2
        go_wp2
        go_ret
        exact JText.good HP.out.symm H2.out.j H2.out.fr
      rw [if_neg (by simpa using e1)] at hps
      have d1 : ((c : Int) == 34) = false := by simp; omega
      by_cases e2 : c < 32
      · rw [if_pos e2] at hps
        have HP := Px.hid hps
        have d2 : (c : Int) < 32 := by omega
        clear hps hby e1 e2
        go_wp2_with fail
        refine HW.out.mono ?_
        rintro r w1 ⟨rfl, hs⟩
        have ht := HT.out.1.step (HT.out.1.j.same hs) hs.it
        obtain ⟨_, _, _, _, c5, _, _⟩ := ht.j.cells
        have H1 := Px.hid ht
        clear hs ht
        go_wp2_with fail
        refine (jwrong b _ _ _).mono ?_
        rintro r w2 ⟨rfl, rfl⟩
        unfold jpanics
        go_wp2
        exact ⟨rfl, JText.bad HP.out.symm H1.out.fr⟩
      rw [if_neg e2] at hps
      have d2 : decide ((c : Int) < 32) = false := by simp; omega
      by_cases e3 : c = 92
      · rw [if_pos (by simpa using e3)] at hps
        subst e3
        have hpl := fun l q => escape_place (s := s) (l := l) (lim := lim) (p := k + 1) (q := q)
        obtain ⟨E, hE⟩ : ∃ E, D6.escape s lim (k + 1) = E := ⟨_, rfl⟩
        rw [hE] at hps hpl
        cases E with
        | error e =>
          have HES := Px.hid (fun (w : World) (h : Jr w b s lim (k + 1) vs vo) => jesc_no' HC.out h hE)
          have HP := Px.hid hps
          clear hps hby e1 e2 hE hpl
          go_wp2_with fail
          refine HW.out.mono ?_
          rintro r w1 ⟨rfl, hs⟩
          have ht := HT.out.1.step (HT.out.1.j.same hs) hs.it
          obtain ⟨_, _, _, _, c5, _, _⟩ := ht.j.cells
          have f5 := ht.j.free 5
          have H1 := Px.hid (ht.move (k + 1))
          clear hs ht
          go_wp2_with fail
          refine (HES.out _ H1.out.j).mono ?_
          rintro r w2 ⟨rfl, hf⟩
          have H2 := Px.hid (It.trans H1.out.fr hf)
          clear hf
          unfold jpanics
          go_wp2
          exact ⟨rfl, JText.bad HP.out.symm H2.out⟩
        | ok lq =>
          obtain ⟨l, q⟩ := lq
          have HES := Px.hid (fun (w : World) (h : Jr w b s lim (k + 1) vs vo) => jesc_yes' HC.out h hE)
          have HPL := Px.hid (hpl l q rfl)
          have HP := Px.hid hps
          clear hps hby e1 e2 hE hpl
          go_wp2_with fail
          refine HW.out.mono ?_
          rintro r w1 ⟨rfl, hs⟩
          have ht := HT.out.1.step (HT.out.1.j.same hs) hs.it
          obtain ⟨_, _, _, _, c5, _, _⟩ := ht.j.cells
          have f5 := ht.j.free 5
          have H1 := Px.hid (ht.move (k + 1))
          clear hs ht
          go_wp2_with fail
          refine (HES.out _ H1.out.j).mono ?_
          rintro r w2 ⟨v, rfl, hnb, hj, hf⟩
          obtain ⟨ge, ce, rfl, hge, hrow, h0, h4⟩ := hnb
          have H2 := Px.hid (And.intro (H1.out.step hj hf) hrow)
          clear hj hf hrow hge c5 f5
          obtain ⟨va, vc, hv⟩ := row_len H2.out.1.row
          subst hv
          go_wp2_with (at_builtin; go_must (refine wpList_append_lies _ rfl _ _ _ rfl w.heap.size 5 i0 _ 1 1 Tryd.underlying62 hi0 hz0 hz1 hz2 rfl (by omega) (.slice va out.length vc) out.length (out.flatMap cByte) rfl H2.out.1.row ⟨ge, 0, none⟩ l.length ce (l.flatMap cByte) rfl (by rw [flat_len cByte_len]) (newB_cells H2.out.2) (one_cells l) h0 (by unfold maxLen; omega) (by omega) (by have := H2.out.1.fr.size; omega) w2.heap.size rfl ?_))
          intro gg cap w3 hown hgrow hat hltg
          have ht : JTxt w w3 b s lim q vs vo (.slice (some ⟨gg, 0, none⟩) (out.length + l.length) cap) (out ++ l) := H2.out.1.grow (by rw [List.length_append, List.flatMap_append]; exact hown) hgrow
          have H3 := Px.hid (And.intro ht h4)
          clear hown hgrow hat hltg ht h0 h4
          go_wp2
          go_roundg g'
          case measure => omega
          case rel =>
            refine ⟨q, out ++ l, HPL.out.2, ?_, ?_, ?_, H3.out.1, HP.out⟩
            · have h1 := HT.out.2.1; have h2 := HPL.out; omega
            · have h1 := HT.out.2.2; have h2 := HPL.out; have h3 := H3.out.2; rw [List.length_append]; omega
            · have h1 := HT.out.2.2; have h2 := HKB.out; have h3 := H3.out.2; rw [List.length_append]; omega
      rw [if_neg (by simpa using e3)] at hps
      have d3 : ((c : Int) == 92) = false := by simp; omega
      by_cases e4 : 128 ≤ c
      · rw [if_pos e4] at hps
        have d4 : (128 : Int) ≤ (c : Int) := by omega
        have hpl := fun q => sign_place (s := s) (lim := lim) (p := k) (q := q)
        obtain ⟨E, hE⟩ : ∃ E, D6.sign s lim k = E := ⟨_, rfl⟩
        rw [hE] at hps hpl
        cases E with
        | error e =>
          have HES := Px.hid (fun (w : World) (h : Jr w b s lim k vs vo) => jsgn_no' HC.out h HLT.out.2.2.2 hE)
          have HP := Px.hid hps
          clear hps hby e1 e2 e3 e4 hE hpl
          go_wp2_with fail
          refine HW.out.mono ?_
          rintro r w1 ⟨rfl, hs⟩
          have H1 := Px.hid (HT.out.1.step (HT.out.1.j.same hs) hs.it)
          clear hs
          go_wp2_with fail
          refine (HES.out _ H1.out.j).mono ?_
          rintro r w2 ⟨rfl, hf⟩
          have H2 := Px.hid (It.trans H1.out.fr hf)
          clear hf
          unfold jpanics
          go_wp2
          exact ⟨rfl, JText.bad HP.out.symm H2.out⟩
        | ok q =>
          have HES := Px.hid (fun (w : World) (h : Jr w b s lim k vs vo) => jsgn_yes' HC.out h HLT.out.2.2.2 hE)
          have HPL := Px.hid (hpl q rfl)
          simp only at hps
          obtain ⟨l, hl⟩ : ∃ l, (s.take q).drop k = l := ⟨_, rfl⟩
          rw [hl] at hps
          simp only [hl] at HES
          have HP := Px.hid hps
          clear hps hby e1 e2 e3 e4 hE hpl hl
          go_wp2_with fail
          refine HW.out.mono ?_
          rintro r w1 ⟨rfl, hs⟩
          have H1 := Px.hid (HT.out.1.step (HT.out.1.j.same hs) hs.it)
          clear hs
          go_wp2_with fail
          refine (HES.out _ H1.out.j).mono ?_
          rintro r w2 ⟨v, rfl, hnb, hj, hf⟩
          obtain ⟨ge, ce, rfl, hge, hrow, h0, h4⟩ := hnb
          have H2 := Px.hid (And.intro (H1.out.step hj hf) hrow)
          clear hj hf hrow hge
          obtain ⟨va, vc, hv⟩ := row_len H2.out.1.row
          subst hv
          go_wp2_with (at_builtin; go_must (refine wpList_append_lies _ rfl _ _ _ rfl w.heap.size 5 i0 _ 1 1 Tryd.underlying62 hi0 hz0 hz1 hz2 rfl (by omega) (.slice va out.length vc) out.length (out.flatMap cByte) rfl H2.out.1.row ⟨ge, 0, none⟩ l.length ce (l.flatMap cByte) rfl (by rw [flat_len cByte_len]) (newB_cells H2.out.2) (one_cells l) h0 (by unfold maxLen; omega) (by omega) (by have := H2.out.1.fr.size; omega) w2.heap.size rfl ?_))
          intro gg cap w3 hown hgrow hat hltg
          have ht : JTxt w w3 b s lim q vs vo (.slice (some ⟨gg, 0, none⟩) (out.length + l.length) cap) (out ++ l) := H2.out.1.grow (by rw [List.length_append, List.flatMap_append]; exact hown) hgrow
          have H3 := Px.hid (And.intro ht h4)
          clear hown hgrow hat hltg ht h0 h4
          go_wp2
          go_roundg g'
          case measure => omega
          case rel =>
            refine ⟨q, out ++ l, HPL.out.2, ?_, ?_, ?_, H3.out.1, HP.out⟩
            · have h1 := HT.out.2.1; have h2 := HPL.out; omega
            · have h1 := HT.out.2.2; have h2 := HPL.out; have h3 := H3.out.2; rw [List.length_append]; omega
            · have h1 := HT.out.2.2; have h2 := HKB.out; have h3 := H3.out.2; rw [List.length_append]; omega
      · rw [if_neg e4] at hps
        have d4 : decide ((128 : Int) ≤ (c : Int)) = false := by simp; omega
        have HP := Px.hid hps
        have hcell : Value.int .u8 (c : Nat) = .int .u8 ((s.getD k 0).toNat : Nat) := by rw [HLT.out.2.1]; exact (byte_cell c HLT.out.2.2.1).symm
        have HCE := Px.hid hcell
        clear hps hby e1 e2 e3 e4 hcell
        go_wp2_with fail
        refine HW.out.mono ?_
        rintro r w1 ⟨rfl, hs⟩
        have H1 := Px.hid (HT.out.1.step (HT.out.1.j.same hs) hs.it)
        clear hs
        obtain ⟨va, vc, hv⟩ := row_len H1.out.row
        subst hv
        have c5 := H1.out.j.cells.2.2.2.2.1
        have f5 := H1.out.j.free 5
        have HNB := Px.hid (show (Value.slice va out.length vc).ownBlock ≠ some b from fun e => by have := (World.ownsRow.lt H1.out.row b e).1; have := H1.out.nb; omega)
        have hbl := H1.out.j.lt
        go_wp2_with (at_builtin; go_must (refine wpList_append_lies _ rfl _ _ _ rfl w.heap.size 5 i0 _ 1 1 Tryd.underlying62 hi0 hz0 hz1 hz2 rfl (by omega) (.slice va out.length vc) out.length (out.flatMap cByte) rfl (row_keep H1.out.row (fun k hk => Below.heap_alloc w1 _ k (World.ownsRow.lt H1.out.row k hk).2)) ⟨w1.heap.size, 0, none⟩ 1 1 [.int .u8 (c : Nat)] rfl rfl (World.news_of_block (cs := #[.int .u8 (c : Nat)]) (t := 5) (fr := (0, 0)) (heap_alloc_new w1 _)) (by simp [Value.oneCell']) (by omega) (by unfold maxLen; omega) (by omega) (by have := H1.out.fr.size; simp; omega) (w1.heap.size + 1) (by simp) ?_))
        intro gg cap w3 hown hgrow hat hltg
        have k5 := grown_cell1 hgrow c5 HNB.out
        have e5 := grown_free1 hgrow c5 f5 HNB.out
        have ht : JTxt w w3 b s lim k vs vo (.slice (some ⟨gg, 0, none⟩) (out.length + 1) cap) (out ++ [s.getD k 0]) := H1.out.grow (by
          rw [List.length_append, List.flatMap_append]
          rw [HCE.out] at hown
          exact hown) (grown_alloc1 hgrow)
        have H3 := Px.hid (ht.move (k + 1))
        clear hown hgrow hat hltg ht c5 f5 hbl
        go_wp2
        go_roundg g'
        case measure => omega
        case rel =>
          refine ⟨k + 1, out ++ [s.getD k 0], HLT.out.1, ?_, ?_, ?_, H3.out, HP.out⟩
          · have h1 := HT.out.2.1; omega
          · have h1 := HT.out.2.2; rw [List.length_append]; simp; omega
          · have h1 := HT.out.2.2; have h2 := HKB.out; rw [List.length_append]; simp; omega
end Go.Proofs.YtahojodgmjmpnaaDoor

/-! How the program's reader of package json lies in memory with its list, its frames and their names, and what becomes of that. -/
namespace Go.Proofs.YtahojodgmjmpnaaDoor
open Go.RowKit Go.Px

def cJf (p : D6.Fm × Value) : List Value := [.int .i64 (p.1.no : Nat), p.2]
theorem cJf_len (a : D6.Fm × Value) : (cJf a).length = 2 := rfl
def nmB (ps : List (D6.Fm × Value)) : List (Option Nat) := ps.map fun p => p.2.ownBlock
def jbl (vo vs : Value) (ps : List (D6.Fm × Value)) : List (Option Nat) := vo.ownBlock :: vs.ownBlock :: nmB ps
structure JPs (w : World) (x : D6.Dx) (vs vo : Value) (ps : List (D6.Fm × Value)) : Prop where
  out : Owns w 58 3 cVal vo x.out
  stack : Owns w 77 2 cJf vs ps.reverse
  fms : ps.map Prod.fst = x.stack
  names : ∀ p ∈ ps, Owns w 9 1 cStr p.2 p.1.names
  ap : (jbl vo vs ps).Pairwise Apart
structure JRep (w : World) (b : Nat) (s : Bytes) (lim : Lim) (x : D6.Dx) (vs vo : Value) (ps : List (D6.Fm × Value)) : Prop where
  jr : Jr w b s lim x.at_ vs vo
  parts : JPs w x vs vo ps
  nb : some b ∉ jbl vo vs ps
section
variable {w w' : World} {b : Nat} {s : Bytes} {lim : Lim} {x : D6.Dx} {vs vo vs' vo' : Value} {ps ps' : List (D6.Fm × Value)} {F : Nat → Prop}
theorem mem_jbl {k : Nat} : some k ∈ jbl vo vs ps ↔ (vo.ownBlock = some k ∨ vs.ownBlock = some k ∨ some k ∈ nmB ps) := by
  simp only [jbl, List.mem_cons]
  constructor
  · rintro (h | h | h)
    · exact .inl h.symm
    · exact .inr (.inl h.symm)
    · exact .inr (.inr h)
  · rintro (h | h | h)
    · exact .inl h.symm
    · exact .inr (.inl h.symm)
    · exact .inr (.inr h)
theorem mem_nmB {k : Nat} : some k ∈ nmB ps ↔ ∃ p ∈ ps, p.2.ownBlock = some k := by simp [nmB]
theorem JPs.lt (h : JPs w x vs vo ps) {k : Nat} (hk : some k ∈ jbl vo vs ps) : k < w.heap.size := by
  rcases mem_jbl.1 hk with y | y | y
  · exact h.out.lt y
  · exact h.stack.lt y
  · obtain ⟨p, hp, e⟩ := mem_nmB.1 y
    exact (h.names p hp).lt e
theorem JPs.keep (h : JPs w x vs vo ps) (hk : ∀ k, some k ∈ jbl vo vs ps → w'.heap[k]? = w.heap[k]?) : JPs w' x vs vo ps :=
  ⟨h.out.keep fun k e => hk k (mem_jbl.2 (.inl e)), h.stack.keep fun k e => hk k (mem_jbl.2 (.inr (.inl e))), h.fms,
   fun p hp => (h.names p hp).keep fun k e => hk k (mem_jbl.2 (.inr (.inr (mem_nmB.2 ⟨p, hp, e⟩)))), h.ap⟩
theorem JPs.split (h : JPs w x vs vo ps) : Apart vo.ownBlock vs.ownBlock ∧ (∀ k, vo.ownBlock = some k → some k ∉ nmB ps) ∧ (∀ k, vs.ownBlock = some k → some k ∉ nmB ps) ∧ (nmB ps).Pairwise Apart := by
  have h := h.ap
  simp only [jbl, List.pairwise_cons] at h
  obtain ⟨h1, h2, h3⟩ := h
  exact ⟨h1 _ (by simp), fun k e y => h1 _ (List.mem_cons_of_mem _ y) k e rfl, fun k e y => h2 _ y k e rfl, h3⟩
theorem JPs.at_ (h : JPs w x vs vo ps) (q : Nat) : JPs w { x with at_ := q } vs vo ps := ⟨h.out, h.stack, h.fms, h.names, h.ap⟩
/-- The list of values has changed. -/
theorem JPs.putOut (h : JPs w x vs vo ps) (hf : Fr F w w') (hF : ∀ k, F k → vo.ownBlock = some k) {l : List Val} (ho : Owns w' 58 3 cVal vo' l)
    (hn : ∀ k, vo'.ownBlock = some k → vo.ownBlock = some k ∨ w.heap.size ≤ k) : JPs w' { x with out := l } vs vo' ps := by
  obtain ⟨s1, s2, s3, s4⟩ := h.split
  have kp : ∀ k, some k ∈ jbl vo vs ps → vo.ownBlock ≠ some k → w'.heap[k]? = w.heap[k]? := fun k hk hne => hf.block k (h.lt hk) (fun x => hne (hF k x))
  refine ⟨ho, h.stack.keep fun k e => kp k (mem_jbl.2 (.inr (.inl e))) (fun x => s1 k x e), h.fms, fun p hp => (h.names p hp).keep fun k e => ?_, ?_⟩
  · have hm := mem_nmB.2 ⟨p, hp, e⟩
    exact kp k (mem_jbl.2 (.inr (.inr hm))) (fun x => s2 k x hm)
  · refine apart_swap (l1 := []) (o := [vo.ownBlock]) (n := [vo'.ownBlock]) (l2 := vs.ownBlock :: nmB ps) (B := w.heap.size) h.ap ?_ (by simp) ?_
    · rintro k (x | x)
      · cases x
      · exact h.lt (List.mem_cons_of_mem _ x)
    · intro k hk
      simp only [List.mem_cons, List.not_mem_nil, or_false] at hk ⊢
      exact (hn k hk.symm).imp Eq.symm id
/-- The innermost frame's names have changed. -/
theorem JPs.putNames {f : D6.Fm} {vn vn' : Value} {rest : List (D6.Fm × Value)} {l : List Bytes} (h : JPs w x vs vo ((f, vn) :: rest)) (hf : Fr F w w') (hF : ∀ k, F k → vs.ownBlock = some k ∨ vn.ownBlock = some k)
    (hs : Owns w' 77 2 cJf vs (({ f with names := l }, vn') :: rest).reverse) (hnm : Owns w' 9 1 cStr vn' l) (hn : ∀ k, vn'.ownBlock = some k → vn.ownBlock = some k ∨ w.heap.size ≤ k) :
    JPs w' { x with stack := { f with names := l } :: rest.map Prod.fst } vs vo (({ f with names := l }, vn') :: rest) := by
  obtain ⟨s1, s2, s3, s4⟩ := h.split
  have hvn : ∀ k, vn.ownBlock = some k → some k ∈ nmB ((f, vn) :: rest) := fun k e => mem_nmB.2 ⟨_, List.mem_cons_self .., e⟩
  have kp : ∀ k, some k ∈ jbl vo vs ((f, vn) :: rest) → vs.ownBlock ≠ some k → vn.ownBlock ≠ some k → w'.heap[k]? = w.heap[k]? := fun k hk h1 h2 => hf.block k (h.lt hk) (fun x => (hF k x).elim h1 h2)
  have s4' : ∀ p ∈ rest, Apart vn.ownBlock p.2.ownBlock := by
    have := s4
    simp only [nmB, List.map_cons, List.pairwise_cons] at this
    exact fun p hp => this.1 _ (List.mem_map.2 ⟨p, hp, rfl⟩)
  refine ⟨h.out.keep fun k e => kp k (mem_jbl.2 (.inl e)) (fun y => s1 k e y) (fun y => s2 k e (hvn k y)), hs, by rw [List.map_cons], ?_, ?_⟩
  · intro p hp
    rcases List.mem_cons.1 hp with rfl | hp
    · exact hnm
    · refine (h.names p (List.mem_cons_of_mem _ hp)).keep fun k e => ?_
      have hm : some k ∈ nmB ((f, vn) :: rest) := mem_nmB.2 ⟨p, List.mem_cons_of_mem _ hp, e⟩
      exact kp k (mem_jbl.2 (.inr (.inr hm))) (fun y => s3 k y hm) (fun y => s4' p hp k y e)
  · have := apart_swap (l1 := [vo.ownBlock, vs.ownBlock]) (o := [vn.ownBlock]) (n := [vn'.ownBlock]) (l2 := nmB rest) (B := w.heap.size) (by simpa [jbl, nmB] using h.ap) ?_ (by simp) ?_
    · simpa [jbl, nmB] using this
    · intro k y
      refine h.lt (mem_jbl.2 ?_)
      rcases y with y | y
      · simp only [List.mem_cons, List.not_mem_nil, or_false] at y
        rcases y with y | y
        · exact .inl y.symm
        · exact .inr (.inl y.symm)
      · refine .inr (.inr ?_)
        simp only [nmB, List.map_cons, List.mem_cons]
        exact .inr y
    · intro k hk
      simp only [List.mem_cons, List.not_mem_nil, or_false] at hk ⊢
      exact (hn k hk.symm).imp Eq.symm id
/-- One more frame is begun. -/
theorem JPs.push (h : JPs w x vs vo ps) (hf : Fr F w w') (hF : ∀ k, F k → vs.ownBlock = some k) {f : D6.Fm} (hx : f.names = []) (hs : Owns w' 77 2 cJf vs' ((f, .slice none 0 0) :: ps).reverse)
    (hn : ∀ k, vs'.ownBlock = some k → vs.ownBlock = some k ∨ w.heap.size ≤ k) : JPs w' { x with stack := f :: x.stack } vs' vo ((f, .slice none 0 0) :: ps) := by
  obtain ⟨s1, s2, s3, s4⟩ := h.split
  have kp : ∀ k, some k ∈ jbl vo vs ps → vs.ownBlock ≠ some k → w'.heap[k]? = w.heap[k]? := fun k hk h1 => hf.block k (h.lt hk) (fun x => h1 (hF k x))
  refine ⟨h.out.keep fun k e => kp k (mem_jbl.2 (.inl e)) (fun y => s1 k e y), hs, by rw [List.map_cons, h.fms], ?_, ?_⟩
  · intro p hp
    rcases List.mem_cons.1 hp with rfl | hp
    · rw [show (f, Value.slice none 0 0).1.names = [] from hx]
      exact owns_nil _ _ _ _
    · refine (h.names p hp).keep fun k e => ?_
      have hm : some k ∈ nmB ps := mem_nmB.2 ⟨p, hp, e⟩
      exact kp k (mem_jbl.2 (.inr (.inr hm))) (fun y => s3 k y hm)
  · have h1 := apart_swap (l1 := [vo.ownBlock]) (o := [vs.ownBlock]) (n := [vs'.ownBlock]) (l2 := nmB ps) (B := w.heap.size) h.ap ?_ (by simp) ?_
    · have h2 := apart_swap (l1 := [vo.ownBlock, vs'.ownBlock]) (o := []) (n := [none]) (l2 := nmB ps) (B := w'.heap.size) (by simpa using h1) ?_ (by simp) (fun k hk => by simp at hk)
      · simpa [jbl, nmB, Value.ownBlock] using h2
      · intro k y
        have hsz := hf.size
        rcases y with y | y
        · simp only [List.mem_cons, List.not_mem_nil, or_false] at y
          rcases y with y | y
          · have := h.out.lt y.symm; omega
          · exact hs.lt y.symm
        · have := h.lt (mem_jbl.2 (.inr (.inr y))); omega
    · intro k y
      refine h.lt (mem_jbl.2 ?_)
      rcases y with y | y
      · simp only [List.mem_cons, List.not_mem_nil, or_false] at y
        exact .inl y.symm
      · exact .inr (.inr y)
    · intro k hk
      simp only [List.mem_cons, List.not_mem_nil, or_false] at hk ⊢
      exact (hn k hk.symm).imp Eq.symm id
/-- The innermost frame is taken off. -/
theorem JPs.pop {p : D6.Fm × Value} {rest : List (D6.Fm × Value)} {g cap : Nat} (h : JPs w x (.slice (some ⟨g, 0, none⟩) (rest.length + 1) cap) vo (p :: rest)) :
    JPs w { x with stack := rest.map Prod.fst } (.slice (some ⟨g, 0, none⟩) rest.length cap) vo rest := by
  have h' : Owns w 77 2 cJf (.slice (some ⟨g, 0, none⟩) (rest.reverse.length + 1) cap) (rest.reverse ++ [p]) := by have := h.stack; simpa using this
  have k := h'.pop cJf_len
  rw [List.length_reverse] at k
  refine ⟨h.out, k, rfl, fun q hq => h.names q (List.mem_cons_of_mem _ hq), ?_⟩
  have := h.ap
  simp only [jbl, nmB, List.map_cons, Value.ownBlock] at this ⊢
  refine List.Pairwise.sublist ?_ this
  exact List.Sublist.cons_cons _ (List.Sublist.cons_cons _ (List.Sublist.cons _ (List.Sublist.refl _)))
theorem jbl_pop {p : D6.Fm × Value} {rest : List (D6.Fm × Value)} {g n m cap k : Nat} (h : some k ∈ jbl vo (.slice (some ⟨g, 0, none⟩) n cap) rest) : some k ∈ jbl vo (.slice (some ⟨g, 0, none⟩) m cap) (p :: rest) := by
  rcases mem_jbl.1 h with x | x | x
  · exact mem_jbl.2 (.inl x)
  · exact mem_jbl.2 (.inr (.inl x))
  · refine mem_jbl.2 (.inr (.inr ?_))
    simp only [nmB, List.map_cons, List.mem_cons]
    exact .inr x
theorem Jr.setStack (h : Jr w b s lim x.at_ vs vo) (v : Value) : Jr (w.setCell ⟨b, 6, none⟩ v) b s lim x.at_ v vo := ⟨by rw [heap_setCell_same w b 6 _ _ _ h.blk]; rfl⟩
theorem Jr.setOut (h : Jr w b s lim x.at_ vs vo) (v : Value) : Jr (w.setCell ⟨b, 7, none⟩ v) b s lim x.at_ vs v := ⟨by rw [heap_setCell_same w b 7 _ _ _ h.blk]; rfl⟩
theorem JRep.lt (h : JRep w b s lim x vs vo ps) : b < w.heap.size := h.jr.lt
theorem JRep.footLt (h : JRep w b s lim x vs vo ps) {k : Nat} (hk : foot b (jbl vo vs ps) k) : k < w.heap.size := by
  rcases hk with rfl | hk
  · exact h.lt
  · exact h.parts.lt hk
theorem JRep.keep (h : JRep w b s lim x vs vo ps) (hk : ∀ k, foot b (jbl vo vs ps) k → w'.heap[k]? = w.heap[k]?) : JRep w' b s lim x vs vo ps :=
  ⟨h.jr.keep (hk b (.inl rfl)), h.parts.keep (fun k e => hk k (.inr e)), h.nb⟩
theorem JRep.alloc (h : JRep w b s lim x vs vo ps) (o : Obj) : JRep (w.alloc o) b s lim x vs vo ps := h.keep fun k hk => Below.heap_alloc w o k (h.footLt hk)
theorem JRep.same (h : JRep w b s lim x vs vo ps) (hs : Same w w') : JRep w' b s lim x vs vo ps := h.keep fun k hk => hs.block k (h.footLt hk) (fun x => x)
theorem JRep.drew (h : JRep w b s lim x vs vo ps) : JRep w.drew b s lim x vs vo ps := h.keep fun _ _ => rfl
theorem JRep.drewN (h : JRep w b s lim x vs vo ps) (n : Nat) : JRep (w.drewN n) b s lim x vs vo ps := h.keep fun _ _ => rfl
/-- The reader's own cells changed: its place. -/
theorem JRep.it (h : JRep w b s lim x vs vo ps) {q : Nat} (hj : Jr w' b s lim q vs vo) (hf : Fr (It b) w w') : JRep w' b s lim { x with at_ := q } vs vo ps :=
  ⟨hj, (h.parts.keep fun k hk => hf.block k (h.parts.lt hk) (fun e => h.nb (by have e : k = b := e; rw [e] at hk; exact hk))).at_ q, h.nb⟩
theorem It.jfoot {bl : List (Option Nat)} (hf : Fr (It b) w w') : Fr (foot b bl) w w' := hf.mono fun _ e => .inl e
/-- The parts have changed, no field. -/
theorem JRep.inner {x' : D6.Dx} (h : JRep w b s lim x vs vo ps) (hf : Fr F w w') (hF : ∀ k, F k → some k ∈ jbl vo vs ps) (hp : JPs w' x' vs vo ps')
    (hn : ∀ k, some k ∈ jbl vo vs ps' → some k ∈ jbl vo vs ps ∨ w.heap.size ≤ k) (ha : x'.at_ = x.at_) : JRep w' b s lim x' vs vo ps' := by
  refine ⟨by rw [ha]; exact h.jr.keep (hf.block b h.lt (fun y => h.nb (hF b y))), hp, fun e => ?_⟩
  rcases hn b e with y | y
  · exact h.nb y
  · have := h.lt; omega
theorem JPs.aside (h : JPs w x vs vo ps) (hb : some b ∉ jbl vo vs ps) (i : Nat) (v : Value) : JPs (w.setCell ⟨b, i, none⟩ v) x vs vo ps :=
  h.keep fun k hk => heap_setCell_other _ _ _ _ (fun e => hb (by have e' : k = b := e; rw [e'] at hk; exact hk))
/-- The stack has changed, and its field is written. -/
theorem JRep.storeStack {x' : D6.Dx} (h : JRep w b s lim x vs vo ps) (hf : Fr F w w') (hF : ∀ k, F k → some k ∈ jbl vo vs ps) (hp : JPs w' x' vs' vo ps')
    (hn : ∀ k, some k ∈ jbl vo vs' ps' → some k ∈ jbl vo vs ps ∨ w.heap.size ≤ k) (ha : x'.at_ = x.at_) : JRep (w'.setCell ⟨b, 6, none⟩ vs') b s lim x' vs' vo ps' := by
  have hnb : some b ∉ jbl vo vs' ps' := fun e => by
    rcases hn b e with y | y
    · exact h.nb y
    · have := h.lt; omega
  have hj := (h.jr.keep (hf.block b h.lt (fun y => h.nb (hF b y)))).setStack vs'
  exact ⟨by rw [ha]; exact hj, hp.aside hnb 6 _, hnb⟩
/-- The list has changed, and its field is written. -/
theorem JRep.storeOut {x' : D6.Dx} (h : JRep w b s lim x vs vo ps) (hf : Fr F w w') (hF : ∀ k, F k → some k ∈ jbl vo vs ps) (hp : JPs w' x' vs vo' ps')
    (hn : ∀ k, some k ∈ jbl vo' vs ps' → some k ∈ jbl vo vs ps ∨ w.heap.size ≤ k) (ha : x'.at_ = x.at_) : JRep (w'.setCell ⟨b, 7, none⟩ vo') b s lim x' vs vo' ps' := by
  have hnb : some b ∉ jbl vo' vs ps' := fun e => by
    rcases hn b e with y | y
    · exact h.nb y
    · have := h.lt; omega
  have hj := (h.jr.keep (hf.block b h.lt (fun y => h.nb (hF b y)))).setOut vo'
  exact ⟨by rw [ha]; exact hj, hp.aside hnb 7 _, hnb⟩
/-- The innermost frame, open. -/
theorem JRep.top {f : D6.Fm} {rest : List D6.Fm} (h : JRep w b s lim x vs vo ps) (hs : x.stack = f :: rest) :
    ∃ vn ps2, ps = (f, vn) :: ps2 ∧ ps2.map Prod.fst = rest ∧ ∃ g cap, vs = .slice (some ⟨g, 0, none⟩) (ps2.length + 1) cap ∧ ps2.length + 1 ≤ cap ∧ cap ≤ maxLen ∧
      w.cell? ⟨g, ps2.length * 2, none⟩ = some (.int .i64 (f.no : Nat)) ∧ w.cell? ⟨g, ps2.length * 2 + 1, none⟩ = some vn ∧ (∀ i, w.frozen? ⟨g, i, none⟩ = false) := by
  have hm := h.parts.fms
  rw [hs] at hm
  cases ps with
  | nil => cases hm
  | cons p ps2 =>
    obtain ⟨f', vn⟩ := p
    simp only [List.map_cons, List.cons.injEq] at hm
    obtain ⟨rfl, hm⟩ := hm
    refine ⟨vn, ps2, rfl, hm, ?_⟩
    have h' : Owns w 77 2 cJf vs (ps2.reverse ++ [(f', vn)]) := by have := h.parts.stack; simpa using this
    obtain ⟨g, cap, h1, h2, h3, h4, h5⟩ := h'.last cJf_len
    rw [List.length_reverse] at h1 h2 h4
    exact ⟨g, cap, h1, h2, h3, h4 0 _ rfl, h4 1 _ rfl, h5⟩
theorem JRep.stackLen (h : JRep w b s lim x vs vo ps) : ∃ a cap, vs = .slice a x.stack.length cap := by
  obtain ⟨a, cap, hv, _⟩ := h.parts.stack.len
  have e : ps.reverse.length = x.stack.length := by rw [List.length_reverse, ← h.parts.fms, List.length_map]
  rw [e] at hv
  exact ⟨a, cap, hv⟩
/-- A value of the list, open. -/
theorem JRep.val {j : Nat} {a : Val} (h : JRep w b s lim x vs vo ps) (hj : x.out[j]? = some a) :
    ∃ g cap, vo = .slice (some ⟨g, 0, none⟩) x.out.length cap ∧ x.out.length ≤ cap ∧ cap ≤ maxLen ∧ w.cell? ⟨g, j * 3, none⟩ = some (.int .i64 a.kind) ∧ w.cell? ⟨g, j * 3 + 1, none⟩ = some (.int .i64 a.kids) ∧ w.cell? ⟨g, j * 3 + 2, none⟩ = some (S a.text) ∧ (∀ i, w.frozen? ⟨g, i, none⟩ = false) := by
  obtain ⟨g, cap, h1, h2, h3, h4, h5⟩ := h.parts.out.at cVal_len hj
  exact ⟨g, cap, h1, h2, h3, h4 0 _ rfl, h4 1 _ rfl, h4 2 _ rfl, h5⟩
/-- A cell of a value of the list is written. -/
theorem JRep.setVal {j g n cap : Nat} {a a' : Val} (h : JRep w b s lim x vs (.slice (some ⟨g, 0, none⟩) n cap) ps) (hj : x.out[j]? = some a) (i : Nat) (hi : i < 3) (u : Value) (he : cVal a' = (cVal a).set i u) :
    JRep (w.setCell ⟨g, j * 3 + i, none⟩ u) b s lim { x with out := x.out.set j a' } vs (.slice (some ⟨g, 0, none⟩) n cap) ps := by
  have hf : Fr (fun k => k = g) w (w.setCell ⟨g, j * 3 + i, none⟩ u) := Fr.setCell (Fr.refl (fun k => k = g) w) (p := ⟨g, j * 3 + i, none⟩) (.inl rfl) u
  have hF : ∀ k, k = g → some k ∈ jbl (.slice (some ⟨g, 0, none⟩) n cap) vs ps := fun k e => mem_jbl.2 (.inl (by rw [e]; rfl))
  exact h.inner hf hF (h.parts.putOut hf (fun k e => by rw [e]; rfl) (owns_setAt cVal_len h.parts.out hj i hi u he) (fun k e => .inl e)) (fun k e => .inl e) rfl
/-- The innermost frame is taken off. -/
theorem JRep.pop {p : D6.Fm × Value} {rest : List (D6.Fm × Value)} {g cap : Nat} (h : JRep w b s lim x (.slice (some ⟨g, 0, none⟩) (rest.length + 1) cap) vo (p :: rest)) :
    JRep (w.setCell ⟨b, 6, none⟩ (.slice (some ⟨g, 0, none⟩) rest.length cap)) b s lim { x with stack := rest.map Prod.fst } (.slice (some ⟨g, 0, none⟩) rest.length cap) vo rest :=
  h.storeStack (F := fun _ => False) (Fr.refl _ w) (fun _ x => x.elim) h.parts.pop (fun _ e => .inl (jbl_pop e)) rfl
end
/-- What a call of the reader leaves. -/
structure JRun (w : World) (b : Nat) (s : Bytes) (lim : Lim) (vs vo : Value) (ps : List (D6.Fm × Value)) (x : D6.Dx) (w' : World) (vs' vo' : Value) (ps' : List (D6.Fm × Value)) : Prop where
  rep : JRep w' b s lim x vs' vo' ps'
  fr : Fr (foot b (jbl vo vs ps)) w w'
  fresh : Fresh w (foot b (jbl vo vs ps)) (foot b (jbl vo' vs' ps'))
section
variable {w w1 w2 : World} {b : Nat} {s : Bytes} {lim : Lim} {x y : D6.Dx} {vs vo vs1 vo1 vs2 vo2 : Value} {ps ps1 ps2 : List (D6.Fm × Value)}
theorem JRun.refl (h : JRep w b s lim x vs vo ps) : JRun w b s lim vs vo ps x w vs vo ps := ⟨h, Fr.refl _ _, Fresh.refl _ _⟩
theorem JRun.trans (h : JRun w b s lim vs vo ps x w1 vs1 vo1 ps1) (k : JRun w1 b s lim vs1 vo1 ps1 y w2 vs2 vo2 ps2) : JRun w b s lim vs vo ps y w2 vs2 vo2 ps2 :=
  ⟨k.rep, h.fr.step h.fresh k.fr, Fresh.trans h.fresh h.fr.size k.fresh⟩
theorem JRun.it (h : JRun w b s lim vs vo ps x w1 vs1 vo1 ps1) {q : Nat} (hj : Jr w2 b s lim q vs1 vo1) (hf : Fr (It b) w1 w2) : JRun w b s lim vs vo ps { x with at_ := q } w2 vs1 vo1 ps1 :=
  ⟨h.rep.it hj hf, h.fr.step h.fresh (It.jfoot hf), h.fresh⟩
theorem JRun.frit (h : JRun w b s lim vs vo ps x w1 vs1 vo1 ps1) (hf : Fr (It b) w1 w2) : Fr (foot b (jbl vo vs ps)) w w2 := h.fr.step h.fresh (It.jfoot hf)
theorem JRun.same (h : JRun w b s lim vs vo ps x w1 vs1 vo1 ps1) (hs : Same w1 w2) : JRun w b s lim vs vo ps x w2 vs1 vo1 ps1 := ⟨h.rep.same hs, h.fr.step h.fresh (hs.mono fun _ e => e.elim), h.fresh⟩
theorem JRun.drewN (h : JRun w b s lim vs vo ps x w1 vs1 vo1 ps1) (n : Nat) : JRun w b s lim vs vo ps x (w1.drewN n) vs1 vo1 ps1 := h.same (Fr.drewN (Fr.refl _ _) n)
theorem JRun.drew (h : JRun w b s lim vs vo ps x w1 vs1 vo1 ps1) : JRun w b s lim vs vo ps x w1.drew vs1 vo1 ps1 := ⟨h.rep.drew, h.fr.drew, h.fresh⟩
theorem JRun.alloc (h : JRun w b s lim vs vo ps x w1 vs1 vo1 ps1) (o : Obj) : JRun w b s lim vs vo ps x (w1.alloc o) vs1 vo1 ps1 := ⟨h.rep.alloc o, h.fr.alloc o, h.fresh⟩
/-- A cell of a value is written. -/
theorem JRun.setVal {j g n cap : Nat} {a a' : Val} (h : JRun w b s lim vs vo ps x w1 vs1 (.slice (some ⟨g, 0, none⟩) n cap) ps1) (hj : x.out[j]? = some a) (i : Nat) (hi : i < 3) (u : Value) (he : cVal a' = (cVal a).set i u) :
    JRun w b s lim vs vo ps { x with out := x.out.set j a' } (w1.setCell ⟨g, j * 3 + i, none⟩ u) vs1 (.slice (some ⟨g, 0, none⟩) n cap) ps1 := by
  refine h.trans ⟨h.rep.setVal hj i hi u he, ?_, Fresh.refl _ _⟩
  exact Fr.setCell (Fr.refl (foot b (jbl (.slice (some ⟨g, 0, none⟩) n cap) vs1 ps1)) w1) (p := ⟨g, j * 3 + i, none⟩) (.inl (.inr (mem_jbl.2 (.inl rfl)))) u
/-- The list has one more, and the field is written. -/
theorem JRun.pushOut (h : JRun w b s lim vs vo ps x w1 vs1 vo1 ps1) {g cap : Nat} {a : Val}
    (hown : w2.ownsRow 0 58 3 (.slice (some ⟨g, 0, none⟩) (x.out.length + 1) cap) (x.out.length + 1) (x.out.flatMap cVal ++ cVal a))
    (hg : w1.grownBy w2 vo1.ownBlock) (hat : vo1.ownBlock = some g ∨ w1.heap.size ≤ g) :
    JRun w b s lim vs vo ps { x with out := x.out ++ [a] } (w2.setCell ⟨b, 7, none⟩ (.slice (some ⟨g, 0, none⟩) (x.out.length + 1) cap)) vs1 (.slice (some ⟨g, 0, none⟩) (x.out.length + 1) cap) ps1 := by
  have hf : Fr (fun k => vo1.ownBlock = some k) w1 w2 := (Fr.refl _ w1).grown hg (fun k e => .inl e)
  have hF : ∀ k, vo1.ownBlock = some k → some k ∈ jbl vo1 vs1 ps1 := fun k e => mem_jbl.2 (.inl e)
  have hn0 : ∀ k, (Value.slice (some ⟨g, 0, none⟩) (x.out.length + 1) cap).ownBlock = some k → vo1.ownBlock = some k ∨ w1.heap.size ≤ k := fun k e => by
    simp only [Value.ownBlock, Option.some.injEq] at e
    subst e
    exact hat
  have hn : ∀ k, some k ∈ jbl (.slice (some ⟨g, 0, none⟩) (x.out.length + 1) cap) vs1 ps1 → some k ∈ jbl vo1 vs1 ps1 ∨ w1.heap.size ≤ k := fun k e => by
    rcases mem_jbl.1 e with y | y
    · exact (hn0 k y).imp (fun z => mem_jbl.2 (.inl z)) id
    · exact .inl (mem_jbl.2 (.inr y))
  exact h.trans ⟨h.rep.storeOut hf hF (h.rep.parts.putOut hf (fun _ e => e) (owns_append hown) hn0) hn rfl, (Fr.foot hf hF).setCell (p := ⟨b, 7, none⟩) (.inl (.inl rfl)) _, Fresh.foot hn⟩
/-- One more frame, and the field is written. -/
theorem JRun.pushFrame (h : JRun w b s lim vs vo ps x w1 vs1 vo1 ps1) {g cap no : Nat}
    (hown : w2.ownsRow 0 77 2 (.slice (some ⟨g, 0, none⟩) (ps1.length + 1) cap) (ps1.length + 1) (ps1.reverse.flatMap cJf ++ cJf (⟨no, []⟩, .slice none 0 0)))
    (hg : w1.grownBy w2 vs1.ownBlock) (hat : vs1.ownBlock = some g ∨ w1.heap.size ≤ g) :
    JRun w b s lim vs vo ps { x with stack := ⟨no, []⟩ :: x.stack } (w2.setCell ⟨b, 6, none⟩ (.slice (some ⟨g, 0, none⟩) (ps1.length + 1) cap)) (.slice (some ⟨g, 0, none⟩) (ps1.length + 1) cap) vo1 ((⟨no, []⟩, .slice none 0 0) :: ps1) := by
  have hf : Fr (fun k => vs1.ownBlock = some k) w1 w2 := (Fr.refl _ w1).grown hg (fun k e => .inl e)
  have hF : ∀ k, vs1.ownBlock = some k → some k ∈ jbl vo1 vs1 ps1 := fun k e => mem_jbl.2 (.inr (.inl e))
  have hn0 : ∀ k, (Value.slice (some ⟨g, 0, none⟩) (ps1.length + 1) cap).ownBlock = some k → vs1.ownBlock = some k ∨ w1.heap.size ≤ k := fun k e => by
    simp only [Value.ownBlock, Option.some.injEq] at e
    subst e
    exact hat
  have hn : ∀ k, some k ∈ jbl vo1 (.slice (some ⟨g, 0, none⟩) (ps1.length + 1) cap) ((⟨no, []⟩, .slice none 0 0) :: ps1) → some k ∈ jbl vo1 vs1 ps1 ∨ w1.heap.size ≤ k := fun k e => by
    rcases mem_jbl.1 e with y | y | y
    · exact .inl (mem_jbl.2 (.inl y))
    · exact (hn0 k y).imp (fun z => mem_jbl.2 (.inr (.inl z))) id
    · obtain ⟨p, hp, hk⟩ := mem_nmB.1 y
      rcases List.mem_cons.1 hp with rfl | hp
      · simp [Value.ownBlock] at hk
      · exact .inl (mem_jbl.2 (.inr (.inr (mem_nmB.2 ⟨p, hp, hk⟩))))
  have hs : Owns w2 77 2 cJf (.slice (some ⟨g, 0, none⟩) (ps1.length + 1) cap) (((⟨no, []⟩, .slice none 0 0) : D6.Fm × Value) :: ps1).reverse := by
    unfold Owns
    rw [List.reverse_cons, List.length_append, List.length_reverse, List.flatMap_append]
    simpa using hown
  exact h.trans ⟨h.rep.storeStack hf hF (h.rep.parts.push hf (fun _ e => e) rfl hs hn0) hn rfl, (Fr.foot hf hF).setCell (p := ⟨b, 6, none⟩) (.inl (.inl rfl)) _, Fresh.foot hn⟩
end
end Go.Proofs.YtahojodgmjmpnaaDoor

/-! The walks over the program's reader of package json: one, over, end. -/
namespace Go.Proofs.YtahojodgmjmpnaaDoor
open Go.RowKit Go.Px

theorem jone_full (b : Nat) (s : Bytes) (lim : Lim) (x : D6.Dx) (v : Val) (w : World) (vs vo : Value) (ps : List (D6.Fm × Value)) (h : JRep w b s lim x vs vo ps) (hi : (x.out.length : Int) = lim.i) :
    Calls Tryd.prog 45 #[.pointer (some ⟨b, 0, none⟩), valV v] w fun r w' => r = jpanics ((x.at_ : Nat), 10) ∧ Same w w' := by
  obtain ⟨_, _, c2, _, c5, _, c7⟩ := h.jr.cells
  obtain ⟨oa, oc, hov, _⟩ := h.parts.out.len
  have hb : b < w.heap.size := h.lt
  rw [hov] at c7
  rw [← hi] at c2
  obtain ⟨L, hL⟩ : ∃ L, L = x.out.length := ⟨_, rfl⟩
  rw [← hL] at c7 c2
  obtain ⟨a, ha⟩ : ∃ a, a = x.at_ := ⟨_, rfl⟩
  rw [← ha] at c5 ⊢
  clear h hov hi hL ha
  unfold valV
  go_enter Tryd.func45, Tryd.ntmps45
  go_wp2_with fail
  go_quiet (fail)
  go_wp2_with fail
  refine (jwrong b _ _ _).mono ?_
  rintro r w2 ⟨rfl, rfl⟩
  unfold jpanics
  go_wp2
  exact ⟨rfl, rfl, ((Fr.refl _ w).alloc _).drewN _⟩
set_option maxRecDepth 100000 in
set_option maxHeartbeats 4000000 in
theorem jone_nil (b : Nat) (s : Bytes) (lim : Lim) (x : D6.Dx) (v : Val) (w : World) (vs vo : Value) (ps : List (D6.Fm × Value)) (h : JRep w b s lim x vs vo ps) (hol : x.out.length ≤ 4096) (hi : ¬ (x.out.length : Int) = lim.i) (hst : x.stack = []) :
    Calls Tryd.prog 45 #[.pointer (some ⟨b, 0, none⟩), valV v] w fun r w' => r = .returned (.tuple #[]) ∧ ∃ vo', JRun w b s lim vs vo ps { x with out := x.out ++ [v] } w' vs vo' ps := by
  obtain ⟨_, _, c2, _, _, c6, c7⟩ := h.jr.cells
  obtain ⟨oa, oc, hov, _⟩ := h.parts.out.len
  have hb : b < w.heap.size := h.lt
  rw [hov] at c7
  obtain ⟨sa, sc, hsv⟩ := h.stackLen
  have HSV := Px.hid (show vs = .slice sa 0 sc by rw [hsv, hst]; rfl)
  have HX := Px.hid h
  have hd : ((x.out.length : Int) == lim.i) = false := by simpa using hi
  clear h hov hi hst hsv c6
  unfold valV
  go_enter Tryd.func45, Tryd.ntmps45
  go_wp2_with fail
  go_quiet (fail)
  have HB := Px.hid (((JRun.refl HX.out).alloc (.cells #[.int .i64 v.kind, .int .i64 v.kids, S v.text] 58 (0, 0))).drewN nq)
  have hv0 : ((w.alloc (.cells #[.int .i64 v.kind, .int .i64 v.kids, S v.text] 58 (0, 0))).drewN nq).heap[w.heap.size]? = some (.cells #[.int .i64 v.kind, .int .i64 v.kids, S v.text] 58 (0, 0)) := heap_alloc_new w _
  obtain ⟨WB, hWB⟩ : ∃ WB, WB = (w.alloc (.cells #[.int .i64 v.kind, .int .i64 v.kids, S v.text] 58 (0, 0))).drewN nq := ⟨_, rfl⟩
  rw [← hWB] at HB hv0 ⊢
  have v0 : WB.cell? ⟨w.heap.size, 0, none⟩ = some (.int .i64 v.kind) := cellOf hv0 0 rfl
  have v1 : WB.cell? ⟨w.heap.size, 1, none⟩ = some (.int .i64 v.kids) := cellOf hv0 1 rfl
  have v2 : WB.cell? ⟨w.heap.size, 2, none⟩ = some (S v.text) := cellOf hv0 2 rfl
  clear hWB hv0 c7 c2
  have c6 : WB.cell? ⟨b, 6, none⟩ = some (.slice sa 0 sc) := by rw [← HSV.out]; exact HB.out.rep.jr.cells.2.2.2.2.2.1
  obtain ⟨i0, hi0, hz0, hz1, hz2⟩ := info_parts Tryd.infoVal
  have HOW := Px.hid (show WB.ownsRow 0 58 3 vo x.out.length (x.out.flatMap cVal) from HB.out.rep.parts.out)
  have f5 := HB.out.rep.jr.free 7
  have hbl : b < WB.heap.size := HB.out.rep.lt
  have c5 : WB.cell? ⟨b, 7, none⟩ = some vo := HB.out.rep.jr.cells.2.2.2.2.2.2
  have HOB := Px.hid (show vo.ownBlock ≠ some b from fun e => HB.out.rep.nb (mem_jbl.2 (.inl e)))
  go_upto_region 6 with fail
  go_region_law
    ((refine step_append_lies _ (by rfl) _ _ _ (by rfl) 0 58 i0 _ 3 32 Tryd.underlying25 hi0 hz0 hz1 hz2 rfl (by omega) vo x.out.length (x.out.flatMap cVal) (by rfl) ((HOW.out.alloc _).drew)
          ⟨WB.heap.size, 0, none⟩ 1 1 (cVal v) (by rfl) (by rfl) (World.news_of_block (cs := #[.int .i64 v.kind, .int .i64 v.kids, S v.text]) (t := 58) (fr := (0, 0)) (heap_alloc_new WB _)) (by simp [cVal, Value.oneCell'])
          (by omega) (by unfold maxLen; omega) (by omega) (by simp) (WB.heap.size + 1) (by simp) ?_; intro gg cap w1 hown1 hgrow hat hlt; have k5 := grown_cell hgrow c5 HOB.out; have e5 := grown_free hgrow c5 f5 HOB.out))
  all_goals
    have HD := Px.hid (HB.out.pushOut hown1 (grown_alloc hgrow) (hat.imp id (fun e => by omega)))
    clear hown1 hgrow hat hlt
    go_wp2
    go_end0
    exact ⟨rfl, _, HD.out⟩
set_option maxRecDepth 100000 in
set_option maxHeartbeats 4000000 in
theorem jone_cons (b : Nat) (s : Bytes) (lim : Lim) (x : D6.Dx) (v : Val) (w : World) (vs vo : Value) (ps : List (D6.Fm × Value)) (h : JRep w b s lim x vs vo ps) (hol : x.out.length ≤ 4096) (hi : ¬ (x.out.length : Int) = lim.i) (f : D6.Fm) (rest : List D6.Fm) (hst : x.stack = f :: rest) (hsl : x.stack.length ≤ 32) (hx : f.no < x.out.length) (hkd : ∀ a ∈ x.out, 0 ≤ a.kids ∧ a.kids ≤ 4096) :
    Calls Tryd.prog 45 #[.pointer (some ⟨b, 0, none⟩), valV v] w fun r w' => r = .returned (.tuple #[]) ∧ ∃ vo', JRun w b s lim vs vo ps { x with out := R6.bump x.out f.no 1 ++ [v] } w' vs vo' ps := by
  obtain ⟨_, _, c2, _, _, _, c7⟩ := h.jr.cells
  obtain ⟨oa, oc, hov, _⟩ := h.parts.out.len
  have hb : b < w.heap.size := h.lt
  rw [hov] at c7
  obtain ⟨vn, ps2, hps, hm, g, cap', hsv, h1, h2, k0, _, kf⟩ := h.top hst
  obtain ⟨y, hy⟩ : ∃ y, x.out[f.no]? = some y := ⟨_, List.getElem?_eq_getElem hx⟩
  obtain ⟨go, co, hvo, o1, o2, _, q1, _, qf⟩ := h.val hy
  have hyk := hkd y (List.mem_of_getElem? hy)
  have hpl : ps2.length ≤ 32 := by have := congrArg List.length hm; rw [List.length_map] at this; rw [hst] at hsl; simp at hsl; omega
  have n0 : (0 : Int) < (ps2.length : Int) + 1 := by omega
  have hwk : IntKind.i64.wrap (y.kids + 1) = y.kids + 1 := IntWalk.i64_in _ ⟨by omega, by omega⟩
  have HBU := Px.hid (show R6.bump x.out f.no 1 = x.out.set f.no { y with kids := y.kids + 1 } by unfold R6.bump; rw [modify_set x.out f.no y _ hy])
  have HX := Px.hid h
  have hd : ((x.out.length : Int) == lim.i) = false := by simpa using hi
  have HV := Px.hid (And.intro hsv (And.intro hvo hy))
  have HK := Px.hid (And.intro k0 (And.intro q1 (And.intro kf qf)))
  unfold maxLen at h2 o2
  obtain ⟨L, hL⟩ : ∃ L, L = x.out.length := ⟨_, rfl⟩
  rw [← hL] at c7 hd hx hol o1
  have HL := Px.hid hL
  clear h hov hi hst hsv hvo hy hps hm hkd hyk k0 kf q1 qf hsl hL
  unfold valV
  go_enter Tryd.func45, Tryd.ntmps45
  go_wp2_with fail
  go_quiet (fail)
  have HA := Px.hid (((JRun.refl HX.out).alloc (.cells #[.int .i64 v.kind, .int .i64 v.kids, S v.text] 58 (0, 0))).drewN nq)
  have hv0 : ((w.alloc (.cells #[.int .i64 v.kind, .int .i64 v.kids, S v.text] 58 (0, 0))).drewN nq).heap[w.heap.size]? = some (.cells #[.int .i64 v.kind, .int .i64 v.kids, S v.text] 58 (0, 0)) := heap_alloc_new w _
  obtain ⟨WA, hWA⟩ : ∃ WA, WA = (w.alloc (.cells #[.int .i64 v.kind, .int .i64 v.kids, S v.text] 58 (0, 0))).drewN nq := ⟨_, rfl⟩
  rw [← hWA] at HA hv0 ⊢
  clear c7 c2
  have VLT := Px.hid (show go ≠ w.heap.size from fun e => by have := HX.out.parts.lt (k := go) (mem_jbl.2 (.inl (by rw [HV.out.2.1]; rfl))); omega)
  have HV0 := Px.hid hv0
  have c6 : WA.cell? ⟨b, 6, none⟩ = some (.slice (some ⟨g, 0, none⟩) (ps2.length + 1) cap') := by rw [← HV.out.1]; exact HA.out.rep.jr.cells.2.2.2.2.2.1
  have c5 : WA.cell? ⟨b, 7, none⟩ = some (.slice (some ⟨go, 0, none⟩) L co) := by rw [HL.out, ← HV.out.2.1]; exact HA.out.rep.jr.cells.2.2.2.2.2.2
  have k0 : WA.cell? ⟨g, ps2.length * 2, none⟩ = some (.int .i64 (f.no : Nat)) := by rw [hWA]; exact cell_alloc (w := w) HK.out.1
  have q1 : WA.cell? ⟨go, f.no * 3 + 1, none⟩ = some (.int .i64 y.kids) := by rw [hWA]; exact cell_alloc (w := w) HK.out.2.1
  have qf : WA.frozen? ⟨go, f.no * 3 + 1, none⟩ = false := by rw [hWA]; exact (frozen_alloc_some (w := w) (by rw [HK.out.2.1]; rfl)).trans (HK.out.2.2.2 _)
  clear hv0 hWA
  go_upto_region 5 with fail
  go_region
  have hS : JRun w b s lim vs vo ps { x with out := x.out.set f.no { y with kids := y.kids + 1 } } (WA.setCell ⟨go, f.no * 3 + 1, none⟩ (.int .i64 (y.kids + 1))) vs vo ps := by
    have hA := HA.out
    have e := HV.out.2.1
    have hy := HV.out.2.2
    clear HV HX HK HA
    subst e
    exact hA.setVal hy 1 (by decide) _ rfl
  have HB := Px.hid hS.drew
  have hv0 : (WA.setCell ⟨go, f.no * 3 + 1, none⟩ (.int .i64 (y.kids + 1))).drew.heap[w.heap.size]? = some (.cells #[.int .i64 v.kind, .int .i64 v.kids, S v.text] 58 (0, 0)) := (heap_setCell_other WA ⟨go, f.no * 3 + 1, none⟩ w.heap.size _ (fun e => VLT.out e.symm)).trans HV0.out
  obtain ⟨WB, hWB⟩ : ∃ WB, WB = (WA.setCell ⟨go, f.no * 3 + 1, none⟩ (.int .i64 (y.kids + 1))).drew := ⟨_, rfl⟩
  rw [← hWB] at HB hv0 ⊢
  have v0 : WB.cell? ⟨w.heap.size, 0, none⟩ = some (.int .i64 v.kind) := cellOf hv0 0 rfl
  have v1 : WB.cell? ⟨w.heap.size, 1, none⟩ = some (.int .i64 v.kids) := cellOf hv0 1 rfl
  have v2 : WB.cell? ⟨w.heap.size, 2, none⟩ = some (S v.text) := cellOf hv0 2 rfl
  obtain ⟨l1, hl1⟩ : ∃ l1, l1 = x.out.set f.no { y with kids := y.kids + 1 } := ⟨_, rfl⟩
  have HR := Px.hid (show R6.bump x.out f.no 1 = l1 by rw [HBU.out, hl1])
  rw [← hl1] at HB
  have hol1 : l1.length ≤ 4096 := by rw [hl1, List.length_set, ← HL.out]; exact hol
  clear hWB hv0 hl1 hS HV0 VLT HK HV HA c5 c6 k0 q1 qf h1 h2 o1 o2 hx hol hwk n0 hpl hd HX HL HBU
  obtain ⟨i0, hi0, hz0, hz1, hz2⟩ := info_parts Tryd.infoVal
  have HOW := Px.hid (show WB.ownsRow 0 58 3 vo l1.length (l1.flatMap cVal) from HB.out.rep.parts.out)
  have f5 := HB.out.rep.jr.free 7
  have hbl : b < WB.heap.size := HB.out.rep.lt
  have c5 : WB.cell? ⟨b, 7, none⟩ = some vo := HB.out.rep.jr.cells.2.2.2.2.2.2
  have HOB := Px.hid (show vo.ownBlock ≠ some b from fun e => HB.out.rep.nb (mem_jbl.2 (.inl e)))
  go_upto_region 6 with fail
  go_region_law
    ((refine step_append_lies _ (by rfl) _ _ _ (by rfl) 0 58 i0 _ 3 32 Tryd.underlying25 hi0 hz0 hz1 hz2 rfl (by omega) vo l1.length (l1.flatMap cVal) (by rfl) ((HOW.out.alloc _).drew)
          ⟨WB.heap.size, 0, none⟩ 1 1 (cVal v) (by rfl) (by rfl) (World.news_of_block (cs := #[.int .i64 v.kind, .int .i64 v.kids, S v.text]) (t := 58) (fr := (0, 0)) (heap_alloc_new WB _)) (by simp [cVal, Value.oneCell'])
          (by omega) (by unfold maxLen; omega) (by omega) (by simp) (WB.heap.size + 1) (by simp) ?_; intro gg cap w1 hown1 hgrow hat hlt; have k5 := grown_cell hgrow c5 HOB.out; have e5 := grown_free hgrow c5 f5 HOB.out))
  all_goals
    have HD := Px.hid (HB.out.pushOut hown1 (grown_alloc hgrow) (hat.imp id (fun e => by omega)))
    clear hown1 hgrow hat hlt
    go_wp2
    go_end0
    rw [HR.out]
    exact ⟨rfl, _, HD.out⟩
/-- What holds of the reader's state between two steps. -/
structure JOk (s : Bytes) (lim : Lim) (x : D6.Dx) : Prop where
  ctx : Cj s lim
  al : x.at_ ≤ min s.length lim.b.toNat
  ol : (x.out.length : Int) ≤ lim.i
  sl : (x.stack.length : Int) ≤ lim.d
  no : ∀ f ∈ x.stack, f.no < x.out.length
  kd : ∀ a ∈ x.out, 0 ≤ a.kids ∧ a.kids ≤ (x.out.length : Int)
  nm : ∀ f ∈ x.stack, f.names.length ≤ x.out.length
theorem jone_yes (b : Nat) (s : Bytes) (lim : Lim) (x : D6.Dx) (v : Val) (w : World) (vs vo : Value) (ps : List (D6.Fm × Value)) (h : JRep w b s lim x vs vo ps) (hok : JOk s lim x) (hi : ¬ (x.out.length : Int) = lim.i) :
    Calls Tryd.prog 45 #[.pointer (some ⟨b, 0, none⟩), valV v] w fun r w' => r = .returned (.tuple #[]) ∧ ∃ vo', JRun w b s lim vs vo ps { x with out := D6.bumpTop x.out x.stack ++ [v] } w' vs vo' ps := by
  have hmay := J6.may_of hok.ctx.may
  have hol := hok.ol
  have hsl := hok.sl
  obtain ⟨st, hst⟩ : ∃ st, x.stack = st := ⟨_, rfl⟩
  rcases st with _ | ⟨f, rest⟩
  · rw [show D6.bumpTop x.out x.stack = x.out by rw [hst]; rfl]
    exact jone_nil b s lim x v w vs vo ps h (by omega) hi hst
  · rw [show D6.bumpTop x.out x.stack = R6.bump x.out f.no 1 by rw [hst]; rfl]
    exact jone_cons b s lim x v w vs vo ps h (by omega) hi f rest hst (by omega) (hok.no f (by rw [hst]; exact List.mem_cons_self ..)) (fun a ha => by have := hok.kd a ha; omega)
theorem jover_any (b : Nat) (s : Bytes) (lim : Lim) (x : D6.Dx) (w : World) (vs vo : Value) (ps : List (D6.Fm × Value)) (h : JRep w b s lim x vs vo ps) :
    Calls Tryd.prog 44 #[.pointer (some ⟨b, 0, none⟩)] w fun r w' => r = .returned (.int .i64 (D6.over x : Nat)) ∧ w = w' := by
  obtain ⟨_, _, _, _, _, c6, _⟩ := h.jr.cells
  obtain ⟨sa, sc, hsv⟩ := h.stackLen
  rw [hsv] at c6
  unfold D6.over
  rcases hst : x.stack with _ | ⟨f, rest⟩
  · rw [hst] at c6
    clear h hsv hst
    go_enter Tryd.func44, Tryd.ntmps44
    go_wp2
    go_ret
    exact ⟨rfl, rfl⟩
  · rw [hst, List.length_cons] at c6
    have hn : ((rest.length : Int) + 1 == 0) = false := by simp; omega
    clear h hsv hst
    go_enter Tryd.func44, Tryd.ntmps44
    go_wp2
    go_ret
    exact ⟨rfl, rfl⟩
set_option maxRecDepth 100000 in
theorem jend_any (b : Nat) (s : Bytes) (lim : Lim) (x : D6.Dx) (w : World) (vs vo : Value) (ps : List (D6.Fm × Value)) (h : JRep w b s lim x vs vo ps) (hok : JOk s lim x) (f : D6.Fm) (rest : List D6.Fm) (hst : x.stack = f :: rest) :
    Calls Tryd.prog 31 #[.pointer (some ⟨b, 0, none⟩)] w fun r w' => r = .returned (.int .i64 ((D6.end_ x).1 : Nat)) ∧ ∃ vs' ps', JRun w b s lim vs vo ps (D6.end_ x).2 w' vs' vo ps' := by
  have hlen := hok.ctx.len
  have has := hok.al
  have hwa := wrap1 x.at_ (by omega)
  obtain ⟨_, _, _, _, c5, c6, _⟩ := h.jr.cells
  have f5 := h.jr.free 5
  have f6 := h.jr.free 6
  obtain ⟨vn, ps2, hps, hm, g, cap, hsv, h1, h2, _, _, _⟩ := h.top hst
  subst hsv
  subst hps
  have hj := (JRun.refl h).it (h.jr.move (x.at_ + 1)) (It.set _)
  have hE : D6.end_ x = (D6.over { at_ := x.at_ + 1, stack := rest, out := x.out }, { at_ := x.at_ + 1, stack := rest, out := x.out }) := by unfold D6.end_ D6.over; rw [hst]; rfl
  rw [hE]
  have HO := Px.hid (fun (w : World) (vs vo : Value) (ps : List (D6.Fm × Value)) (h : JRep w b s lim { at_ := x.at_ + 1, stack := rest, out := x.out } vs vo ps) => jover_any b s lim _ w vs vo ps h)
  obtain ⟨n, hn⟩ : ∃ n, D6.over { at_ := x.at_ + 1, stack := rest, out := x.out } = n := ⟨_, rfl⟩
  simp only [hn] at HO ⊢
  have n0 : (0 : Int) ≤ (ps2.length : Int) := by omega
  have hws : IntKind.i64.wrap ((ps2.length : Int)) = (ps2.length : Int) := by unfold maxLen at h2; exact IntWalk.i64_in _ ⟨by omega, by omega⟩
  unfold maxLen at h2
  have HM := Px.hid hm
  have HJ := Px.hid hj
  clear h hE hst hj hm hok hn
  go_enter Tryd.func31, Tryd.ntmps31
  go_wp2
  go_region
  have hp := HJ.out.drew
  have hpop := hp.rep.pop
  have hrun : JRun w b s lim (.slice (some ⟨g, 0, none⟩) (ps2.length + 1) cap) vo ((f, vn) :: ps2) { at_ := x.at_ + 1, stack := rest, out := x.out } ((w.setCell ⟨b, 5, none⟩ (.int .i64 ((x.at_ : Int) + 1))).drew.setCell ⟨b, 6, none⟩ (.slice (some ⟨g, 0, none⟩) ps2.length cap)) (.slice (some ⟨g, 0, none⟩) ps2.length cap) vo ps2 := by
    refine hp.trans ⟨?_, (Fr.refl _ _).setCell (p := ⟨b, 6, none⟩) (.inl (.inl rfl)) _, Fresh.foot (fun k e => .inl (jbl_pop e))⟩
    rw [HM.out] at hpop
    exact hpop
  have HD := Px.hid hrun
  clear hp hpop hrun c5 c6 f5 f6 HJ
  go_wp2_with fail
  refine (HO.out _ _ _ _ HD.out.rep).mono ?_
  rintro r w2 ⟨rfl, rfl⟩
  go_wp2
  go_ret
  exact ⟨rfl, _, _, HD.out⟩
end Go.Proofs.YtahojodgmjmpnaaDoor
