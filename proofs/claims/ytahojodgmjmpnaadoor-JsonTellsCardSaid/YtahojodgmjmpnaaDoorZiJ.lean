/-
  The walk over the reference's text, layer 16.
-/
import Derived.Test.YtahojodgmjmpnaaDoorZhJ
import Derived.Lib.AppendStr
namespace Go.Proofs.YtahojodgmjmpnaaDoor
open Go.RowKit Go.Px

theorem wrap1 (p : Nat) (hp : p ≤ 140737488355327) : IntKind.i64.wrap ((p : Int) + 1) = (p : Int) + 1 := IntWalk.i64_in _ ⟨by omega, by omega⟩
theorem textN_succ (s : Bytes) (lim : Lim) (m : Nat) (x : R6.St) (p : Nat) (out : Bytes) : R6.textN s lim (m + 1) x p out = match R6.want s lim x p with
    | (false, y) => (none, y)
    | (true, y) =>
      if R6.at_ s p == 34 then (some (out, p + 1), y)
      else if R6.at_ s p < 32 then (none, R6.fault y p 9)
      else if R6.at_ s p == 92 then (match R6.escape s lim y (p + 1) with | (none, z) => (none, z) | (some (b, q), z) => R6.textN s lim m z q (out ++ b))
      else if 128 ≤ R6.at_ s p then (match R6.sign s lim y p with | (none, z) => (none, z) | (some q, z) => R6.textN s lim m z q (out ++ (s.take q).drop p))
      else R6.textN s lim m y (p + 1) (out ++ [s.getD p 0]) := rfl
theorem strCells_S (l : Bytes) : Go.Lib.strCells ⟨l.toArray⟩ = l.flatMap cByte := by
  rw [flat_map]
  simp [Go.Lib.strCells]
/-- A row of bytes that is newer than a world, as one of the call's own. -/
theorem owns0 {w : World} {base : Nat} {v : Value} {l : Bytes} (h : w.ownsRow base 5 1 v l.length (l.flatMap cByte)) : Owns w 5 1 cByte v l := by
  refine ⟨h.1, ?_⟩
  rcases h.2 with x | ⟨g, cap, cur, h1, _, h3⟩
  · exact .inl x
  · exact .inr ⟨g, cap, cur, h1, Nat.zero_le _, h3⟩
theorem row_keep {w w' : World} {base : Nat} {v : Value} {n : Nat} {xs : List Value} (h : w.ownsRow base 5 1 v n xs) (hk : ∀ k, v.ownBlock = some k → w'.heap[k]? = w.heap[k]?) : w'.ownsRow base 5 1 v n xs := by
  refine ⟨h.1, ?_⟩
  rcases h.2 with x | ⟨g, cap, cur, rfl, h2, h3, h4⟩
  · exact .inl x
  · exact .inr ⟨g, cap, cur, rfl, h2, (hk g rfl).trans h3, h4⟩
/-- The reader and the text that is read, side by side. -/
structure TextAt (w0 w : World) (b : Nat) (s : Bytes) (lim : Lim) (y : R6.St) (vo v : Value) (out : Bytes) : Prop where
  x : X6 w b s lim y vo
  fr : Fr (It b) w0 w
  row : w.ownsRow w0.heap.size 5 1 v out.length (out.flatMap cByte)
  nb : b < w0.heap.size
  vb : ∀ k, vo.ownBlock = some k → k < w0.heap.size
section
variable {w0 w w' : World} {b : Nat} {s : Bytes} {lim : Lim} {y z : R6.St} {vo v v' : Value} {out out' : Bytes}
theorem TextAt.step (h : TextAt w0 w b s lim y vo v out) (hx : X6 w' b s lim z vo) (hf : Fr (It b) w w') : TextAt w0 w' b s lim z vo v out :=
  ⟨hx, It.trans h.fr hf, row_keep h.row fun k hk => hf.block k (World.ownsRow.lt h.row k hk).2 (fun e => by
    have h1 := (World.ownsRow.lt h.row k hk).1
    have h2 := h.nb
    have e : k = b := e
    omega), h.nb, h.vb⟩
theorem TextAt.grow (h : TextAt w0 w b s lim y vo v out) (hr : w'.ownsRow w0.heap.size 5 1 v' out'.length (out'.flatMap cByte)) (hg : w.grownBy w' v.ownBlock) : TextAt w0 w' b s lim y vo v' out' := by
  have hne : ∀ k, k < w0.heap.size → v.ownBlock ≠ some k := fun k hk e => by have := (World.ownsRow.lt h.row k e).1; omega
  have hb : w'.heap[b]? = w.heap[b]? := hg.block b h.x.lt (fun e => hne b h.nb e.symm)
  refine ⟨⟨h.x.rd.keep hb, h.x.out.keep fun k hk => hg.block k (h.x.out.lt hk) (fun e => hne k (h.vb k hk) e.symm), h.x.ob⟩, ?_, hr, h.nb, h.vb⟩
  have hf : Fr (fun k => v.ownBlock = some k) w w' := (Fr.refl _ w).grown hg (fun k e => .inl e)
  exact h.fr.trans hf (fun k hk e => (hne k hk e).elim)
end
theorem row_len {w : World} {base : Nat} {v : Value} {l : Bytes} (h : w.ownsRow base 5 1 v l.length (l.flatMap cByte)) : ∃ a cap, v = .slice a l.length cap := by
  obtain ⟨a, cap, hv, _⟩ := (owns0 h).len
  exact ⟨a, cap, hv⟩

theorem sign_lb (s : Bytes) (lim : Lim) (p : Nat) : ∀ (m : Nat) (x : R6.St) (q r : Nat), (R6.signN s lim p m x q).1 = some r → (r : Int) ≤ lim.b
  | 0, _, _, _, h => by cases h
  | m + 1, x, q, r, h => by
    rw [signN_succ] at h
    obtain ⟨⟨c, z⟩, hres⟩ : ∃ r, R6.want s lim x q = r := ⟨_, rfl⟩
    rw [hres] at h
    cases c with
    | false => cases h
    | true =>
      have hb := want_lb hres
      simp only at h
      split at h
      · have e : q + 1 = r := Option.some.inj h
        omega
      · split at h
        · cases h
        · exact sign_lb s lim p m z (q + 1) r h
set_option maxRecDepth 100000 in
set_option maxHeartbeats 8000000 in
theorem text6 (b p : Nat) (s : Bytes) (lim : Lim) (x : R6.St) (vo : Value) (hc : Ctx s lim) (hp : p < s.length) (w : World) (h : X6 w b s lim x vo) :
    Calls Tryd.prog 53 #[.pointer (some ⟨b, 0, none⟩), .int .i64 (p : Nat)] w (Esc6 w b s lim vo 4000000 (R6.text s lim x p)) := by
  obtain ⟨R, hR⟩ : ∃ R, R = R6.text s lim x p := ⟨_, rfl⟩
  rw [← hR]
  have hR2 : R6.textN s lim (s.length + 1 - p) x (p + 1) [] = R := hR.symm
  have hT0 : TextAt w w b s lim x vo (.slice none 0 0) [] := ⟨h, Fr.refl _ _, World.ownsRow_nil _ _ _ _, h.lt, fun k hk => h.out.lt hk⟩
  have hlen := hc.len
  have H := Px.hid (And.intro hT0 (And.intro hp (And.intro hc hR2)))
  have hw1 := wrap1 p (by omega)
  clear h hp hc hR hR2 hT0 hlen
  go_enter Tryd.func53, Tryd.ntmps53
  go_wp2
  go_loopg [1, 7] (s.length + 1 - p) (fun gk i v wr => ∃ k y out, i = .int .i64 (k : Nat) ∧ k ≤ s.length ∧ s.length + 1 - k ≤ gk ∧ out.length ≤ 4 * k ∧ out.length ≤ 4000000 ∧ TextAt w wr b s lim y vo v out ∧ R6.textN s lim gk y k out = R)
  case atStart => exact ⟨p + 1, x, [], by go_num, H.out.2.1, by omega, Nat.zero_le _, Nat.zero_le _, H.out.1, H.out.2.2.2⟩
  case round =>
    obtain ⟨k, y, out, rfl, hk, hgk, hol, hoL, hT, hps⟩ := hrel
    obtain ⟨g', rfl⟩ : ∃ g', gk = g' + 1 := ⟨gk - 1, by omega⟩
    rw [textN_succ] at hps
    have hlen := H.out.2.2.1.len
    have HC := Px.hid H.out.2.2.1
    have hk2 : k ≤ 140737488355327 := by omega
    have hwk := wrap1 k hk2
    have HW := Px.hid (want6 b k s lim y vo HC.out (by omega) wr hT.x)
    have hlt := fun z => want_lt (s := s) (lim := lim) (x := y) (p := k) (y := z)
    obtain ⟨⟨q, z⟩, hres⟩ : ∃ r, R6.want s lim y k = r := ⟨_, rfl⟩
    have hlt := hlt z
    have hlb := fun h => want_lb (s := s) (lim := lim) (x := y) (p := k) (y := z) h
    rw [hres] at HW hps hlt hlb
    have HT := Px.hid (And.intro hT (And.intro hgk hol))
    obtain ⟨i0, hi0, hz0, hz1, hz2⟩ := info_parts Tryd.infoU8
    clear hres hT H hgk hw1 hol
    cases q with
    | false =>
      have HP := Px.hid hps
      clear hps hlt hlb hlen
      go_wp2_with fail
      refine HW.out.mono ?_
      rintro e w' ⟨rfl, h1, h2⟩
      have H1 := Px.hid (HT.out.1.step h1 h2)
      clear h1 h2
      go_wp2
      go_ret3
      rw [← HP.out]
      exact ⟨rfl, H1.out.x, H1.out.fr, fun l q hq => by cases hq⟩
    | true =>
      have hkl := hlt rfl
      have HKB := Px.hid (show k ≤ 262144 by have h1 := hlb rfl; have h2 := HC.out.lb; omega)
      clear hlb
      have hix := idx6 s k hkl
      have hby := at_lt s k
      have hgd : s.getD k 0 = UInt8.ofNat (R6.at_ s k) := by unfold R6.at_; simp
      obtain ⟨c, hcc⟩ : ∃ c, c = R6.at_ s k := ⟨_, rfl⟩
      simp only [← hcc] at hix
      rw [← hcc] at hby hgd hps
      dsimp only at hps
      have HLT := Px.hid (And.intro hkl (And.intro hgd hby))
      clear hlt hkl hcc hgd
      by_cases e1 : c = 34
      · rw [if_pos (by simpa using e1)] at hps
        have HP := Px.hid hps
        subst e1
        clear hps hby
        go_wp2_with fail
        refine HW.out.mono ?_
        rintro e w' ⟨rfl, h1, h2⟩
        have c0 := h1.c0
        have ht := HT.out.1.step h1 h2
        have hstr : (convert 62 9 u7).run Tryd.prog w' = .ok (S out) w' := Owns.str (owns0 ht.row) (by kernel_rfl) (by kernel_rfl) (by kernel_rfl)
        have H1 := Px.hid ht
        clear h1 h2 ht
        go_wp2
        go_ret3
        rw [← HP.out]
        exact ⟨rfl, H1.out.x, H1.out.fr, fun l q hq => by cases hq; exact ⟨HLT.out.1, hoL⟩⟩
      rw [if_neg (by simpa using e1)] at hps
      have d1 : ((c : Int) == 34) = false := by simp; omega
      by_cases e2 : c < 32
      · rw [if_pos e2] at hps
        have HP := Px.hid hps
        have d2 : (c : Int) < 32 := by omega
        clear hps hby e1 e2
        go_wp2_with fail
        refine HW.out.mono ?_
        rintro e w' ⟨rfl, h1, h2⟩
        have c0 := h1.c0
        have H1 := Px.hid (HT.out.1.step h1 h2)
        clear h1 h2
        go_wp2_with fail
        refine (fault6 b k 9 s lim z vo _ H1.out.x).mono ?_
        rintro e w2 ⟨rfl, h1, h2⟩
        have H2 := Px.hid (H1.out.step h1 h2)
        clear h1 h2
        go_wp2
        go_ret3
        rw [← HP.out]
        exact ⟨rfl, H2.out.x, H2.out.fr, fun l q hq => by cases hq⟩
      rw [if_neg e2] at hps
      have d2 : decide ((c : Int) < 32) = false := by simp; omega
      by_cases e3 : c = 92
      · rw [if_pos (by simpa using e3)] at hps
        subst e3
        have HES := Px.hid (fun (w : World) (h : X6 w b s lim z vo) => escape6 b (k + 1) s lim z vo HC.out (by have := HLT.out.1; omega) w h)
        have hgt := fun l q => escape_gt s lim z (k + 1) l q
        obtain ⟨⟨r1, u⟩, hres⟩ : ∃ r, R6.escape s lim z (k + 1) = r := ⟨_, rfl⟩
        rw [hres] at hps
        simp only [hres] at HES hgt
        have HP := Px.hid hps
        have HGT := Px.hid hgt
        clear hps hby e1 e2 hres hgt
        cases r1 with
        | none =>
          go_wp2_with fail
          refine HW.out.mono ?_
          rintro e w' ⟨rfl, h1, h2⟩
          have c0 := h1.c0
          have H1 := Px.hid (HT.out.1.step h1 h2)
          clear h1 h2
          go_wp2_with fail
          refine (HES.out _ H1.out.x).mono ?_
          rintro e w2 ⟨rfl, h1, h2, h3⟩
          have H2 := Px.hid (H1.out.step h1 h2)
          clear h1 h2 h3
          unfold escV
          go_wp2
          go_ret3
          rw [← HP.out]
          exact ⟨rfl, H2.out.x, H2.out.fr, fun l q hq => by cases hq⟩
        | some lq =>
          obtain ⟨l, q⟩ := lq
          go_wp2_with fail
          refine HW.out.mono ?_
          rintro e w' ⟨rfl, h1, h2⟩
          have c0 := h1.c0
          have H1 := Px.hid (HT.out.1.step h1 h2)
          clear h1 h2
          go_wp2_with fail
          refine (HES.out _ H1.out.x).mono ?_
          rintro e w2 ⟨rfl, h1, h2, h3⟩
          have H2 := Px.hid (And.intro (H1.out.step h1 h2) (h3 l q rfl))
          have hl4 := (h3 l q rfl).2
          have hsz : (ByteArray.mk l.toArray).size = l.length := size_S l
          clear h1 h2 h3
          unfold escV
          go_wp2_with (at_builtin; go_must (refine Go.Lib.wpList_append_own_string _ rfl _ _ _ _ rfl w.heap.size 5 i0 Tryd.underlying62 Tryd.underlying9 hi0 hz0 hz1 hz2 u7 out.length (out.flatMap cByte) rfl H2.out.1.row ⟨l.toArray⟩ rfl (by rw [hsz]; unfold maxLen; omega) (by rw [hsz]; omega) (H2.out.1.fr.size) ?_))
          intro v' w3 hown hg _
          have ht : TextAt w w3 b s lim u vo v' (out ++ l) := H2.out.1.grow (by rw [List.length_append, List.flatMap_append, ← strCells_S l]; exact hown) hg
          have H3 := Px.hid ht
          clear hown hg ht
          go_wp2
          go_roundg g'
          case measure => omega
          case rel =>
            refine ⟨q, u, out ++ l, by go_num, H2.out.2.1, ?_, ?_, ?_, H3.out, HP.out⟩
            · have h1 := HT.out.2.1; have h2 := HGT.out l q rfl; omega
            · have h1 := HT.out.2.2; have h2 := HGT.out l q rfl; rw [List.length_append]; omega
            · have h1 := HT.out.2.2; have h2 := HKB.out; have h3 := HGT.out l q rfl; rw [List.length_append]; omega
      rw [if_neg (by simpa using e3)] at hps
      have d3 : ((c : Int) == 92) = false := by simp; omega
      by_cases e4 : 128 ≤ c
      · rw [if_pos e4] at hps
        have d4 : (128 : Int) ≤ (c : Int) := by omega
        have HSG := Px.hid (fun (w : World) (h : X6 w b s lim z vo) => rsign6 b k s lim z vo HC.out hk w h)
        have hgt := fun q h => And.intro (sign_gt s lim k (s.length + 1 - k) z k q h) (sign_lb s lim k (s.length + 1 - k) z k q h)
        have hsgn : R6.sign s lim z k = R6.signN s lim k (s.length + 1 - k) z k := rfl
        rw [← hsgn] at hgt
        obtain ⟨⟨r1, u⟩, hres⟩ : ∃ r, R6.sign s lim z k = r := ⟨_, rfl⟩
        rw [hres] at hps
        simp only [hres] at HSG hgt
        have HP := Px.hid hps
        have HGT := Px.hid hgt
        clear hps hby e1 e2 e3 e4 hres hgt hsgn
        cases r1 with
        | none =>
          go_wp2_with fail
          refine HW.out.mono ?_
          rintro e w' ⟨rfl, h1, h2⟩
          have c0 := h1.c0
          have H1 := Px.hid (HT.out.1.step h1 h2)
          clear h1 h2
          go_wp2_with fail
          refine (HSG.out _ H1.out.x).mono ?_
          rintro e w2 ⟨rfl, h1, h2, h3⟩
          have H2 := Px.hid (H1.out.step h1 h2)
          clear h1 h2 h3
          unfold tupV
          go_wp2
          go_ret3
          rw [← HP.out]
          exact ⟨rfl, H2.out.x, H2.out.fr, fun l q hq => by cases hq⟩
        | some q =>
          go_wp2_with fail
          refine HW.out.mono ?_
          rintro e w' ⟨rfl, h1, h2⟩
          have c0 := h1.c0
          have H1 := Px.hid (HT.out.1.step h1 h2)
          clear h1 h2
          go_wp2_with fail
          refine (HSG.out _ H1.out.x).mono ?_
          rintro e w2 ⟨rfl, h1, h2, h3⟩
          have c0' := h1.c0
          have H2 := Px.hid (And.intro (H1.out.step h1 h2) (h3 q rfl))
          have hql := h3 q rfl
          have hkq := (HGT.out q rfl).1
          have hqb : q ≤ 262144 := by have h1 := (HGT.out q rfl).2; have h2 := HC.out.lb; omega
          have hsl := slice_S s k q (by omega) hql
          obtain ⟨l, hl⟩ : ∃ l, l = (s.take q).drop k := ⟨_, rfl⟩
          have hll : l.length = q - k := by rw [hl, List.length_drop, List.length_take, Nat.min_eq_left hql]
          simp only [← hl] at hsl
          have hsz : (ByteArray.mk l.toArray).size = l.length := size_S l
          have HPL := Px.hid (show R6.textN s lim g' u q (out ++ l) = R by rw [hl]; exact HP.out)
          have HLL := Px.hid (And.intro hll (And.intro hkq hqb))
          have hl6 : l.length ≤ 262144 := by omega
          clear h1 h2 h3 hl hll hql hkq hqb
          unfold tupV
          go_wp2_with (at_builtin; go_must (refine Go.Lib.wpList_append_own_string _ rfl _ _ _ _ rfl w.heap.size 5 i0 Tryd.underlying62 Tryd.underlying9 hi0 hz0 hz1 hz2 u7 out.length (out.flatMap cByte) rfl H2.out.1.row ⟨l.toArray⟩ rfl (by rw [hsz]; unfold maxLen; omega) (by rw [hsz]; omega) (H2.out.1.fr.size) ?_))
          intro v' w3 hown hg _
          have ht : TextAt w w3 b s lim u vo v' (out ++ l) := H2.out.1.grow (by rw [List.length_append, List.flatMap_append, ← strCells_S l]; exact hown) hg
          have H3 := Px.hid ht
          clear hown hg ht
          go_wp2
          go_roundg g'
          case measure => omega
          case rel =>
            refine ⟨q, u, out ++ l, by go_num, H2.out.2, ?_, ?_, ?_, H3.out, HPL.out⟩
            · have h1 := HT.out.2.1; have h2 := HLL.out.2.1; omega
            · have h1 := HT.out.2.2; have h2 := HLL.out.2.1; have h3 := HLL.out.1; rw [List.length_append]; omega
            · have h1 := HT.out.2.2; have h2 := HLL.out.2.2; have h3 := HKB.out; rw [List.length_append]; omega
      · rw [if_neg e4] at hps
        have d4 : decide ((128 : Int) ≤ (c : Int)) = false := by simp; omega
        have HP := Px.hid hps
        have hcell : Value.int .u8 (c : Nat) = .int .u8 ((s.getD k 0).toNat : Nat) := by rw [HLT.out.2.1]; exact (byte_cell c HLT.out.2.2).symm
        have HCE := Px.hid hcell
        clear hps hby e1 e2 e3 e4 hcell
        go_wp2_with fail
        refine HW.out.mono ?_
        rintro e w' ⟨rfl, h1, h2⟩
        have c0 := h1.c0
        have H1 := Px.hid (HT.out.1.step h1 h2)
        clear h1 h2
        obtain ⟨va, vc, hv⟩ := row_len H1.out.row
        subst hv
        go_wp2_with (at_builtin; go_must (refine wpList_append_lies _ rfl _ _ _ rfl w.heap.size 5 i0 _ 1 1 Tryd.underlying62 hi0 hz0 hz1 hz2 rfl (by omega) (.slice va out.length vc) out.length (out.flatMap cByte) rfl (row_keep H1.out.row (fun k hk => Below.heap_alloc w' _ k (World.ownsRow.lt H1.out.row k hk).2)) ⟨w'.heap.size, 0, none⟩ 1 1 [.int .u8 (c : Nat)] rfl rfl (World.news_of_block (cs := #[.int .u8 (c : Nat)]) (t := 5) (fr := (0, 0)) (heap_alloc_new w' _)) (by simp [Value.oneCell']) (by omega) (by unfold maxLen; omega) (by omega) (by have := H1.out.fr.size; simp; omega) (w'.heap.size + 1) (by simp) ?_))
        intro gg cap w3 hown hgrow hat hltg
        have ht : TextAt w w3 b s lim z vo (.slice (some ⟨gg, 0, none⟩) (out.length + 1) cap) (out ++ [s.getD k 0]) := H1.out.grow (by
          rw [List.length_append, List.flatMap_append]
          rw [HCE.out] at hown
          exact hown) (grown_alloc1 hgrow)
        have H3 := Px.hid ht
        clear hown hgrow hat hltg ht
        go_wp2
        go_roundg g'
        case measure => omega
        case rel =>
          refine ⟨k + 1, z, out ++ [s.getD k 0], by go_num, HLT.out.1, ?_, ?_, ?_, H3.out, HP.out⟩
          · have h1 := HT.out.2.1; omega
          · have h1 := HT.out.2.2; rw [List.length_append]; simp; omega
          · have h1 := HT.out.2.2; have h2 := HKB.out; rw [List.length_append]; simp; omega
end Go.Proofs.YtahojodgmjmpnaaDoor
