/-
 Several texts in one: The walks over cose.behind and cose.get. The walks over cose's header.get and pairs.
-/
import Derived.Test.YtddiabaagpmkgaaDoorGcA
import Derived.Test.YtddiabaagpmkgaaDoorCC
import Derived.StillTailTactics
/-! The walks over cose.behind and cose.get. -/
namespace Go.Px.E7
theorem cnt_lt {L : List Atom} : ∀ {f left p q : Nat}, cnt L f left p = some q → left < f
 | 0, _, _, _, h => by cases h
 | f + 1, left, p, q, h => by
  unfold cnt at h
  split at h
  ·omega
  ·split at h
   ·cases h
   ·have := cnt_lt h
    omega
theorem cnt_end {L : List Atom} {f p q : Nat} (h : cnt L f 0 p = some q) : p = q := by
 cases f with
 | zero => cases h
 | succ f => unfold cnt at h; rw [if_pos rfl] at h; exact Option.some.inj h
theorem cnt_more {L : List Atom} {f left p q : Nat} (h : cnt L f left p = some q) (h0 : 0 < left) : ∃ f', f = f' + 1 ∧ ∃ hp : p < L.length, cnt L f' (left + adds L[p] - 1) (p + 1) = some q := by
 cases f with
 | zero => cases h
 | succ f =>
  unfold cnt at h
  rw [if_neg (by omega)] at h
  split at h
  ·cases h
  ·rename_i a ha
   obtain ⟨hp, e⟩ := List.getElem?_eq_some_iff.1 ha
   rw [← e] at h
   exact ⟨f, rfl, hp, h⟩
theorem adds_four {a : Atom} (e : a.kind = 4) : adds a = a.num := by unfold adds; rw [Co.leaf4 e, Co.count4 e]; rfl
theorem adds_five {a : Atom} (e : a.kind = 5) : adds a = 2 * a.num := by unfold adds; rw [Co.leaf5 e, Co.count5 e]; rfl
theorem adds_six {a : Atom} (e : a.kind = 6) : adds a = 1 := by unfold adds; rw [Co.leaf6 e, Co.count6 e]; rfl
theorem adds_leaf {a : Atom} (h4 : ¬ a.kind = 4) (h5 : ¬ a.kind = 5) (h6 : ¬ a.kind = 6) : adds a = 0 := by
 unfold adds leaf
 simp [h4, h5, h6]
end Go.Px.E7
namespace Go.Proofs.YtddiabaagpmkgaaDoor
open Go.RowKit Go.Px Go.Px.E7
set_option maxRecDepth 100000 in
set_option maxHeartbeats 4000000 in
theorem cbehind_any (v : Value) (L : List Atom) (p q : Nat) (w : World) (h : Lies w 3 cAtom v L) (hl : L.length ≤ 4096) (ha : At L p q) :
  Calls Tryd.prog 55 #[v, .int .i64 p] w fun e w' => e = .returned (.int .i64 q) ∧ Same w w' := by
 obtain ⟨va, vc, hv, _, _⟩ := h.slice
 subst hv
 have H := Px.hid h
 have HC := Px.hid ha.cnt
 have hlt := ha.lt
 have hp : p ≤ 4096 := by omega
 have hg : q - p + 1 ≤ 4097 := by omega
 clear h ha hlt
 obtain ⟨f0, hf0⟩ : ∃ f0, f0 = q - p + 1 := ⟨_, rfl⟩
 rw [← hf0] at HC hg
 clear hf0
 go_enter Tryd.func55, Tryd.ntmps55
 go_wp2
 go_loopg [1, 5] f0 (fun gk t1 t5 wr => ∃ k left : Nat, t1 = .int .i64 k ∧ t5 = .int .u64 left ∧ gk ≤ 4097 ∧ k ≤ 4096 ∧ Hid (cnt L gk left k = some q ∧ Same w wr))
 case atStart => exact ⟨p, 1, rfl, rfl, hg, hp, Px.hid ⟨HC.out, Same.refl w⟩⟩
 case round =>
  obtain ⟨k, left, rfl, rfl, hgk, hk, HS⟩ := hrel
  have hlg := cnt_lt HS.out.1
  by_cases h0 : left = 0
  ·subst h0
   have hkq := cnt_end HS.out.1
   subst hkq
   have HS2 := Px.hid HS.out.2
   go_wp2
   go_ret
   exact ⟨rfl, HS2.out⟩
  ·have hpos : 0 < left := by omega
   obtain ⟨f', hf', hkl, hc⟩ := cnt_more HS.out.1 hpos
   subst hf'
   have hposz : (0 : Int) < (left : Int) := by omega
   obtain ⟨xb, xo, xc, hve, hxb, hcx⟩ := (Lies.same H.out HS.out.2).cell k L[k] (by simp [hkl])
   simp only [Value.slice.injEq, true_and] at hve
   obtain ⟨rfl, rfl⟩ := hve
   have hx0 := hcx 0 _ rfl
   have hx1 := hcx 1 _ rfl
   rw [← Nat.add_assoc] at hx0 hx1
   rw [Nat.add_zero] at hx0
   have hklz : (k : Int) < (L.length : Int) := by omega
   obtain ⟨x, hx⟩ : ∃ x, x = L[k] := ⟨_, rfl⟩
   rw [← hx] at hx0 hx1 hc
   have hlt2 := cnt_lt hc
   have HC2 := Px.hid hc
   clear hcx hx hc h0 hpos
   by_cases h4 : x.kind = 4
   ·have e := adds_four h4
    rw [e] at HC2 hlt2
    rw [h4] at hx0
    clear e h4
    go_wp2
    go_roundg f'
    case measure => omega
    case rel => exact ⟨k + 1, left + x.num - 1, by go_num, by go_num, by omega, by omega, Px.hid ⟨HC2.out, HS.out.2⟩⟩
   ·by_cases h5 : x.kind = 5
    ·have e := adds_five h5
     rw [e] at HC2 hlt2
     rw [h5] at hx0
     clear e h4 h5
     go_wp2
     go_roundg f'
     case measure => omega
     case rel => exact ⟨k + 1, left + 2 * x.num - 1, by go_num, by go_num, by omega, by omega, Px.hid ⟨HC2.out, HS.out.2⟩⟩
    ·by_cases h6 : x.kind = 6
     ·have e := adds_six h6
      rw [e] at HC2 hlt2
      rw [h6] at hx0
      clear e h4 h5 h6
      go_wp2
      go_roundg f'
      case measure => omega
      case rel => exact ⟨k + 1, left + 1 - 1, by go_num, by go_num, by omega, by omega, Px.hid ⟨HC2.out, HS.out.2⟩⟩
     ·have e := adds_leaf h4 h5 h6
      rw [e] at HC2 hlt2
      clear e
      go_wp2
      go_roundg f'
      case measure => omega
      case rel => exact ⟨k + 1, left + 0 - 1, by go_num, by go_num, by omega, by omega, Px.hid ⟨HC2.out, HS.out.2⟩⟩
end Go.Proofs.YtddiabaagpmkgaaDoor

/-! The walks over cose's header.get and pairs. -/
namespace Go.Proofs.YtddiabaagpmkgaaDoor
open Go.RowKit Go.Px Go.Px.E7 Go.Px.Co
def cPair (p : Atom × Atom) : List Value := [.int .i64 p.1.kind, .int .u64 (p.1.num : Nat), S p.1.text, .int .i64 p.2.kind, .int .u64 (p.2.num : Nat), S p.2.text, .bool (okL p.1)]
theorem cPair_len (a : Atom × Atom) : (cPair a).length = 7 := rfl
theorem Tryd.infoPair : (Tryd.prog.info? 116).map (fun i => (i.zero, i.size, i.bytes)) = some (some (.agg #[.int .i64 0, .int .u64 0, .string ByteArray.empty, .int .i64 0, .int .u64 0, .string ByteArray.empty, .bool false]), 7, 72) := by kernel_rfl
def fndV (o : Option Atom) : Value := .tuple #[.agg #[.int .i64 (o.getD za).kind, .int .u64 ((o.getD za).num : Nat), S (o.getD za).text], .bool o.isSome]
theorem atom_beq (a b : Atom) : (a == b) = (a.kind == b.kind && a.num == b.num && a.text == b.text) := by
 obtain ⟨k, n, t⟩ := a
 obtain ⟨k2, n2, t2⟩ := b
 rw [Bool.eq_iff_iff]
 simp [and_assoc]
theorem run_eql_atom (a b : Atom) (w : World) : (binOp .eql 62 (.agg #[.int .i64 a.kind, .int .u64 (a.num : Nat), S a.text]) (.agg #[.int .i64 b.kind, .int .u64 (b.num : Nat), S b.text])).run Tryd.prog w = .ok (.bool (a == b)) w := by
 rw [run_eql_struct, run_equalIn_struct w 9999 _ _ _ (by kernel_rfl) (by kernel_rfl)]
 simp only [Program.fieldsOf, Tryd.underlying62]
 go_simp
 rw [atom_beq]
 by_cases h1 : a.kind = b.kind
 ·by_cases h2 : a.num = b.num
  ·by_cases h3 : a.text = b.text
   ·simp [h1, h2, h3]
   ·simp [h1, h2, h3]
  ·have h2' : ¬ (a.num : Int) = (b.num : Int) := by omega
   have h2b : (a.num == b.num) = false := by simpa using h2
   rw [if_pos h1, if_neg h2', h2b]
   simp
 ·simp [h1]
/-- What is asked of a label: its parts. -/
theorem find_step (h : Hdr) (i n : Nat) (hi : i < h.length) : Co.find (h.drop i) n = if (h[i].1 == ⟨0, n, []⟩) = true then some h[i].2 else Co.find (h.drop (i + 1)) n := by
 unfold Co.find
 rw [List.drop_eq_getElem_cons hi, List.find?_cons]
 cases (h[i].1 == ⟨0, n, []⟩) <;> rfl
set_option maxRecDepth 100000 in
set_option maxHeartbeats 4000000 in
theorem get_any (v : Value) (h : Hdr) (n : Nat) (w : World) (hv : Lies w 7 cPair v h) (hl : h.length ≤ 10000) :
  Calls Tryd.prog 58 #[v, .int .u64 n] w fun e w' => e = .returned (fndV (Co.find h n)) ∧ Same w w' := by
 obtain ⟨va, vc, hve, _, _⟩ := hv.slice
 subst hve
 have H := Px.hid hv
 clear hv
 go_enter Tryd.func58, Tryd.ntmps58
 go_wp2
 go_loopg [10] (h.length + 1) (fun gk t10 wr => ∃ i : Nat, gk + i = h.length + 1 ∧ i ≤ h.length ∧ t10 = .int .i64 i ∧ Hid (Co.find h n = Co.find (h.drop i) n ∧ Same w wr ∧ wr.heap[w.heap.size]? = some (.cells #[.int .i64 0, .int .u64 0, .string ByteArray.empty] 62 (0, 0))))
 case atStart => exact ⟨0, rfl, Nat.zero_le _, rfl, Px.hid ⟨rfl, (Fr.refl _ w).alloc _, heap_alloc_new w _⟩⟩
 case round =>
  obtain ⟨i, hgk, hi, rfl, HS⟩ := hrel
  have c0 : wr.cell? ⟨w.heap.size, 0, none⟩ = some (.int .i64 0) := cellOf HS.out.2.2 0 rfl
  have c1 : wr.cell? ⟨w.heap.size, 1, none⟩ = some (.int .u64 0) := cellOf HS.out.2.2 1 rfl
  have c2 : wr.cell? ⟨w.heap.size, 2, none⟩ = some (.string ByteArray.empty) := cellOf HS.out.2.2 2 rfl
  have hb4 : w.heap.size < wr.heap.size := ltOf HS.out.2.2
  have f0 := freeOf HS.out.2.2 0
  have f1 := freeOf HS.out.2.2 1
  have f2 := freeOf HS.out.2.2 2
  by_cases hlt : i < h.length
  ·have hltz : (i : Int) < (h.length : Int) := by omega
   obtain ⟨xb, xo, xc, hve, hxb, hcx⟩ := (Lies.same H.out HS.out.2.1).cell i h[i] (by simp [hlt])
   simp only [Value.slice.injEq, true_and] at hve
   obtain ⟨rfl, rfl⟩ := hve
   have x0 := hcx 0 _ rfl
   have x1 := hcx 1 _ rfl
   have x2 := hcx 2 _ rfl
   have x3 := hcx 3 _ rfl
   have x4 := hcx 4 _ rfl
   have x5 := hcx 5 _ rfl
   have x6 := hcx 6 _ rfl
   rw [← Nat.add_assoc] at x0 x1 x2 x3 x4 x5 x6
   rw [Nat.add_zero] at x0
   have hst := find_step h i n hlt
   obtain ⟨x, hx⟩ : ∃ x, x = h[i].1 := ⟨_, rfl⟩
   obtain ⟨y, hy⟩ : ∃ y, y = h[i].2 := ⟨_, rfl⟩
   rw [← hx] at x0 x1 x2 x6 hst
   rw [← hy] at x3 x4 x5 hst
   have HST := Px.hid hst
   have HGK := Px.hid hgk
   clear hcx hx hy hst hgk
   go_wp2
   ·have e1 : x.kind = 0 := by assumption
    have e2 : (x.num : Int) = (n : Int) := by assumption
    have e3 : x.text = [] := by assumption
    have HE := Px.hid (show Co.find h n = some y by
     have e4 : x.num = n := by omega
     rw [HS.out.1, HST.out, if_pos]
     rw [atom_beq]
     simp [e1, e4, e3])
    rw [HE.out]
    refine bodyPost_ret (v := fndV (some y)) (by simp [results, Tryd.results58, go_sem, fndV, za, *]) rfl ⟨rfl, ?_⟩
    refine Fr.alloc ?_ _
    refine Fr.setCell ?_ (.inr (Nat.le_refl _)) _
    refine Fr.setCell ?_ (.inr (Nat.le_refl _)) _
    refine Fr.setCell ?_ (.inr (Nat.le_refl _)) _
    exact HS.out.2.1
   all_goals
    have HE := Px.hid (show (x == (⟨0, n, []⟩ : Atom)) = false by
     rw [atom_beq]
     simp
     intros
     first
      | (exfalso; omega)
      | assumption)
    have HN := Px.hid (show Co.find h n = Co.find (h.drop (i + 1)) n by rw [HS.out.1, HST.out, HE.out]; rfl)
    clear HE HST
    go_roundg (h.length - i)
   all_goals first
    | (have := HGK.out; omega)
    | exact ⟨i + 1, by omega, by omega, by go_num, Px.hid ⟨HN.out, Fr.alloc HS.out.2.1 _, heap_alloc_old wr _ (ltOf HS.out.2.2) ▸ HS.out.2.2⟩⟩
  ·have hltz : ¬ (i : Int) < (h.length : Int) := by omega
   have HE := Px.hid (show Co.find h n = none by
    rw [HS.out.1, List.drop_of_length_le (by omega)]
    rfl)
   go_wp2
   rw [HE.out]
   refine bodyPost_ret (v := fndV none) (by simp [results, Tryd.results58, go_sem, fndV, za, *]) rfl ⟨rfl, ?_⟩
   refine Fr.setCell ?_ (.inr (Nat.le_refl _)) _
   refine Fr.setCell ?_ (.inr (Nat.le_refl _)) _
   refine Fr.setCell ?_ (.inr (Nat.le_refl _)) _
   exact HS.out.2.1
end Go.Proofs.YtddiabaagpmkgaaDoor
