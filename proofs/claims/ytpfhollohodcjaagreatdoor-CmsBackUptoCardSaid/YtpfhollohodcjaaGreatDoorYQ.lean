/-
  Several texts in one: Trees that are made, in memory; the walks over cms.leaf, of, octet.Put, number, sized (layer 23).
-/
import Derived.Test.YtpfhollohodcjaaGreatDoorYL
/-! Trees that are made, in memory; the walks over cms.leaf, of, octet.Put, number, sized (layer 23). -/
namespace Go.Proofs.YtpfhollohodcjaaGreatDoor
open Go.RowKit Go.Px Go.Px.Co Go.Px.Cm
/-- A tree's slice, and its elements. -/
abbrev VT := Value × List Px.Node
def cVT (p : VT) : List Value := [p.1]
theorem cVT_len (p : VT) : (cVT p).length = 1 := rfl
/-- A slice of trees. -/
structure Row (w : World) (v : Value) (ps : List VT) : Prop where
  lies : Lies w 1 cVT v ps
  each : ∀ p ∈ ps, Lies w 3 cNode p.1 p.2
theorem Row.same {w w' : World} {v : Value} {ps : List VT} (h : Row w v ps) (hs : Same w w') : Row w' v ps := ⟨Lies.same h.lies hs, fun p hp => Lies.same (h.each p hp) hs⟩
/-- A tree of the call's own. -/
structure MkT (w : World) (t : List Px.Node) (a : Option Addr) (n c : Nat) (w' : World) : Prop where
  lies : Lies w' 3 cNode (.slice a n c) t
  own : Owns w' 90 3 cNode (.slice a n c) t
  same : Same w w'
  new : ∀ q, (Value.slice a n c).ownBlock = some q → w.heap.size ≤ q
theorem lies_block {w : World} {g : Nat} {T : TypeId} {sz : Nat} {α : Type} {c : α → List Value} {l : List α} (hc : ∀ a, (c a).length = sz) (hb : w.heap[g]? = some (.cells (l.flatMap c).toArray T (0, 0))) (hl : l.length ≤ maxLen) : Lies w sz c (.slice (some ⟨g, 0, none⟩) l.length l.length) l := by
  refine ⟨⟨_, _, rfl, Nat.le_refl _, hl⟩, fun j x hj => ⟨g, 0, l.length, rfl, ltOf hb, fun i u hu => ?_⟩⟩
  have hi : i < sz := by rw [← hc x]; exact (List.getElem?_eq_some_iff.1 hu).1
  have hjl := (List.getElem?_eq_some_iff.1 hj).1
  refine cellOf hb _ ?_
  rw [Nat.zero_add, List.getElem?_toArray]
  have hsplit : l = l.take j ++ x :: l.drop (j + 1) := by
    conv => lhs; rw [← List.take_append_drop j l]
    rw [List.drop_eq_getElem_cons hjl]
    congr 2
    exact (List.getElem?_eq_some_iff.1 hj).2
  rw [hsplit, List.flatMap_append, List.flatMap_cons, List.getElem?_append_right (by rw [flat_len hc, List.length_take, Nat.min_eq_left (by omega)]; omega), flat_len hc, List.length_take, Nat.min_eq_left (by omega), Nat.add_sub_cancel_left, List.getElem?_append_left (by rw [hc]; exact hi)]
  exact hu
theorem owns_block {w : World} {g : Nat} {T : TypeId} {sz : Nat} {α : Type} {c : α → List Value} {l : List α} (hc : ∀ a, (c a).length = sz) (hb : w.heap[g]? = some (.cells (l.flatMap c).toArray T (0, 0))) (hl : l.length ≤ maxLen) : Owns w T sz c (.slice (some ⟨g, 0, none⟩) l.length l.length) l := by
  have hL := flat_len hc l
  refine ⟨hL, .inr ⟨g, l.length, (l.flatMap c).toArray, rfl, Nat.zero_le _, hb, Nat.le_refl _, hl, by simpa using hL, ?_⟩⟩
  rw [List.toList_toArray, ← hL, List.take_length]
theorem mkt_new (w : World) (t : List Px.Node) (hl : t.length ≤ maxLen) : MkT w t (some ⟨w.heap.size, 0, none⟩) t.length t.length (w.alloc (.cells (t.flatMap cNode).toArray 90 (0, 0))) :=
  ⟨lies_block cNode_len (heap_alloc_new w _) hl, owns_block cNode_len (heap_alloc_new w _) hl, (Fr.refl _ w).alloc _, fun q e => by cases e; exact Nat.le_refl _⟩
theorem row_new {w : World} (ps : List VT) (hl : ps.length ≤ maxLen) (h : ∀ p ∈ ps, Lies w 3 cNode p.1 p.2) : Row (w.alloc (.cells (ps.flatMap cVT).toArray 80 (0, 0))) (.slice (some ⟨w.heap.size, 0, none⟩) ps.length ps.length) ps :=
  ⟨lies_block cVT_len (heap_alloc_new w _) hl, fun p hp => Lies.same (h p hp) ((Fr.refl _ w).alloc _)⟩
set_option maxRecDepth 100000 in
set_option maxHeartbeats 2000000 in
theorem tleaf_any (t : UInt8) (b : Bytes) (w : World) : Calls Tryz.prog 40 #[.int .u8 (t.toNat : Nat), S b] w fun e w' => ∃ a n c, e = .returned (.slice a n c) ∧ MkT w (lf t b) a n c w' := by
  go_enter Tryz.func40, Tryz.ntmps40
  go_wp2
  go_ret
  exact ⟨_, _, _, rfl, mkt_new w (lf t b) (by simp [lf, maxLen])⟩
set_option maxRecDepth 100000 in
set_option maxHeartbeats 2000000 in
theorem tof_any (t : UInt8) (v : Value) (ps : List VT) (w : World) (h : Row w v ps) (hl : (ps.flatMap (·.2)).length ≤ 1000000000) (hp : ps.length ≤ 1000000000) : Calls Tryz.prog 44 #[.int .u8 (t.toNat : Nat), v] w fun e w' => ∃ a n c, e = .returned (.slice a n c) ∧ MkT w (ofT t (ps.map (·.2))) a n c w' := by
  obtain ⟨va, vc, hv, hv1, hv2⟩ := h.lies.slice
  subst hv
  have H := Px.hid (And.intro h (And.intro hl hp))
  clear h hl hv2
  obtain ⟨i0, hi0, hz0, hz1, hz2⟩ := info_parts Tryz.infoNode
  have hpz : (ps.length : Int) ≤ 1000000000 := by omega
  go_enter Tryz.func44, Tryz.ntmps44
  go_upto_region 2 with fail
  obtain ⟨w1, hw1⟩ : ∃ w1, w1 = w.alloc (.cells #[.int .u8 (t.toNat : Nat), .int .i64 (ps.length : Nat), S []] 90 (0, 0)) := ⟨_, rfl⟩
  have hm := mkt_new w [(⟨t, (ps.length : Int), []⟩ : Px.Node)] (by simp [maxLen])
  rw [show w.alloc (.cells (([(⟨t, (ps.length : Int), []⟩ : Px.Node)] : List Px.Node).flatMap cNode).toArray 90 (0, 0)) = w1 from hw1.symm] at hm
  have HM := Px.hid hm
  have HW := Px.hid hw1
  rw [← hw1]
  clear hm hw1
  go_wp2
  go_loopw [5, 15] (fun o i wr => ∃ (k : Nat) (a : Option Addr) (n c : Nat), k ≤ ps.length ∧ i = .int .i64 (k : Nat) ∧ o = .slice a n c ∧ Hid (MkT w ((⟨t, (ps.length : Int), []⟩ : Px.Node) :: (ps.take k).flatMap (·.2)) a n c wr)) (fun _ i _ => ps.length - (intOf i).toNat)
  case atStart => exact ⟨0, _, _, _, Nat.zero_le _, rfl, rfl, Px.hid HM.out⟩
  case round =>
    obtain ⟨k, a, n, c, hk, rfl, rfl, HT⟩ := hrel
    by_cases hlt : k < ps.length
    · have hlz : (k : Int) < (ps.length : Int) := by omega
      obtain ⟨p, hpk⟩ : ∃ p, ps[k]? = some p := ⟨_, List.getElem?_eq_getElem hlt⟩
      obtain ⟨vb, off, cap, hve, hvb, hc⟩ := (Lies.same H.out.1.lies HT.out.same).cell k p hpk
      simp only [Value.slice.injEq, true_and] at hve
      obtain ⟨rfl, rfl⟩ := hve
      have x0 := hc 0 _ rfl
      rw [Nat.mul_one, Nat.add_zero] at x0
      have hli := Lies.same (H.out.1.each p (List.mem_of_getElem? hpk)) HT.out.same
      obtain ⟨pa, pc, hpv, hp1, hp2⟩ := hli.slice
      have hsum : ((ps.take (k + 1)).flatMap (·.2)) = (ps.take k).flatMap (·.2) ++ p.2 := by
        rw [List.take_add_one, hpk]
        simp [List.flatMap_append]
      have hle : ((ps.take k).flatMap (·.2)).length + p.2.length ≤ 1000000000 := by
        have h1 : (ps.flatMap (·.2)) = (ps.take (k + 1)).flatMap (·.2) ++ (ps.drop (k + 1)).flatMap (·.2) := by rw [← List.flatMap_append, List.take_append_drop]
        have h2 := congrArg List.length h1
        rw [hsum, List.length_append, List.length_append] at h2
        have := H.out.2.1
        omega
      obtain ⟨P0, hP0⟩ : ∃ P0, P0 = (⟨t, (ps.length : Int), []⟩ : Px.Node) :: (ps.take k).flatMap (·.2) := ⟨_, rfl⟩
      obtain ⟨pl, hpl⟩ : ∃ pl, pl = p.2 := ⟨_, rfl⟩
      have hown := HT.out.own
      rw [← hP0] at hown
      have hn : n = P0.length := by
        obtain ⟨_, _, e, _⟩ := hown.len
        cases e
        rfl
      subst hn
      have hPl : P0.length ≤ 1000000001 := by rw [hP0, List.length_cons]; omega
      have hP1 : 0 < P0.length := by rw [hP0]; simp
      rw [← hpl] at hpv hli hle
      rw [hpv] at x0 hli
      have hsrc := Lies.src (P := Tryz.prog) (tx := 80) hli cNode_len (by omega) Tryz.underlying80 (node_one pl)
      have hpl1 : pl.length ≤ 1000000000 := by omega
      have HX := Px.hid (And.intro hlt (And.intro hpk (And.intro hsum (And.intro hP0 hpl))))
      unfold Owns at hown
      clear hpk hc hpv hp1 hp2 hsum hle hP0 hpl hli hlt
      go_wp2_with (at_builtin; go_must (refine wpList_append_src rfl _ _ 80 80 rfl 90 i0 _ 3 32 Tryz.underlying80 hi0 hz0 hz1 hz2 rfl (.slice a P0.length c) P0.length _ rfl hown _ pl.length (pl.flatMap cNode) rfl hsrc hP1 (by unfold maxLen; omega) (by omega) ?_))
      intro gg cpp w2 hown2 hgrow hat
      have HE := Px.hid (show MkT w ((⟨t, (ps.length : Int), []⟩ : Px.Node) :: (ps.take (k + 1)).flatMap (·.2)) (some ⟨gg, 0, none⟩) (P0.length + pl.length) cpp w2 from by
        have hP0 := HX.out.2.2.2.1
        have hl2 : (P0 ++ pl).length = P0.length + pl.length := List.length_append
        have hfm : (P0 ++ pl).flatMap cNode = P0.flatMap cNode ++ pl.flatMap cNode := List.flatMap_append
        have hO : Owns w2 90 3 cNode (.slice (some ⟨gg, 0, none⟩) (P0.length + pl.length) cpp) (P0 ++ pl) := by
          unfold Owns
          rw [hl2, hfm]
          exact hown2
        have hL : P0 ++ pl = (⟨t, (ps.length : Int), []⟩ : Px.Node) :: (ps.take (k + 1)).flatMap (·.2) := by
          rw [HX.out.2.2.1, hP0, HX.out.2.2.2.2]
          rfl
        rw [← hL]
        refine ⟨Owns.lies hO cNode_len, hO, Fr.grown HT.out.same hgrow (fun q hq => .inr (HT.out.new q hq)), fun q hq => ?_⟩
        have hq2 : gg = q := Option.some.inj hq
        rcases hat with e | e
        · exact HT.out.new q (by rw [e, hq2])
        · have := HT.out.same.size
          omega)
      clear hown2 hgrow hat
      go_wp2
      go_roundw
      case rel => exact ⟨k + 1, _, _, _, HX.out.1, by go_num, rfl, HE⟩
      case measure =>
        show ps.length - (((k : Nat) : Int) + 1).toNat < ps.length - ((k : Nat) : Int).toNat
        have := HX.out.1
        omega
    · have hlz : ¬ (k : Int) < (ps.length : Int) := by omega
      go_wp2
      go_ret
      refine ⟨a, n, c, rfl, ?_⟩
      have e := HT.out
      rw [show k = ps.length by omega, List.take_length] at e
      unfold ofT
      rw [show (ps.map (·.2)).flatten = ps.flatMap (·.2) from (List.flatMap_def ..).symm, List.length_map]
      exact e
end Go.Proofs.YtpfhollohodcjaaGreatDoor
