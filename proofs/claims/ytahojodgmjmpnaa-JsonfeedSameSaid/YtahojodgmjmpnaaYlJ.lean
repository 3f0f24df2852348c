/-
  The walks over slices.Index and Contains on strings; a []byte as a string; a name more; a token taken off (all for jsonfeed's finish).
-/
import Derived.Test.YtahojodgmjmpnaaYhJ
import Derived.Deep.LoopGhost
namespace Go.Proofs.Ytahojodgmjmpnaa
open Go.RowKit Go.Px

/-- A []byte of the call's own as a string. -/
theorem Owns.str {P : Program} {w : World} {e : TypeId} {v : Value} {l : List UInt8} (h : Owns w e 1 cByte v l) {t dst : TypeId} (ht : P.underlying t = some (.slice e)) (he : P.underlying e = some (.int .u8)) (hd : P.underlying dst = some .string) :
    (convert t dst v).run P w = .ok (S l) w := by
  rcases h.2 with ⟨rfl, h0⟩ | ⟨g, cap, cur, rfl, _, hg, hc1, hc2, _⟩
  · rw [run_convert_bytes_nil _ t e ht he 0 0 dst hd, List.length_eq_zero_iff.1 h0]
    rfl
  · have hcell : ∀ j, (hj : j < l.length) → w.cell? ⟨g, j, none⟩ = some (.int .u8 (l[j].toNat)) := by
      intro j hj
      obtain ⟨g', cap', hv, _, _, hc, _⟩ := Owns.at h cByte_len (j := j) (a := l[j]) (by simp [hj])
      simp only [Value.slice.injEq, Option.some.injEq, Addr.mk.injEq, and_true, true_and] at hv
      obtain ⟨rfl, rfl⟩ := hv
      have := hc 0 _ rfl
      simpa using this
    rw [run_convert_bytes_arg w t e ht he g 0 l.length cap (l.map fun c => ((c.toNat : Nat) : Int)) (by simp) ?_ dst hd, strOf_bytes]
    intro i hi
    rw [Nat.zero_add, hcell i hi]
    simp [List.getD, hi]
/-- A place's number tells whether a string is there. -/
def IdxIs (i : Int) (l : List Bytes) (t : Bytes) : Prop := decide (0 ≤ i) = l.contains t
set_option maxRecDepth 100000 in
set_option maxHeartbeats 4000000 in
theorem index_any (v : Value) (l : List Bytes) (t : Bytes) (hl : l.length ≤ 1000000) (w : World) (h : Owns w 9 1 cStr v l) :
    Calls Try.prog 57 #[v, S t] w fun e w' => ∃ i : Int, e = .returned (.int .i64 i) ∧ IdxIs i l t ∧ w = w' := by
  obtain ⟨a, cap, hv, _⟩ := h.len
  subst hv
  have H := Px.hid h
  clear h
  go_enter Try.func57, Try.ntmps57
  go_wp2
  go_loopw [8] (fun i wr => ∃ k, k ≤ l.length ∧ i = .int .i64 (k : Nat) ∧ w = wr ∧ ∀ j, j < k → l[j]? ≠ some t) (fun i _ => l.length - (intOf i).toNat)
  case atStart => exact ⟨0, Nat.zero_le _, rfl, rfl, fun j hj => by omega⟩
  case round =>
    obtain ⟨k, hk, rfl, rfl, hno⟩ := hrel
    by_cases hlt : k < l.length
    · have hltz : (k : Int) < (l.length : Int) := by omega
      obtain ⟨x, hx⟩ : ∃ x, l[k]? = some x := ⟨_, List.getElem?_eq_getElem hlt⟩
      obtain ⟨g, cap', hv', _, _, hc, _⟩ := Owns.at H.out cStr_len hx
      simp only [Value.slice.injEq] at hv'
      have ha := hv'.1
      subst ha
      have ck : w.cell? ⟨g, k, none⟩ = some (S x) := by have := hc 0 (S x) rfl; simpa using this
      have HX := Px.hid (And.intro hx hno)
      have HLT := Px.hid hlt
      clear hv' hc hx hno hlt
      obtain ⟨q, hq⟩ : ∃ q, (t == x) = q := ⟨_, rfl⟩
      have HQ := Px.hid hq
      cases q with
      | true =>
        go_wp2
        go_ret
        refine ⟨_, rfl, ?_, rfl⟩
        have ht : t = x := by simpa using HQ.out
        have : t ∈ l := by rw [ht]; exact List.mem_of_getElem? HX.out.1
        unfold IdxIs
        simp [this]
      | false =>
        go_wp2
        go_roundw
        case rel =>
          refine ⟨k + 1, HLT.out, by go_num, trivial, fun j hj => ?_⟩
          by_cases e : j = k
          · subst e
            rw [HX.out.1]
            have ht : ¬ t = x := by simpa using HQ.out
            exact fun h => ht (by simpa using h.symm)
          · exact HX.out.2 j (by omega)
        case measure => have := HLT.out; simp [intOf]; omega
    · have hlt' : ¬ (k : Int) < (l.length : Int) := by omega
      have HNO := Px.hid (show l.contains t = false by
        have hk : k = l.length := by omega
        subst hk
        simp only [List.contains_eq_mem, decide_eq_false_iff_not]
        intro hm
        obtain ⟨j, hj⟩ := List.mem_iff_getElem?.1 hm
        have := (List.getElem?_eq_some_iff.1 hj).1
        exact hno j this hj)
      clear hno
      go_wp2
      go_ret
      exact ⟨-1, rfl, by unfold IdxIs; rw [HNO.out]; rfl, rfl⟩
theorem contains_any (v : Value) (l : List Bytes) (t : Bytes) (hl : l.length ≤ 1000000) (w : World) (h : Owns w 9 1 cStr v l) :
    Calls Try.prog 38 #[v, S t] w fun e w' => e = .returned (.bool (l.contains t)) ∧ w = w' := by
  have H := Px.hid (index_any v l t hl w h)
  clear h
  go_enter Try.func38, Try.ntmps38
  go_wp2_with fail
  refine H.out.mono ?_
  rintro e w' ⟨i, rfl, hi, rfl⟩
  have HI := Px.hid hi
  clear hi
  go_wp2
  go_ret
  have h2 := HI.out
  unfold IdxIs at h2
  rw [← h2]
  exact ⟨rfl, rfl⟩
section
variable {w w' : World} {b : Nat} {f : J6.Feed} {vo vs tv : Value} {tb : List (Option Nat)} {ps : List (J6.Fm × Value)}
/-- No token is at hand any more. -/
theorem FeedRep.drop (h : FeedRep w b f vo vs tv tb ps) : FeedRep (w.setCell ⟨b, 8, none⟩ .nilIface) b { f with now := .none } vo vs .nilIface [] ps := by
  have hn : ∀ k, some k ∈ blocks vo vs [] ps → some k ∈ blocks vo vs tb ps := fun k e => by
    rcases mem_blocks.1 e with x | x | x | x
    · exact mem_blocks.2 (.inl x)
    · exact mem_blocks.2 (.inr (.inl x))
    · cases x
    · exact mem_blocks.2 (.inr (.inr (.inr x)))
  exact h.store (F := fun _ => False) (Fr.refl _ w) (fun _ x => x.elim) (h.parts.setTok (t' := .none) ⟨rfl, rfl⟩ (fun k hk => by cases hk)) (fun k e => .inl (hn k e)) 8 _ rfl
/-- One more name. -/
theorem FeedRep.putName {x : J6.Fm} {vn : Value} {rest : List (J6.Fm × Value)} {g cap gg c2 : Nat} {t : Bytes} (h : FeedRep w b f vo (.slice (some ⟨g, 0, none⟩) (rest.length + 1) cap) tv tb ((x, vn) :: rest))
    (hown : w'.ownsRow 0 9 1 (.slice (some ⟨gg, 0, none⟩) (x.names.length + 1) c2) (x.names.length + 1) (x.names.flatMap cStr ++ cStr t))
    (hg : w.grownBy w' vn.ownBlock) (hat : vn.ownBlock = some gg ∨ w.heap.size ≤ gg) :
    After w (w'.setCell ⟨g, rest.length * 3 + 2, none⟩ (.slice (some ⟨gg, 0, none⟩) (x.names.length + 1) c2)) b { f with stack := { x with names := x.names ++ [t] } :: rest.map Prod.fst } (foot b (blocks vo (.slice (some ⟨g, 0, none⟩) (rest.length + 1) cap) tb ((x, vn) :: rest))) := by
  have hvn : vn.ownBlock ≠ some g := fun e => (h.parts.split.2.2.1 g rfl).2 (mem_nm.2 ⟨_, List.mem_cons_self .., e⟩)
  have hgl : g < w.heap.size := h.parts.stack.lt rfl
  have hgg : gg ≠ g := by
    rcases hat with e | e
    · exact fun x => hvn (by rw [e, x])
    · omega
  have hF : ∀ k, (vn.ownBlock = some k ∨ k = g) → some k ∈ blocks vo (.slice (some ⟨g, 0, none⟩) (rest.length + 1) cap) tb ((x, vn) :: rest) := fun k e => by
    rcases e with e | e
    · exact mem_blocks.2 (.inr (.inr (.inr (mem_nm.2 ⟨_, List.mem_cons_self .., e⟩))))
    · exact mem_blocks.2 (.inr (.inl (by rw [e]; rfl)))
  have hf : Fr (fun k => vn.ownBlock = some k ∨ k = g) w (w'.setCell ⟨g, rest.length * 3 + 2, none⟩ (.slice (some ⟨gg, 0, none⟩) (x.names.length + 1) c2)) :=
    ((Fr.refl _ w).grown hg (fun k e => .inl (.inl e))).setCell (p := ⟨g, rest.length * 3 + 2, none⟩) (.inl (.inr rfl)) _
  have h0 : Owns w 92 3 cFr (.slice (some ⟨g, 0, none⟩) (rest.reverse.length + 1) cap) (rest.reverse ++ [(x, vn)]) := by have := h.parts.stack; simpa using this
  have h1 := h0.grown hg (fun k e e2 => by
    simp only [Value.ownBlock, Option.some.injEq] at e
    subst e
    exact hvn e2)
  have k := h1.setLast (b := ({ x with names := x.names ++ [t] }, .slice (some ⟨gg, 0, none⟩) (x.names.length + 1) c2)) cFr_len 2 (.slice (some ⟨gg, 0, none⟩) (x.names.length + 1) c2) rfl
  rw [List.length_reverse] at k
  have hn2 : ∀ j, (Value.slice (some ⟨gg, 0, none⟩) (x.names.length + 1) c2).ownBlock = some j → vn.ownBlock = some j ∨ w.heap.size ≤ j := fun j e => by
    simp only [Value.ownBlock, Option.some.injEq] at e
    subst e
    exact hat
  have hbn : ∀ j, some j ∈ blocks vo (.slice (some ⟨g, 0, none⟩) (rest.length + 1) cap) tb (({ x with names := x.names ++ [t] }, .slice (some ⟨gg, 0, none⟩) (x.names.length + 1) c2) :: rest) → some j ∈ blocks vo (.slice (some ⟨g, 0, none⟩) (rest.length + 1) cap) tb ((x, vn) :: rest) ∨ w.heap.size ≤ j := fun j e => by
    rcases mem_blocks.1 e with y | y | y | y
    · exact .inl (mem_blocks.2 (.inl y))
    · exact .inl (mem_blocks.2 (.inr (.inl y)))
    · exact .inl (mem_blocks.2 (.inr (.inr (.inl y))))
    · simp only [nmBlocks, List.map_cons, List.mem_cons] at y
      rcases y with y | y
      · exact (hn2 j y.symm).imp (fun z => mem_blocks.2 (.inr (.inr (.inr (mem_nm.2 ⟨_, List.mem_cons_self .., z⟩))))) id
      · refine .inl (mem_blocks.2 (.inr (.inr (.inr ?_))))
        simp only [nmBlocks, List.map_cons, List.mem_cons]
        exact .inr y
  refine ⟨_, ⟨_, _, _, _, _, h.inner (f' := { f with stack := { x with names := x.names ++ [t] } :: rest.map Prod.fst }) hf hF (h.parts.putTop hf (fun j e => ?_) (by simpa using k) ?_ hn2) hbn rfl, rfl⟩, Fr.foot hf hF, Fresh.foot hbn⟩
  · rcases e with e | e
    · exact .inr e
    · exact .inl (by rw [e]; rfl)
  · exact (owns_append hown).setCell (p := ⟨g, rest.length * 3 + 2, none⟩) (fun e => by
      simp only [Value.ownBlock, Option.some.injEq] at e
      exact hgg e) _
end
end Go.Proofs.Ytahojodgmjmpnaa
