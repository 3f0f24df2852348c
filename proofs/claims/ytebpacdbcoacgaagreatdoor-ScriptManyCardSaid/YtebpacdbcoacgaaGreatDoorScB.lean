/-
  The walks over (*strings.Builder).WriteByte and WriteString (the cut's own copyCheck has lost its panic, so the guide's laid contracts do not fit).
-/
import Derived.Test.YtebpacdbcoacgaaGreatDoorScA
import Derived.Lib.FrozenHead2
namespace Go.Proofs.YtebpacdbcoacgaaGreatDoor
open Go.RowKit Go.Px
/-- A Builder of the call's own that holds bytes. -/
def Bd (B b : Nat) (l : List UInt8) (w : World) : Prop := Lib.IsBuilderF 37 5 B b (Lib.byteCells l) w
theorem u8info : (Tryz.prog.info? 5).map (fun i => (i.zero, i.size, i.bytes)) = some (some (.int .u8 0), 1, 1) := by kernel_rfl
theorem bcells_snoc (l : List UInt8) (c : UInt8) : Lib.byteCells l ++ [.int .u8 c.toNat] = Lib.byteCells (l ++ [c]) := by simp [Lib.byteCells]
theorem bcells_add (l s : List UInt8) : Lib.byteCells l ++ Lib.strCells ⟨s.toArray⟩ = Lib.byteCells (l ++ s) := by simp [Lib.byteCells, Lib.strCells]
theorem bd_len (l : List UInt8) : (Lib.byteCells l).length = l.length := by simp [Lib.byteCells]
set_option maxRecDepth 100000 in
set_option maxHeartbeats 2000000 in
theorem wbyte_any (B b : Nat) (l : List UInt8) (c : UInt8) (w : World) (h : Bd B b l w) (hlen : l.length + 1 ≤ 140737488355328) (hBw : B ≤ w.heap.size) :
    Calls Tryz.prog 11 #[.pointer (some ⟨b, 0, none⟩), .int .u8 c.toNat] w fun e w' => e = .returned .nilIface ∧ Bd B b (l ++ [c]) w' ∧ Below B w w' ∧ Lib.OthersKept 5 (some b) w w' := by
  obtain ⟨i0, hi, hz0, hz1, hz2⟩ := info_parts u8info
  obtain ⟨bs, hbs⟩ : ∃ bs, bs = Lib.byteCells l := ⟨_, rfl⟩
  have hbl : bs.length ≤ l.length := Nat.le_of_eq (by rw [hbs, bd_len])
  unfold Bd at h ⊢
  rw [← bcells_snoc, ← hbs]
  rw [← hbs] at h
  clear hbs
  go_enter Tryz.func11, Tryz.ntmps11
  go_wp2_with (go_at_call 30; refine (copy_any B b bs _ h).mono ?_)
  rintro e w1 ⟨rfl, h1, hb1, hk1⟩
  obtain ⟨hB, v, hbk, hown, hne⟩ := h1
  have c0 : w1.cell? ⟨b, 0, none⟩ = some (.pointer (some ⟨b, 0, none⟩)) := cellOf hbk 0 rfl
  have c1 : w1.cell? ⟨b, 1, none⟩ = some v := cellOf hbk 1 rfl
  go_wp2_with (at_builtin; refine wpList_append_ownF _ rfl _ _ 35 rfl B 5 i0 (.int .u8 0) 1 1 Tryz.underlying35 hi hz0 hz1 hz2 rfl (by decide) _ _ _ rfl (hown.alloc _) ⟨w1.heap.size, 0, none⟩ 1 1 [.int .u8 c.toNat] rfl rfl ?c1 ?c2 ?c3 ?c4 ?c5 ?_)
  case c1 =>
    intro j u hj
    match j, hj with
    | 0, hj => simp at hj; subst hj; simp [Addr.add]
  case c2 => intro u hu; simp at hu; subst hu; rfl
  case c3 => unfold maxLen; omega
  case c4 => omega
  case c5 => have := hb1.size; simp; omega
  intro v' w2 hown' hgrow _
  have hlt : b < w1.heap.size := ltOf hbk
  have hb2 : w2.heap[b]? = some (.cells #[.pointer (some ⟨b, 0, none⟩), v] 37 (0, 0)) := by
    rw [hgrow.block b (by simp; omega) (fun e => hne e.symm), heap_alloc_old w1 _ hlt]
    exact hbk
  have d0 : w2.cell? ⟨b, 0, none⟩ = some (.pointer (some ⟨b, 0, none⟩)) := cellOf hb2 0 rfl
  have d1 : w2.cell? ⟨b, 1, none⟩ = some v := cellOf hb2 1 rfl
  have f1 : w2.frozen? ⟨b, 1, none⟩ = false := freeOf hb2 1
  obtain ⟨g, cap, rfl⟩ : ∃ g cap, v' = .slice (some ⟨g, 0, none⟩) (bs.length + 1) cap := by
    rcases hown'.2 with ⟨_, h0⟩ | ⟨g, cap, cur, fz, hv, _⟩
    · omega
    · exact ⟨g, cap, hv⟩
  go_wp2
  go_ret
  refine ⟨rfl, .inr ?_, ?_, ((hk1.alloc _).grown hgrow (Lib.ownsRowF_kind (hown.alloc _))).setCell ⟨b, 1, none⟩ rfl _⟩
  · exact Lib.BuilderAtF.put (T := 37) (e := 5) hB hb2 (bs' := bs ++ [.int .u8 c.toNat]) (by simpa using hown') (by decide)
  · exact ((hb1.alloc (by have := hb1.size; omega) _).grown hgrow (by have := hb1.size; simp; omega) (fun k hk => (hown.lt k hk).1)).setCell (p := ⟨b, 1, none⟩) hB _
set_option maxRecDepth 100000 in
set_option maxHeartbeats 2000000 in
theorem wstr_any (B b : Nat) (l s : List UInt8) (w : World) (h : Bd B b l w) (hlen : l.length + s.length ≤ 140737488355328) (hBw : B ≤ w.heap.size) :
    Calls Tryz.prog 10 #[.pointer (some ⟨b, 0, none⟩), S s] w fun e w' => (∃ n, e = .returned (.tuple #[.int .i64 n, .nilIface])) ∧ Bd B b (l ++ s) w' ∧ Below B w w' ∧ Lib.OthersKept 5 (some b) w w' := by
  obtain ⟨i0, hi, hz0, hz1, hz2⟩ := info_parts u8info
  obtain ⟨bs, hbs⟩ : ∃ bs, bs = Lib.byteCells l := ⟨_, rfl⟩
  have hbl : bs.length ≤ l.length := Nat.le_of_eq (by rw [hbs, bd_len])
  have hsl : (ByteArray.mk s.toArray).size ≤ s.length := Nat.le_of_eq (size_S s)
  unfold Bd at h ⊢
  rw [← bcells_add, ← hbs]
  rw [← hbs] at h
  clear hbs
  go_enter Tryz.func10, Tryz.ntmps10
  go_wp2_with (go_at_call 30; refine (copy_any B b bs _ h).mono ?_)
  rintro e w1 ⟨rfl, h1, hb1, hk1⟩
  obtain ⟨hB, v, hbk, hown, hne⟩ := h1
  have c0 : w1.cell? ⟨b, 0, none⟩ = some (.pointer (some ⟨b, 0, none⟩)) := cellOf hbk 0 rfl
  have c1 : w1.cell? ⟨b, 1, none⟩ = some v := cellOf hbk 1 rfl
  go_wp2_with (at_builtin; refine Lib.wpList_append_own_stringF _ rfl _ _ 35 9 rfl B 5 i0 Tryz.underlying35 Tryz.underlying9 hi hz0 hz1 hz2 _ _ _ rfl hown ⟨s.toArray⟩ rfl ?c3 ?c4 ?c5 ?_)
  case c3 => unfold maxLen; omega
  case c4 => omega
  case c5 => have := hb1.size; omega
  intro v' w2 hown' hgrow _
  have hlt : b < w1.heap.size := ltOf hbk
  have hb2 : w2.heap[b]? = some (.cells #[.pointer (some ⟨b, 0, none⟩), v] 37 (0, 0)) := by
    rw [hgrow.block b hlt (fun e => hne e.symm)]
    exact hbk
  have d0 : w2.cell? ⟨b, 0, none⟩ = some (.pointer (some ⟨b, 0, none⟩)) := cellOf hb2 0 rfl
  have d1 : w2.cell? ⟨b, 1, none⟩ = some v := cellOf hb2 1 rfl
  have f1 : w2.frozen? ⟨b, 1, none⟩ = false := freeOf hb2 1
  have hlit : (∃ a n c, v' = .slice a n c) := by
    rcases hown'.2 with ⟨hv, _⟩ | ⟨g, cap, cur, fz, hv, _⟩
    · exact ⟨_, _, _, hv⟩
    · exact ⟨_, _, _, hv⟩
  obtain ⟨va, vn, vc, rfl⟩ := hlit
  go_wp2
  go_ret2
  refine ⟨⟨_, rfl⟩, .inr ?_, ?_, (hk1.grown hgrow (Lib.ownsRowF_kind hown)).setCell ⟨b, 1, none⟩ rfl _⟩
  · exact Lib.BuilderAtF.put (T := 37) (e := 5) hB hb2 (bs' := bs ++ Lib.strCells ⟨s.toArray⟩) (by rw [List.length_append, Lib.strCells_length]; exact hown') (by decide)
  · exact ((hb1.grown hgrow (by have := hb1.size; omega) (fun k hk => (hown.lt k hk).1))).setCell (p := ⟨b, 1, none⟩) hB _
theorem bstr_any (B b : Nat) (l : List UInt8) (w : World) (h : Bd B b l w) (hBw : B ≤ w.heap.size) :
    Calls Tryz.prog 12 #[.pointer (some ⟨b, 0, none⟩)] w fun e w' => e = .returned (S l) ∧ Below B w w' :=
  (Tryz.Builder_String_any_k B b l w h hBw).mono fun _ _ ⟨h1, _, h2, _⟩ => ⟨h1, h2⟩
/-- A fresh Builder. -/
theorem bd_new (w : World) : Bd w.heap.size w.heap.size [] (w.alloc (.cells #[.pointer none, .slice none 0 0] 37 (0, 0))) :=
  .inl ⟨Nat.le_refl _, .slice none 0 0, heap_alloc_new w _, World.ownsRowF_of (World.ownsRow_nil _ _ _ _), by simp [Value.ownBlock]⟩
theorem Bd.same {B b : Nat} {l : List UInt8} {w w' : World} (h : Bd B b l w) (hs : Same w w') : Bd B b l w' := by
  have key : ∀ p, Lib.BuilderAtF 37 5 B b p (Lib.byteCells l) w → Lib.BuilderAtF 37 5 B b p (Lib.byteCells l) w' := by
    rintro p ⟨hB, v, hb, ho, hn⟩
    refine ⟨hB, v, (hs.block b (ltOf hb) (fun x => x)).trans hb, ⟨ho.1, ?_⟩, hn⟩
    rcases ho.2 with h0 | ⟨g, cap, cur, fz, hv, hg, hgc, rest⟩
    · exact .inl h0
    · exact .inr ⟨g, cap, cur, fz, hv, hg, (hs.block g (ltOf hgc) (fun x => x)).trans hgc, rest⟩
  exact h.elim (fun x => .inl (key _ x)) (fun x => .inr (key _ x))
end Go.Proofs.YtebpacdbcoacgaaGreatDoor
