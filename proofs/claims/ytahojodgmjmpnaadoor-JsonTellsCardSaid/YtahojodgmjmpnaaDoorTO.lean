/-
  Several texts in one: What the walk over json.Encode rests on: an append of a string onto what may be nil; the stack, the value and the text told so far, apart. The walk over json.Encode (printed by gen_ee.py).
-/
import Derived.Test.YtahojodgmjmpnaaDoorTN
import Derived.Test.YtahojodgmjmpnaaDoorTM
/-! What the walk over json.Encode rests on: an append of a string onto what may be nil; the stack, the value and the text told so far, apart. -/
namespace Go.Px
open Go.RowKit
/-- An append of whatever source, of one element at least, onto a slice that is nil or the call's own. -/
theorem run_append_srcm (P : Program) (w : World) (t tx ty : TypeId) (e : TypeId) (i : TypeInfo) (z : Value) (size bytes : Nat) (ht : P.underlying t = some (.slice e)) (hi : P.info? e = some i) (hz : i.zero = some z)
    (hsize : i.size = size) (hby : i.bytes = bytes) (hzs : z.cells.size = size)
    (v : Value) (n : Nat) (xs : List Value) (hown : w.ownsRow 0 e size v n xs)
    (x : Value) (m : Nat) (news : List Value) (hs : Src P size tx x m news w)
    (hm : 0 < m) (h63 : n + m ≤ maxLen) (hbytes : (n + m) * bytes ≤ 140737488355328) :
    ∃ g cap w', (Builtin.append_ #[t, tx] ty #[v, x]).run P w = .ok (.slice (some ⟨g, 0, none⟩) (n + m) cap) w' ∧
      w'.ownsRow 0 e size (.slice (some ⟨g, 0, none⟩) (n + m) cap) (n + m) (xs ++ news) ∧ w.grownBy w' v.ownBlock ∧ (v.ownBlock = some g ∨ g = w.heap.size) := by
  by_cases hn : 0 < n
  · exact run_append_src P w t tx ty e i z size bytes ht hi hz hsize hby hzs v n xs hown x m news hs hn h63 hbytes
  obtain rfl : n = 0 := by omega
  subst hsize
  subst hby
  have hx0 : xs = [] := List.eq_nil_of_length_eq_zero (by rw [hown.1]; simp)
  subst hx0
  simp only [Nat.zero_add, List.nil_append] at h63 hbytes ⊢
  have grow : ∀ base cp, (Builtin.firstCells i.size 0 (.slice base 0 cp)).run P w.drew = .ok ([] : List Value).toArray w.drew → cp < m → ∃ w', (Builtin.append_ #[t, tx] ty #[.slice base 0 cp, x]).run P w = .ok (.slice (some ⟨w.heap.size, 0, none⟩) m (grownCap w m cp e)) w' ∧
      w'.ownsRow 0 e i.size (.slice (some ⟨w.heap.size, 0, none⟩) m (grownCap w m cp e)) m news ∧ (∀ row, w.grownBy w' row) := by
    intro base cp hf hlt
    have hr := run_append_grow_src (P := P) w t tx ty e i z ht hi hz base 0 cp [] hf x m news hs (by omega) (by unfold maxLen at h63; omega) (growslice_fits (by omega) (by rw [Nat.zero_add]; exact hbytes))
    simp only [Nat.zero_add, List.nil_append] at hr
    refine ⟨_, hr, ⟨hs.newsLen, .inr ⟨w.heap.size, _, _, rfl, Nat.zero_le _, heap_alloc_new w.drew _, grownCap_ge w m cp e, grownCap_le_maxLen w m cp e h63, ?_, ?_⟩⟩, fun row => ⟨rfl, rfl, rfl, by simp, fun k hk _ => heap_alloc_old w.drew _ hk⟩⟩
    · have hge := grownCap_ge w m cp e
      simp only [Array.size_append, List.size_toArray, size_zeroCells, hzs, hs.newsLen, ← Nat.add_mul]
      congr 1
      omega
    · simp only [Array.toList_append]
      rw [← hs.newsLen]
      exact List.take_left
  rcases hown.2 with ⟨rfl, _⟩ | ⟨g, cap, cur, rfl, _, hg, hnc, hcm, hcs, htake⟩
  · obtain ⟨w', h1, h2, h3⟩ := grow none 0 (by rw [run_firstCells_none]) hm
    exact ⟨_, _, w', h1, h2, h3 _, .inr rfl⟩
  · by_cases hroom : m ≤ cap
    · have hfit : 0 * i.size + news.length ≤ cur.size := by rw [hs.newsLen, hcs, Nat.zero_mul, Nat.zero_add]; exact Nat.mul_le_mul_right _ hroom
      have hr := run_append_room_src (P := P) w t tx ty e i ht hi g 0 0 cap x m news hs (by omega)
        (fun j hj => by simp only [World.cell?, hg]; rw [Array.getElem?_eq_getElem (by omega)]; rfl) (fun j _ => by simp [World.frozen?, hg])
      obtain ⟨cur', k1, k2, k3, k4⟩ := setCells_block g e news (0 + 0 * i.size) w cur hg (by omega)
      rw [Nat.zero_add] at hr
      refine ⟨g, cap, _, hr, ⟨hs.newsLen, .inr ⟨g, cap, cur', rfl, Nat.zero_le _, k1, hroom, hcm, k2.trans hcs, ?_⟩⟩, k4, .inl rfl⟩
      rw [← hs.newsLen]
      simpa using k3
    · obtain ⟨w', h1, h2, h3⟩ := grow (some ⟨g, 0, none⟩) cap (run_firstCells_some w.drew i.size 0 ⟨g, 0, none⟩ 0 cap [] (by simp) (fun j u hu => by simp at hu)) (by omega)
      exact ⟨_, _, w', h1, h2, h3 _, .inr rfl⟩
theorem wp_append_srcm {P : Program} {w : World} {o : Oper} {a : Act} {K : Act → World → Prop} {Q : Exit → Act → World → Prop} (s x : Operand) (t tx : TypeId)
    (ho : o.op = .call { callee := .builtin .append, args := #[s, x], argTypes := #[t, tx] })
    (e : TypeId) (i : TypeInfo) (z : Value) (size bytes : Nat) (ht : P.underlying t = some (.slice e)) (hi : P.info? e = some i) (hz : i.zero = some z)
    (hsize : i.size = size) (hby : i.bytes = bytes) (hzs : z.cells.size = size)
    (v : Value) (n : Nat) (xs : List Value) (hs : a.eval s = v) (hown : w.ownsRow 0 e size v n xs)
    (vx : Value) (m : Nat) (news : List Value) (hx : a.eval x = vx) (hsrc : Src P size tx vx m news w)
    (hm : 0 < m) (h63 : n + m ≤ maxLen) (hbytes : (n + m) * bytes ≤ 140737488355328)
    (h : ∀ g cap w', w'.ownsRow 0 e size (.slice (some ⟨g, 0, none⟩) (n + m) cap) (n + m) (xs ++ news) → w.grownBy w' v.ownBlock → (v.ownBlock = some g ∨ g = w.heap.size) → K (a.put o.dst (.slice (some ⟨g, 0, none⟩) (n + m) cap)) w') : o.wp P a w K Q := by
  obtain ⟨g, cap, w', hr, h2, h3, h4⟩ := run_append_srcm P w t tx o.type e i z size bytes ht hi hz hsize hby hzs v n xs hown vx m news hsrc hm h63 hbytes
  unfold Oper.wp execOp
  simp only [ho, resolve, invoke, builtin, Sem.run_bind, Sem.run_pure, Result.andThen_ok, List.map_toArray, List.map_cons, List.map_nil, hs, hx, hr]
  exact h g cap w' h2 h3 h4
theorem wpList_append_srcm {P : Program} {w : World} {ops : Array Oper} {rest : List Oper} {o : Oper} {a : Act} {Q : Exit → Act → World → Prop} (hgd : o.guard = none) (s x : Operand) (t tx : TypeId)
    (ho : o.op = .call { callee := .builtin .append, args := #[s, x], argTypes := #[t, tx] })
    (e : TypeId) (i : TypeInfo) (z : Value) (size bytes : Nat) (ht : P.underlying t = some (.slice e)) (hi : P.info? e = some i) (hz : i.zero = some z)
    (hsize : i.size = size) (hby : i.bytes = bytes) (hzs : z.cells.size = size)
    (v : Value) (n : Nat) (xs : List Value) (hs : a.eval s = v) (hown : w.ownsRow 0 e size v n xs)
    (vx : Value) (m : Nat) (news : List Value) (hx : a.eval x = vx) (hsrc : Src P size tx vx m news w)
    (hm : 0 < m) (h63 : n + m ≤ maxLen) (hbytes : (n + m) * bytes ≤ 140737488355328)
    (h : ∀ g cap w', w'.ownsRow 0 e size (.slice (some ⟨g, 0, none⟩) (n + m) cap) (n + m) (xs ++ news) → w.grownBy w' v.ownBlock → (v.ownBlock = some g ∨ g = w.heap.size) → wpList P ops Q rest (a.put o.dst (.slice (some ⟨g, 0, none⟩) (n + m) cap)) w') : wpList P ops Q (o :: rest) a w :=
  wpList_plain hgd fun _ hK => wp_append_srcm s x t tx ho e i z size bytes ht hi hz hsize hby hzs v n xs hs hown vx m news hx hsrc hm h63 hbytes fun g cap w' h2 h3 h4 => hK _ _ (h g cap w' h2 h3 h4)
end Go.Px
namespace Go.Proofs.YtahojodgmjmpnaaDoor
open Go.RowKit Go.Px

theorem bytes_S (l : Bytes) : byteCells ⟨l.toArray⟩ = l.flatMap cByte := by
  unfold byteCells
  induction l with
  | nil => rfl
  | cons a t ih => simpa [cByte] using ih
/-- The stack, the value that is looked at, the text told so far. -/
structure EV (w wr : World) (vb : Nat) (x : Val) (vs : Value) (ps : List (E6.Op × Value)) (st : List E6.Op) (vo : Value) (out : Bytes) : Prop where
  sv : SV w wr vb x vs ps st
  out : Mine w wr vo out
  ap : ∀ k, vo.ownBlock = some k → some k ∉ sbl vs ps ∧ k ≠ vb
/-- The same without a value. -/
structure EW (w wr : World) (vs : Value) (ps : List (E6.Op × Value)) (st : List E6.Op) (vo : Value) (out : Bytes) : Prop where
  stk : Stk w wr vs ps st
  out : Mine w wr vo out
  ap : ∀ k, vo.ownBlock = some k → some k ∉ sbl vs ps
section
variable {w wr w2 : World} {vs vs' vo : Value} {ps rest : List (E6.Op × Value)} {st r : List E6.Op} {o o' : E6.Op} {vn : Value} {g cap gg L m vb : Nat} {out t : Bytes} {RL news : List Value} {x : Val}
theorem Mine.lt (h : Mine w wr vo out) {k : Nat} (hk : vo.ownBlock = some k) : k < wr.heap.size := h.own.lt hk
theorem Mine.keep (h : Mine w wr vo out) {F : Nat → Prop} (hf : Fr F wr w2) (hF : ∀ k, vo.ownBlock = some k → ¬ F k) (hs : Same w w2) : Mine w w2 vo out :=
  ⟨Owns.keep h.own fun k e => hf.block k (h.lt e) (hF k e), hs, h.new⟩
theorem EW.look (h : EW w wr vs ps st vo out) (x : Val) : EV w (wr.alloc (.cells #[.int .i64 x.kind, .int .i64 x.kids, S x.text] 58 (0, 0))) wr.heap.size x vs ps st vo out :=
  ⟨SV.new h.stk x, h.out.sm ((Same.refl wr).alloc _), fun k e => ⟨h.ap k e, fun e2 => by have := h.out.lt e; omega⟩⟩
theorem EV.forget (h : EV w wr vb x vs ps st vo out) : EW w wr vs ps st vo out := ⟨h.sv.stk, h.out, fun k e => (h.ap k e).1⟩
theorem EV.sm (h : EV w wr vb x vs ps st vo out) (hs : Same wr w2) : EV w w2 vb x vs ps st vo out := ⟨h.sv.sm hs, h.out.sm hs, h.ap⟩
theorem EW.sm (h : EW w wr vs ps st vo out) (hs : Same wr w2) : EW w w2 vs ps st vo out := ⟨h.stk.sm hs, h.out.sm hs, h.ap⟩
theorem EW.app (h : EW w wr vs ps st vo out) (hL : out.length = L) (hRL : out.flatMap cByte = RL) (hn : news = t.flatMap cByte) (hm : m = t.length)
    (hown : w2.ownsRow 0 5 1 (.slice (some ⟨gg, 0, none⟩) (L + m) cap) (L + m) (RL ++ news)) (hg : wr.grownBy w2 vo.ownBlock) (hat : vo.ownBlock = some gg ∨ wr.heap.size ≤ gg) :
    EW w w2 vs ps st (.slice (some ⟨gg, 0, none⟩) (L + m) cap) (out ++ t) := by
  have hM := h.out.app hL hRL hn hm hown hg hat
  have hf : Fr (fun k => vo.ownBlock = some k) wr w2 := (Fr.refl _ wr).grown hg (fun k e => .inl e)
  refine ⟨h.stk.keep hf (fun k e => h.ap k e) hM.same, hM, fun k e => ?_⟩
  simp only [Value.ownBlock, Option.some.injEq] at e
  subst e
  rcases hat with e | e
  · exact h.ap _ e
  · exact fun hk => by have := h.stk.lt hk; omega
theorem EV.app (h : EV w wr vb x vs ps st vo out) (hL : out.length = L) (hRL : out.flatMap cByte = RL) (hn : news = t.flatMap cByte) (hm : m = t.length)
    (hown : w2.ownsRow 0 5 1 (.slice (some ⟨gg, 0, none⟩) (L + m) cap) (L + m) (RL ++ news)) (hg : wr.grownBy w2 vo.ownBlock) (hat : vo.ownBlock = some gg ∨ wr.heap.size ≤ gg) :
    EV w w2 vb x vs ps st (.slice (some ⟨gg, 0, none⟩) (L + m) cap) (out ++ t) := by
  have hW := h.forget.app hL hRL hn hm hown hg hat
  refine ⟨⟨hW.stk, (hg.block vb h.sv.lt (fun e => (h.ap vb e.symm).2 rfl)).trans h.sv.val, h.sv.nb⟩, hW.out, fun k e => ⟨hW.ap k e, fun e2 => ?_⟩⟩
  simp only [Value.ownBlock, Option.some.injEq] at e
  subst e
  rcases hat with e | e
  · exact (h.ap _ e).2 e2
  · have := h.sv.lt; omega
theorem EV.tell (h : EV w wr vb x (.slice (some ⟨g, 0, none⟩) (rest.length + 1) cap) ((o, vn) :: rest) st vo out) (hm : rest.map Prod.fst = r) :
    EV w (wr.setCell ⟨g, rest.length * 4 + 2, none⟩ (.int .i64 ((o.told : Int) + 1))) vb x (.slice (some ⟨g, 0, none⟩) (rest.length + 1) cap) (({ o with told := o.told + 1 }, vn) :: rest) ({ o with told := o.told + 1 } :: r) vo out := by
  have hs := h.sv.tell hm
  refine ⟨hs, h.out.keep (F := fun k => k = g) (Fr.setCell (Fr.refl (fun k => k = g) wr) (p := ⟨g, rest.length * 4 + 2, none⟩) (.inl rfl) _) (fun k e e2 => (h.ap k e).1 (mem_sbl.2 (.inl (by rw [e2]; rfl)))) hs.stk.same, fun k e => ⟨fun hk => (h.ap k e).1 (by simpa [sbl, opB] using hk), (h.ap k e).2⟩⟩
theorem EV.push (h : EV w wr vb x vs ps st vo out) (ho : o.names = [])
    (hown : w2.ownsRow 0 66 4 (.slice (some ⟨g, 0, none⟩) (ps.length + 1) cap) (ps.length + 1) (ps.reverse.flatMap cOp ++ cOp (o, .slice none 0 0)))
    (hg : wr.grownBy w2 vs.ownBlock) (hat : vs.ownBlock = some g ∨ wr.heap.size ≤ g) : EV w w2 vb x (.slice (some ⟨g, 0, none⟩) (ps.length + 1) cap) ((o, .slice none 0 0) :: ps) (o :: st) vo out := by
  have hs := h.sv.push ho hown hg hat
  refine ⟨hs, h.out.keep (F := fun k => vs.ownBlock = some k) ((Fr.refl _ wr).grown hg (fun k e => .inl e)) (fun k e e2 => (h.ap k e).1 (mem_sbl.2 (.inl e2))) hs.stk.same, fun k e => ⟨fun hk => ?_, (h.ap k e).2⟩⟩
  rcases mem_sbl.1 hk with y | y
  · simp only [Value.ownBlock, Option.some.injEq] at y
    subst y
    rcases hat with e3 | e3
    · exact (h.ap _ e).1 (mem_sbl.2 (.inl e3))
    · have := h.out.lt e; omega
  · obtain ⟨p, hp, e3⟩ := mem_opB.1 y
    rcases List.mem_cons.1 hp with rfl | hp
    · cases e3
    · exact (h.ap k e).1 (mem_sbl.2 (.inr (mem_opB.2 ⟨p, hp, e3⟩)))
theorem EW.pop {p : E6.Op × Value} (h : EW w wr (.slice (some ⟨g, 0, none⟩) (rest.length + 1) cap) (p :: rest) st vo out) : EW w wr (.slice (some ⟨g, 0, none⟩) rest.length cap) rest (rest.map Prod.fst) vo out := by
  refine ⟨h.stk.pop, h.out, fun k e hk => h.ap k e ?_⟩
  rcases mem_sbl.1 hk with y | y
  · exact mem_sbl.2 (.inl y)
  · obtain ⟨q, hq, e2⟩ := mem_opB.1 y
    exact mem_sbl.2 (.inr (mem_opB.2 ⟨q, List.mem_cons_of_mem _ hq, e2⟩))
end
theorem ew_nil (w : World) : EW w w (.slice none 0 0) [] [] (.slice none 0 0) [] :=
  ⟨stk_nil w, ⟨owns_nil _ _ _ _, Same.refl w, (fun g e => by cases e)⟩, fun k e => by cases e⟩
end Go.Proofs.YtahojodgmjmpnaaDoor

/-! The walk over json.Encode (printed by gen_ee.py). -/
namespace Go.Proofs.YtahojodgmjmpnaaDoor
open Go.RowKit Go.Px

theorem Mine.rowL {w wr : World} {v : Value} {out : Bytes} {L : Nat} {RL : List Value} (h : Mine w wr v out) (hL : out.length = L) (hRL : out.flatMap cByte = RL) : wr.ownsRow 0 5 1 v L RL := by
  have := h.own
  unfold Owns at this
  rw [hRL, hL] at this
  exact this
theorem grown_free1 {w w1 : World} {o : Obj} {row : Option Nat} (hg : (w.alloc o).grownBy w1 row) {a : Addr} {v : Value} (hc : w.cell? a = some v) (hf : w.frozen? a = false) (hne : row ≠ some a.block) : w1.frozen? a = false :=
  (World.frozen?_of_block ((grown_alloc1 hg).block a.block (World.block_lt_of_cell? w a hc) (Ne.symm hne))).trans hf
/-- The world that the stack lies in. -/
def EW.world {w wr : World} {vs vo : Value} {ps : List (E6.Op × Value)} {st : List E6.Op} {out : Bytes} (_ : EW w wr vs ps st vo out) : World := wr
theorem encN_cons {l : List Val} {k : Nat} {st : List E6.Op} {out : Bytes} (hk : k < l.length) : E6.encN (l.drop k) st out =
    if 262144 < out.length ∨ 262144 < l[k].text.length then none
    else E6.encN (l.drop (k + 1)) (E6.close (E6.push l[k] (E6.more st))) (out ++ E6.ahead st ++ E6.body l[k] ++ E6.ends (E6.push l[k] (E6.more st))) := by
  rw [List.drop_eq_getElem_cons hk, E6.encN]
theorem more_len (st : List E6.Op) : (E6.more st).length = st.length := by cases st <;> rfl
theorem shape_right : ∀ (l : List Val) (first : Bool) (st : List E6.Op) (most m : Nat), E6.shapeN l first st most = (m, true) → ∀ a ∈ l, E6.right a = true
  | [], _, _, _, _, _, _, ha => by cases ha
  | v :: r, first, st, most, m, h, a, ha => by
    rw [E6.shapeN] at h
    by_cases hg : ((!first && st.isEmpty) || !E6.right v) = true
    · rw [if_pos hg] at h; cases h
    · rw [if_neg hg] at h
      have hv : E6.right v = true := by
        cases hr : E6.right v with
        | true => rfl
        | false => rw [hr] at hg; simp at hg
      cases he : E6.enter v st with
      | none => rw [he] at h; cases h
      | some st2 =>
        rw [he] at h
        rcases List.mem_cons.1 ha with rfl | ha
        · exact hv
        · exact shape_right r _ _ _ m h a ha
theorem right_num {x : Val} (h : E6.right x = true) (hk : x.kind = 3) : 0 < x.text.length := by
  obtain ⟨k, n, t⟩ := x
  simp only at hk
  subst hk
  cases t with
  | nil => simp [E6.right] at h; exact absurd h.2 (by decide)
  | cons c r => simp
theorem told_len (s : Bytes) : (E6.told s).length ≤ 6 * s.length + 2 := by
  unfold E6.told
  have := toldN_len s
  rw [List.length_append, List.length_cons, List.length_singleton]
  omega
theorem told_pos (s : Bytes) : 0 < (E6.told s).length := by unfold E6.told; simp
/-- The ways of what stands ahead of a value. -/
theorem ahead_ways (o : E6.Op) (r : List E6.Op) : (o.kind = 6 ∧ o.told % 2 = 1 ∧ E6.ahead (o :: r) = [58]) ∨ (o.kind = 6 ∧ o.told % 2 = 0 ∧ 0 < o.told ∧ E6.ahead (o :: r) = [44]) ∨ (o.kind ≠ 6 ∧ 0 < o.told ∧ E6.ahead (o :: r) = [44]) ∨
    (o.kind = 6 ∧ o.told % 2 = 0 ∧ ¬ 0 < o.told ∧ E6.ahead (o :: r) = []) ∨ (o.kind ≠ 6 ∧ ¬ 0 < o.told ∧ E6.ahead (o :: r) = []) := by
  have e : E6.ahead (o :: r) = if o.kind == 6 && o.told % 2 == 1 then [58] else if 0 < o.told then [44] else [] := rfl
  rw [e]
  by_cases h1 : o.kind = 6
  · rcases Nat.mod_two_eq_zero_or_one o.told with h2 | h2
    · have b : (o.kind == 6 && o.told % 2 == 1) = false := by simp [h2]
      rw [b]
      by_cases h3 : 0 < o.told
      · exact .inr (.inl ⟨h1, h2, h3, by simp [h3]⟩)
      · exact .inr (.inr (.inr (.inl ⟨h1, h2, h3, by simp [h3]⟩)))
    · exact .inl ⟨h1, h2, by simp [h1, h2]⟩
  · have b : (o.kind == 6 && o.told % 2 == 1) = false := by simp [h1]
    rw [b]
    by_cases h3 : 0 < o.told
    · exact .inr (.inr (.inl ⟨h1, h3, by simp [h3]⟩))
    · exact .inr (.inr (.inr (.inr ⟨h1, h3, by simp [h3]⟩)))
def OkE (k : Nat) (o : E6.Op) : Prop := o.told ≤ k ∧ -9223372036854775808 ≤ o.all ∧ o.all ≤ 9223372036854775807
/-- What holds at the head of Encode's loop. -/
structure EncJ (w wr : World) (v6 v7 : Value) (l : List Val) (k n L : Nat) (ps : List (E6.Op × Value)) (st : List E6.Op) (out : Bytes) : Prop where
  ew : EW w wr v6 ps st v7 out
  eq : E6.encN l [] [] = E6.encN (l.drop k) st out
  n : n = st.length
  L : L = out.length
  len : st.length ≤ k
  ok : ∀ o ∈ st, OkE k o
/-- What Encode hands back, and how. -/
def EncPost (w : World) (l : List Val) (e : Ending) (w' : World) : Prop := e = .returned (.tuple #[S (E6.encode l).1, .int .i64 (E6.encode l).2]) ∧ Same w w'
theorem encPost_of {w w' : World} {l : List Val} {e : Ending} {s : Bytes} {n : Int} (h : E6.encode l = (s, n)) (he : e = .returned (.tuple #[S s, .int .i64 n])) (hs : Same w w') : EncPost w l e w' := by
  unfold EncPost
  rw [h]
  exact ⟨he, hs⟩
set_option maxRecDepth 100000 in
set_option maxHeartbeats 16000000 in
theorem eencode_any (v : Value) (l : List Val) (w : World) (h : Lies w 3 cVal v l) (hw : ∀ a ∈ l, Fair a) (hT : Tabs w) : Calls Tryd.prog 13 #[v] w (EncPost w l) := by
  obtain ⟨va, vc, hv, hv1, hv2⟩ := h.slice
  subst hv
  unfold maxLen at hv2
  have H := Px.hid (And.intro h (And.intro hw hT))
  clear h hw hT
  by_cases hlong : 4096 < l.length
  · have HE := Px.hid (show E6.encode l = ([], 10) by unfold E6.encode; rw [if_pos hlong])
    have z : (4096 : Int) < (l.length : Int) := by omega
    clear hlong
    go_enter Tryd.func13, Tryd.ntmps13
    go_wp2
    go_ret2
    exact encPost_of HE.out rfl (Same.refl w)
  have hl : l.length ≤ 4096 := by omega
  have z : ¬ (4096 : Int) < (l.length : Int) := by omega
  have HSC := Px.hid (eshape_any _ l w H.out.1 hl H.out.2.1 H.out.2.2)
  obtain ⟨mo, ok, hsh⟩ : ∃ mo ok, E6.shape l = (mo, ok) := ⟨_, _, rfl⟩
  rw [hsh] at HSC
  have HE := Px.hid (show E6.encode l = if !ok then (([], 9) : Bytes × Int) else if 32 < mo then ([], 10) else match E6.encN l [] [] with | none => ([], 10) | some s => (s, 0) by unfold E6.encode; rw [if_neg hlong, hsh]; rfl)
  have HAQ := Px.hid (show ok = true → ∀ a ∈ l, E6.right a = true from fun e => shape_right l true [] 0 mo (by subst e; exact hsh))
  clear hsh hlong
  cases ok with
  | false =>
    have HE := Px.hid (show E6.encode l = ([], 9) by rw [HE.out]; rfl)
    go_enter Tryd.func13, Tryd.ntmps13
    go_wp2_with fail
    refine HSC.out.mono ?_
    rintro e w1 ⟨rfl, hs⟩
    have HS := Px.hid hs
    clear hs
    go_wp2
    go_ret2
    exact encPost_of HE.out rfl HS.out
  | true =>
  by_cases hdeep : 32 < mo
  · have z2 : (32 : Int) < (mo : Int) := by omega
    have HE := Px.hid (show E6.encode l = ([], 10) by rw [HE.out]; simp [hdeep])
    clear hdeep
    go_enter Tryd.func13, Tryd.ntmps13
    go_wp2_with fail
    refine HSC.out.mono ?_
    rintro e w1 ⟨rfl, hs⟩
    have HS := Px.hid hs
    clear hs
    go_wp2
    go_ret2
    exact encPost_of HE.out rfl HS.out
  have z2 : ¬ (32 : Int) < (mo : Int) := by omega
  have HAR := Px.hid (HAQ.out rfl)
  clear HAQ
  have HE := Px.hid (show E6.encode l = match E6.encN l [] [] with | none => (([], 10) : Bytes × Int) | some s => (s, 0) by rw [HE.out]; simp [hdeep])
  have HN := Px.hid (show E6.encN l [] [] = none → E6.encode l = ([], 10) from fun e => by rw [HE.out, e])
  have HY := Px.hid (fun s => show E6.encN l [] [] = some s → E6.encode l = (s, 0) from fun e => by rw [HE.out, e])
  obtain ⟨i0, hi0, hz0, hz1, hz2⟩ := info_parts Tryd.infoOpen
  obtain ⟨k0, hk0, hku, hk1, hk2⟩ := info_parts Tryd.infoU8
  clear HE hdeep
  go_enter Tryd.func13, Tryd.ntmps13
  go_wp2_with fail
  refine HSC.out.mono ?_
  rintro e w1 ⟨rfl, hs1⟩
  have HS1 := Px.hid hs1
  have HT1 := Px.hid (lies_same H.out.1 hs1)
  clear hs1 HSC
  go_wp2
  obtain ⟨w0, hw0⟩ : ∃ w0 : World, w0 = w1 := ⟨_, rfl⟩
  rw [← hw0] at HT1
  have HS1 := Px.hid (show Same w w0 by rw [hw0]; exact HS1.out)
  go_loopg [6, 7, 27] (l.length + 1) (fun gk v6 v7 i wr => ∃ (k n L : Nat) (a6 a7 : Option Addr) (c6 c7 : Nat) (ps : List (E6.Op × Value)) (st : List E6.Op) (out : Bytes), gk + k = l.length + 1 ∧ k ≤ l.length ∧ i = .int .i64 (k : Nat) ∧ v6 = .slice a6 n c6 ∧ v7 = .slice a7 L c7 ∧ n ≤ 4096 ∧ L ≤ 2000000 ∧ Hid (EncJ w0 wr v6 v7 l k n L ps st out))
  case atStart => exact ⟨0, 0, 0, none, none, 0, 0, [], [], [], rfl, Nat.zero_le _, rfl, rfl, rfl, by omega, by omega, Px.hid ⟨by rw [hw0]; exact ew_nil w1, by rw [List.drop_zero], rfl, rfl, Nat.le_refl _, (fun o ho => by cases ho)⟩⟩
  case round =>
    clear hw0
    obtain ⟨k, n, L, a6, a7, c6, c7, ps, st, out, hgk, hk, rfl, rfl, rfl, hn4, hL2, HS⟩ := hrel
    have HG := Px.hid hgk
    clear hgk
    obtain ⟨RL, hRL⟩ : ∃ RL, out.flatMap cByte = RL := ⟨_, rfl⟩
    have HRL := Px.hid hRL
    clear hRL
    by_cases hlt : k < l.length
    · have hlz : (k : Int) < (l.length : Int) := by omega
      obtain ⟨xb, xo, xc, hve, hxb, hcx⟩ := (lies_same HT1.out HS.out.ew.stk.same).cell k l[k] (by simp [hlt])
      simp only [Value.slice.injEq, true_and] at hve
      obtain ⟨rfl, rfl⟩ := hve
      have x0 := hcx 0 _ rfl
      have x1 := hcx 1 _ rfl
      have x2 := hcx 2 _ rfl
      rw [← Nat.add_assoc] at x0 x1 x2
      rw [Nat.add_zero] at x0
      obtain ⟨x, hx⟩ : ∃ x, x = l[k] := ⟨_, rfl⟩
      rw [← hx] at x0 x1 x2
      have hxl := H.out.2.1 x (by rw [hx]; exact List.getElem_mem _)
      have HRX := Px.hid (HAR.out x (by rw [hx]; exact List.getElem_mem _))
      have hst := encN_cons (st := st) (out := out) hlt
      rw [← hx, ← HS.out.eq] at hst
      have HX := Px.hid (And.intro hxl hst)
      clear hcx hx hxl hst
      go_upto_region 13 with fail
      obtain ⟨g', rfl⟩ : ∃ g', gk = g' + 1 := ⟨gk - 1, by have := HG.out; omega⟩
      obtain ⟨vb, hvbe⟩ : ∃ vb, wr.heap.size = vb := ⟨_, rfl⟩
      obtain ⟨WX, hWX⟩ : ∃ WX, WX = wr.alloc (.cells #[.int .i64 x.kind, .int .i64 x.kids, S x.text] 58 (0, 0)) := ⟨_, rfl⟩
      have HV := Px.hid (show EV w0 WX vb x (.slice a6 n c6) ps st (.slice a7 L c7) out by rw [hWX, ← hvbe]; exact EW.look HS.out.ew x)
      rw [← hWX, hvbe]
      clear hWX x0 x1 x2 hvbe
      have x0 := cellOf HV.out.sv.val 0 rfl
      have x1 := cellOf HV.out.sv.val 1 rfl
      have x2 := cellOf HV.out.sv.val 2 rfl
      have hvb : vb < WX.heap.size := HV.out.sv.lt
      have hszx : (ByteArray.mk x.text.toArray).size = x.text.length := size_S x.text
      by_cases hA : 262144 < L
      · have zA : (262144 : Int) < (L : Int) := by omega
        have HR := Px.hid (HN.out (by rw [HX.out.2, if_pos (.inl (by rw [← HS.out.L]; exact hA))]))
        clear hA
        go_wp2
        go_ret2
        exact encPost_of HR.out rfl (HS1.out.trans HV.out.out.same)
      have zA : ¬ (262144 : Int) < (L : Int) := by omega
      by_cases hB : 262144 < x.text.length
      · have zB : (262144 : Int) < (x.text.length : Int) := by omega
        have HR := Px.hid (HN.out (by rw [HX.out.2, if_pos (.inr hB)]))
        clear hA hB
        go_wp2
        go_ret2
        exact encPost_of HR.out rfl (HS1.out.trans HV.out.out.same)
      have zB : ¬ (262144 : Int) < (x.text.length : Int) := by omega
      have hLb : L ≤ 262144 := by omega
      have hxt : x.text.length ≤ 262144 := by omega
      have HEQ := Px.hid (show E6.encN l [] [] = E6.encN (l.drop (k + 1)) (E6.close (E6.push x (E6.more st))) (out ++ E6.ahead st ++ E6.body x ++ E6.ends (E6.push x (E6.more st))) by rw [HX.out.2, if_neg (by rw [← HS.out.L]; omega)])
      have HFX := Px.hid HX.out.1
      clear hA hB HX
      go_upto_if 43 with fail
      go_cut [7, 11] (fun v7 v11 wx => ∃ (a7 : Option Addr) (c7 L : Nat) (ps2 : List (E6.Op × Value)), v7 = .slice a7 L c7 ∧ L ≤ 262145 ∧ Hid (EV w0 wx vb x (.slice a6 n c6) ps2 (E6.more st) v7 (out ++ E6.ahead st) ∧ L = (out ++ E6.ahead st).length))
      case first =>
        cases st with
        | nil =>
          obtain rfl : n = 0 := HS.out.n
          go_wp2_with fail
          go_meet
          exact ⟨_, _, _, ps, rfl, by omega, Px.hid ⟨by show EV _ _ _ _ _ _ _ _ (out ++ []); rw [List.append_nil]; exact HV.out, by show _ = (out ++ []).length; rw [List.append_nil]; exact HS.out.L⟩⟩
        | cons o r =>
          obtain ⟨vn, rest, hps, hmr⟩ : ∃ vn rest, ps = (o, vn) :: rest ∧ rest.map Prod.fst = r := by
            have hm := HV.out.sv.stk.fms
            cases ps with
            | nil => cases hm
            | cons p rest =>
              obtain ⟨o', vn⟩ := p
              simp only [List.map_cons, List.cons.injEq] at hm
              obtain ⟨rfl, hm⟩ := hm
              exact ⟨vn, rest, rfl, hm⟩
          subst hps
          obtain ⟨g, cp, hve, q1, q2, t0, t1, t2, t3, tf, hgl⟩ := HV.out.sv.stk.topCells
          simp only [Value.slice.injEq] at hve
          obtain ⟨rfl, rfl, rfl⟩ := hve
          obtain ⟨ho1, ho2, ho3⟩ := HS.out.ok o (List.mem_cons_self ..)
          have HMR := Px.hid hmr
          unfold maxLen at q2
          have hr4 : rest.length ≤ 4096 := by omega
          have htb : (o.told : Int) ≤ 4096 := by omega
          have htw : IntKind.i64.wrap ((o.told : Int) + 1) = (o.told : Int) + 1 := IntWalk.i64_in _ ⟨by omega, by omega⟩
          have f2 := tf (rest.length * 4 + 2)
          have HRO := Px.hid (HV.out.out.rowL HS.out.L.symm HRL.out)
          have HLL := Px.hid HS.out.L.symm
          have hgnv : (Value.slice a7 L c7).ownBlock ≠ some g := fun e => (HV.out.ap g e).1 (mem_sbl.2 (.inl rfl))
          have HGN := Px.hid hgnv
          clear ho1 ho2 ho3 hmr t1 t3 tf hgnv
          rcases ahead_ways o r with ⟨a1, a2, a4⟩ | ⟨a1, a2, a3, a4⟩ | ⟨a1, a3, a4⟩ | ⟨a1, a2, a3, a4⟩ | ⟨a1, a3, a4⟩
          · have HAE := Px.hid a4
            rw [a1] at t0
            have b2 : (o.told : Int).tmod 2 = 1 := by rw [Int.tmod_eq_emod_of_nonneg (by omega)]; omega
            clear a1 a2 a4
            go_wp2_with (at_builtin; go_must (refine wpList_append_lies _ rfl _ _ _ rfl 0 5 k0 _ 1 1 Tryd.underlying62 hk0 hku hk1 hk2 rfl (by omega) (.slice a7 L c7) L RL rfl (HRO.out.alloc _) ⟨WX.heap.size, 0, none⟩ 1 1 [.int .u8 58] rfl rfl (World.news_of_block (cs := #[.int .u8 58]) (t := 5) (fr := (0, 0)) (heap_alloc_new WX _)) (by simp [Value.oneCell']) (by omega) (by unfold maxLen; omega) (by omega) (by omega) (WX.heap.size + 1) (by simp) ?_))
            intro gg cap WY hown1 hgrow hat hlt1
            have k2 : WY.cell? ⟨g, rest.length * 4 + 2, none⟩ = some (.int .i64 (o.told : Nat)) := (grown_alloc1 hgrow).cell t2 (Ne.symm HGN.out)
            have e2 : WY.frozen? ⟨g, rest.length * 4 + 2, none⟩ = false := grown_free1 hgrow t2 f2 HGN.out
            have HP := Px.hid (HV.out.app (t := [58]) HLL.out HRL.out rfl rfl hown1 (grown_alloc1 (w := WX) hgrow) (hat.imp id (fun e => by omega)))
            clear hown1 hgrow hat t2 f2
            go_wp2_with fail
            go_meet
            exact ⟨_, _, _, _, rfl, by omega, Px.hid ⟨by rw [HAE.out]; exact HP.out.tell HMR.out, by rw [HAE.out, List.length_append, HLL.out]; rfl⟩⟩
          · have HAE := Px.hid a4
            rw [a1] at t0
            have b2 : (o.told : Int).tmod 2 = 0 := by rw [Int.tmod_eq_emod_of_nonneg (by omega)]; omega
            have b3 : (0 : Int) < o.told := by omega
            clear a1 a2 a3 a4
            go_wp2_with (at_builtin; go_must (refine wpList_append_lies _ rfl _ _ _ rfl 0 5 k0 _ 1 1 Tryd.underlying62 hk0 hku hk1 hk2 rfl (by omega) (.slice a7 L c7) L RL rfl (HRO.out.alloc _) ⟨WX.heap.size, 0, none⟩ 1 1 [.int .u8 44] rfl rfl (World.news_of_block (cs := #[.int .u8 44]) (t := 5) (fr := (0, 0)) (heap_alloc_new WX _)) (by simp [Value.oneCell']) (by omega) (by unfold maxLen; omega) (by omega) (by omega) (WX.heap.size + 1) (by simp) ?_))
            intro gg cap WY hown1 hgrow hat hlt1
            have k2 : WY.cell? ⟨g, rest.length * 4 + 2, none⟩ = some (.int .i64 (o.told : Nat)) := (grown_alloc1 hgrow).cell t2 (Ne.symm HGN.out)
            have e2 : WY.frozen? ⟨g, rest.length * 4 + 2, none⟩ = false := grown_free1 hgrow t2 f2 HGN.out
            have HP := Px.hid (HV.out.app (t := [44]) HLL.out HRL.out rfl rfl hown1 (grown_alloc1 (w := WX) hgrow) (hat.imp id (fun e => by omega)))
            clear hown1 hgrow hat t2 f2
            go_wp2_with fail
            go_meet
            exact ⟨_, _, _, _, rfl, by omega, Px.hid ⟨by rw [HAE.out]; exact HP.out.tell HMR.out, by rw [HAE.out, List.length_append, HLL.out]; rfl⟩⟩
          · have HAE := Px.hid a4
            have b1 : (o.kind == 6) = false := by simpa using a1
            have b3 : (0 : Int) < o.told := by omega
            clear a1 a3 a4
            go_wp2_with (at_builtin; go_must (refine wpList_append_lies _ rfl _ _ _ rfl 0 5 k0 _ 1 1 Tryd.underlying62 hk0 hku hk1 hk2 rfl (by omega) (.slice a7 L c7) L RL rfl (HRO.out.alloc _) ⟨WX.heap.size, 0, none⟩ 1 1 [.int .u8 44] rfl rfl (World.news_of_block (cs := #[.int .u8 44]) (t := 5) (fr := (0, 0)) (heap_alloc_new WX _)) (by simp [Value.oneCell']) (by omega) (by unfold maxLen; omega) (by omega) (by omega) (WX.heap.size + 1) (by simp) ?_))
            intro gg cap WY hown1 hgrow hat hlt1
            have k2 : WY.cell? ⟨g, rest.length * 4 + 2, none⟩ = some (.int .i64 (o.told : Nat)) := (grown_alloc1 hgrow).cell t2 (Ne.symm HGN.out)
            have e2 : WY.frozen? ⟨g, rest.length * 4 + 2, none⟩ = false := grown_free1 hgrow t2 f2 HGN.out
            have HP := Px.hid (HV.out.app (t := [44]) HLL.out HRL.out rfl rfl hown1 (grown_alloc1 (w := WX) hgrow) (hat.imp id (fun e => by omega)))
            clear hown1 hgrow hat t2 f2
            go_wp2_with fail
            go_meet
            exact ⟨_, _, _, _, rfl, by omega, Px.hid ⟨by rw [HAE.out]; exact HP.out.tell HMR.out, by rw [HAE.out, List.length_append, HLL.out]; rfl⟩⟩
          · have HAE := Px.hid a4
            rw [a1] at t0
            have b2 : (o.told : Int).tmod 2 = 0 := by rw [Int.tmod_eq_emod_of_nonneg (by omega)]; omega
            have b3 : ¬ (0 : Int) < o.told := by omega
            clear a1 a2 a3 a4
            go_wp2_with fail
            go_meet
            exact ⟨_, _, _, _, rfl, by omega, Px.hid ⟨by rw [HAE.out, List.append_nil]; exact HV.out.tell HMR.out, by rw [HAE.out, List.append_nil, HLL.out]⟩⟩
          · have HAE := Px.hid a4
            have b1 : (o.kind == 6) = false := by simpa using a1
            have b3 : ¬ (0 : Int) < o.told := by omega
            clear a1 a3 a4
            go_wp2_with fail
            go_meet
            exact ⟨_, _, _, _, rfl, by omega, Px.hid ⟨by rw [HAE.out, List.append_nil]; exact HV.out.tell HMR.out, by rw [HAE.out, List.append_nil, HLL.out]⟩⟩
      case rest =>
        obtain ⟨a7, c7, L, ps2, rfl, hL3, HV2⟩ := hcut
        have hvb2 : vb < wc.heap.size := HV2.out.1.sv.lt
        clear HV x0 x1 x2 hvb HRL
        have x0 := cellOf HV2.out.1.sv.val 0 rfl
        have x1 := cellOf HV2.out.1.sv.val 1 rfl
        have x2 := cellOf HV2.out.1.sv.val 2 rfl
        obtain ⟨out2, hout2⟩ : ∃ out2, out ++ E6.ahead st = out2 := ⟨_, rfl⟩
        rw [hout2] at HV2
        have HEQ := Px.hid (show E6.encN l [] [] = E6.encN (l.drop (k + 1)) (E6.close (E6.push x (E6.more st))) (out2 ++ E6.body x ++ E6.ends (E6.push x (E6.more st))) by rw [HEQ.out, hout2])
        clear hout2
        obtain ⟨RL, hRL⟩ : ∃ RL, out2.flatMap cByte = RL := ⟨_, rfl⟩
        have HRL := Px.hid hRL
        have HRO := Px.hid (HV2.out.1.out.rowL HV2.out.2.symm hRL)
        have HLL := Px.hid HV2.out.2.symm
        have HPL := Px.hid (show ps2.length = n by rw [HV2.out.1.sv.stk.plen, more_len, HS.out.n])
        clear hRL
        go_upto_block 3 with fail
        obtain ⟨K, hK⟩ : ∃ K, x.kind = K := ⟨_, rfl⟩
        rw [hK] at x0 ⊢
        have HK := Px.hid hK
        have HKB := Px.hid HFX.out.1
        clear hK
        go_cut [6, 7] (fun v6 v7 wx => ∃ (a6 a7 : Option Addr) (c6 c7 n3 L3 : Nat) (ps3 : List (E6.Op × Value)), v6 = .slice a6 n3 c6 ∧ v7 = .slice a7 L3 c7 ∧ n3 ≤ n + 1 ∧ L3 ≤ 1900000 ∧ Hid (EW w0 wx v6 ps3 (E6.push x (E6.more st)) v7 (out2 ++ E6.body x) ∧ n3 = (E6.push x (E6.more st)).length ∧ L3 = (out2 ++ E6.body x).length))
        case first =>
          have hks : K = 0 ∨ K = 1 ∨ K = 2 ∨ K = 3 ∨ K = 4 ∨ K = 5 ∨ (K ≠ 0 ∧ K ≠ 1 ∧ K ≠ 2 ∧ K ≠ 3 ∧ K ≠ 4 ∧ K ≠ 5) := by omega
          have HPS := Px.hid (show (0 ≤ x.kind ∧ x.kind ≤ 4) → E6.push x (E6.more st) = E6.more st from fun e => by unfold E6.push; rw [decide_eq_true e.1, decide_eq_true e.2]; rfl)
          have HPO := Px.hid (show ¬ (0 ≤ x.kind ∧ x.kind ≤ 4) → E6.push x (E6.more st) = ⟨x.kind, x.kids, 0, []⟩ :: E6.more st from fun e => by
            unfold E6.push
            rw [if_neg]
            simp only [Bool.and_eq_true, decide_eq_true_eq]
            exact e)
          have HNM := Px.hid (show (E6.more st).length = n by rw [more_len, HS.out.n])
          rcases hks with rfl | rfl | rfl | rfl | rfl | rfl | ⟨b0, b1, b2, b3, b4, b5⟩
          · have HB := Px.hid (show E6.body x = [110, 117, 108, 108] by unfold E6.body; rw [HK.out]; rfl)
            have HPS := Px.hid (HPS.out (by rw [HK.out]; omega))
            go_wp2_with (at_builtin; go_must (refine wpList_append_srcm rfl _ _ 62 9 rfl 5 k0 _ 1 1 Tryd.underlying62 hk0 hku hk1 hk2 rfl (.slice a7 L c7) L RL rfl HRO.out (.string { data := #[110, 117, 108, 108] }) 4 ((([110, 117, 108, 108] : Bytes)).flatMap cByte) rfl (by have := Src.ofString (P := Tryd.prog) (w := wc) Tryd.underlying9 ⟨([110, 117, 108, 108] : Bytes).toArray⟩; rw [bytes_S] at this; exact this) (by omega) (by unfold maxLen; omega) (by omega) ?_))
            intro gg cap WY hown1 hgrow hat
            have HNW := Px.hid (show (([110, 117, 108, 108] : Bytes)).flatMap cByte = (([110, 117, 108, 108] : Bytes)).flatMap cByte from rfl)
            have HNL := Px.hid (show 4 = ([110, 117, 108, 108] : Bytes).length from rfl)
            have HGR := Px.hid hgrow
            have HP := Px.hid (HV2.out.1.app (t := [110, 117, 108, 108]) HLL.out HRL.out HNW.out HNL.out hown1 HGR.out (hat.imp id (fun e => by omega)))
            clear hown1 hgrow hat
            go_wp2_with fail
            go_meet
            exact ⟨_, _, _, _, n, L + 4, _, rfl, rfl, Nat.le_succ _, by omega, Px.hid ⟨by rw [HPS.out, HB.out]; exact HP.out.forget, by rw [HPS.out, HNM.out], by rw [HB.out, List.length_append, HLL.out, ← HNL.out]⟩⟩
          · have HB := Px.hid (show E6.body x = [102, 97, 108, 115, 101] by unfold E6.body; rw [HK.out]; rfl)
            have HPS := Px.hid (HPS.out (by rw [HK.out]; omega))
            go_wp2_with (at_builtin; go_must (refine wpList_append_srcm rfl _ _ 62 9 rfl 5 k0 _ 1 1 Tryd.underlying62 hk0 hku hk1 hk2 rfl (.slice a7 L c7) L RL rfl HRO.out (.string { data := #[102, 97, 108, 115, 101] }) 5 ((([102, 97, 108, 115, 101] : Bytes)).flatMap cByte) rfl (by have := Src.ofString (P := Tryd.prog) (w := wc) Tryd.underlying9 ⟨([102, 97, 108, 115, 101] : Bytes).toArray⟩; rw [bytes_S] at this; exact this) (by omega) (by unfold maxLen; omega) (by omega) ?_))
            intro gg cap WY hown1 hgrow hat
            have HNW := Px.hid (show (([102, 97, 108, 115, 101] : Bytes)).flatMap cByte = (([102, 97, 108, 115, 101] : Bytes)).flatMap cByte from rfl)
            have HNL := Px.hid (show 5 = ([102, 97, 108, 115, 101] : Bytes).length from rfl)
            have HGR := Px.hid hgrow
            have HP := Px.hid (HV2.out.1.app (t := [102, 97, 108, 115, 101]) HLL.out HRL.out HNW.out HNL.out hown1 HGR.out (hat.imp id (fun e => by omega)))
            clear hown1 hgrow hat
            go_wp2_with fail
            go_meet
            exact ⟨_, _, _, _, n, L + 5, _, rfl, rfl, Nat.le_succ _, by omega, Px.hid ⟨by rw [HPS.out, HB.out]; exact HP.out.forget, by rw [HPS.out, HNM.out], by rw [HB.out, List.length_append, HLL.out, ← HNL.out]⟩⟩
          · have HB := Px.hid (show E6.body x = [116, 114, 117, 101] by unfold E6.body; rw [HK.out]; rfl)
            have HPS := Px.hid (HPS.out (by rw [HK.out]; omega))
            go_wp2_with (at_builtin; go_must (refine wpList_append_srcm rfl _ _ 62 9 rfl 5 k0 _ 1 1 Tryd.underlying62 hk0 hku hk1 hk2 rfl (.slice a7 L c7) L RL rfl HRO.out (.string { data := #[116, 114, 117, 101] }) 4 ((([116, 114, 117, 101] : Bytes)).flatMap cByte) rfl (by have := Src.ofString (P := Tryd.prog) (w := wc) Tryd.underlying9 ⟨([116, 114, 117, 101] : Bytes).toArray⟩; rw [bytes_S] at this; exact this) (by omega) (by unfold maxLen; omega) (by omega) ?_))
            intro gg cap WY hown1 hgrow hat
            have HNW := Px.hid (show (([116, 114, 117, 101] : Bytes)).flatMap cByte = (([116, 114, 117, 101] : Bytes)).flatMap cByte from rfl)
            have HNL := Px.hid (show 4 = ([116, 114, 117, 101] : Bytes).length from rfl)
            have HGR := Px.hid hgrow
            have HP := Px.hid (HV2.out.1.app (t := [116, 114, 117, 101]) HLL.out HRL.out HNW.out HNL.out hown1 HGR.out (hat.imp id (fun e => by omega)))
            clear hown1 hgrow hat
            go_wp2_with fail
            go_meet
            exact ⟨_, _, _, _, n, L + 4, _, rfl, rfl, Nat.le_succ _, by omega, Px.hid ⟨by rw [HPS.out, HB.out]; exact HP.out.forget, by rw [HPS.out, HNM.out], by rw [HB.out, List.length_append, HLL.out, ← HNL.out]⟩⟩
          · have HB := Px.hid (show E6.body x = x.text by unfold E6.body; rw [HK.out]; rfl)
            have HEK := Px.hid HK.out
            have HPS := Px.hid (HPS.out (by rw [HK.out]; omega))
            have hszt := size_S x.text
            by_cases hpos : 0 < x.text.length
            · obtain ⟨T, hT⟩ : ∃ T, x.text.length = T := ⟨_, rfl⟩
              rw [hT] at hpos hxt
              go_wp2_with (at_builtin; go_must (refine wpList_append_srcm rfl _ _ 62 9 rfl 5 k0 _ 1 1 Tryd.underlying62 hk0 hku hk1 hk2 rfl (.slice a7 L c7) L RL rfl HRO.out (S x.text) T (x.text.flatMap cByte) rfl (by have := Src.ofString (P := Tryd.prog) (w := wc) Tryd.underlying9 ⟨x.text.toArray⟩; rw [bytes_S, hszt, hT] at this; exact this) (by omega) (by unfold maxLen; omega) (by omega) ?_))
              intro gg cap WY hown1 hgrow hat
              have HNW := Px.hid (show x.text.flatMap cByte = x.text.flatMap cByte from rfl)
              have HNL := Px.hid (show T = x.text.length from hT.symm)
              have HGR := Px.hid hgrow
              have HP := Px.hid (HV2.out.1.app (t := x.text) HLL.out HRL.out HNW.out HNL.out hown1 HGR.out (hat.imp id (fun e => by omega)))
              clear hown1 hgrow hat
              go_wp2_with fail
              go_meet
              exact ⟨_, _, _, _, n, L + T, _, rfl, rfl, Nat.le_succ _, by omega, Px.hid ⟨by rw [HPS.out, HB.out]; exact HP.out.forget, by rw [HPS.out, HNM.out], by rw [HB.out, List.length_append, HLL.out, ← HNL.out]⟩⟩
            · exact absurd (right_num HRX.out HEK.out) hpos
          · have HB := Px.hid (show E6.body x = E6.told x.text by unfold E6.body; rw [HK.out]; rfl)
            have HPS := Px.hid (HPS.out (by rw [HK.out]; omega))
            go_wp2_with fail
            refine (etold_any x.text (by omega) _).mono ?_
            rintro r w2 ⟨tv, rfl, hM⟩
            obtain ⟨T, hT⟩ : ∃ T, (E6.told x.text).length = T := ⟨_, rfl⟩
            have hT0 : 0 < T := by rw [← hT]; exact told_pos _
            have hT1 : T ≤ 1572866 := by rw [← hT]; have := told_len x.text; omega
            have HV3 := Px.hid (HV2.out.1.sm hM.same)
            have HRO := Px.hid (HV3.out.out.rowL HLL.out HRL.out)
            obtain ⟨ta, tc, htv, hnews⟩ : ∃ ta tc, tv = .slice (some ta) T tc ∧ ∀ j u, ((E6.told x.text).flatMap cByte)[j]? = some u → w2.cell? (ta.add j) = some u := by
              have ho := hM.own
              unfold Owns at ho
              rw [hT] at ho
              rcases ho.2 with ⟨_, h0⟩ | ⟨g, cap, cur, rfl, _, hg, _⟩
              · omega
              · exact ⟨⟨g, 0, none⟩, cap, rfl, ho.cells (g := g) rfl⟩
            subst htv
            have HNE := Px.hid hnews
            have HNL := Px.hid hT.symm
            obtain ⟨NW, hNW⟩ : ∃ NW, (E6.told x.text).flatMap cByte = NW := ⟨_, rfl⟩
            have hnl : NW.length = T * 1 := by rw [← hNW, ← hT, Nat.mul_one]; exact (flat_len cByte_len _).trans (Nat.mul_one _)
            have hone : ∀ u ∈ NW, u.oneCell' = true := by
              rw [← hNW]
              intro u hu
              obtain ⟨c, _, hc⟩ := List.mem_flatMap.1 hu
              rw [List.mem_singleton.1 hc]
              rfl
            rw [hNW] at HNE
            have HNWW := Px.hid hNW.symm
            clear hM hnews hT hNW
            go_wp2_with (at_builtin; go_must (refine wpList_append_lies _ rfl _ _ _ rfl 0 5 k0 _ 1 1 Tryd.underlying62 hk0 hku hk1 hk2 rfl (by omega) (.slice a7 L c7) L RL rfl HRO.out ta T tc NW rfl hnl HNE.out hone hT0 (by unfold maxLen; omega) (by omega) (by omega) w2.heap.size rfl ?_))
            intro gg cap WY hown1 hgrow hat hlt1
            have HP := Px.hid (HV3.out.app (t := E6.told x.text) HLL.out HRL.out HNWW.out HNL.out hown1 hgrow (hat.imp id (fun e => by omega)))
            clear hown1 hgrow hat hnl hone
            go_wp2_with fail
            go_meet
            exact ⟨_, _, _, _, n, L + T, _, rfl, rfl, Nat.le_succ _, by omega, Px.hid ⟨by rw [HPS.out, HB.out]; exact HP.out.forget, by rw [HPS.out, HNM.out], by rw [HB.out, List.length_append, HLL.out, ← HNL.out]⟩⟩
          · have HB := Px.hid (show E6.body x = [91] by unfold E6.body; rw [HK.out]; rfl)
            have HPO := Px.hid (HPO.out (by rw [HK.out]; omega))
            go_wp2_with (at_builtin; go_must (refine wpList_append_lies _ rfl _ _ _ rfl 0 5 k0 _ 1 1 Tryd.underlying62 hk0 hku hk1 hk2 rfl (by omega) (.slice a7 L c7) L RL rfl (HRO.out.alloc _) ⟨wc.heap.size, 0, none⟩ 1 1 [.int .u8 91] rfl rfl (World.news_of_block (cs := #[.int .u8 91]) (t := 5) (fr := (0, 0)) (heap_alloc_new wc _)) (by simp [Value.oneCell']) (by omega) (by unfold maxLen; omega) (by omega) (by omega) (wc.heap.size + 1) (by simp) ?_))
            intro gg cap WY hown1 hgrow hat hlt1
            have HP := Px.hid (HV2.out.1.app (t := [91]) HLL.out HRL.out rfl rfl hown1 (grown_alloc1 (w := wc) hgrow) (hat.imp id (fun e => by omega)))
            clear hown1 hgrow hat x0 x1 x2 hvb2 hlt1
            have x0 : WY.cell? ⟨vb, 0, none⟩ = some (.int .i64 5) := by rw [← HK.out]; exact cellOf HP.out.sv.val 0 rfl
            have x1 := cellOf HP.out.sv.val 1 rfl
            have hvb3 : vb < WY.heap.size := HP.out.sv.lt
            obtain ⟨SL, hSL⟩ : ∃ SL, SL = ps2.reverse.flatMap cOp := ⟨_, rfl⟩
            have HSO := Px.hid (show WY.ownsRow 0 66 4 (.slice a6 n c6) n SL by rw [hSL]; have := HP.out.sv.stk.row; rw [HPL.out] at this; exact this)
            have HSL := Px.hid hSL
            clear hSL
            go_wp2_with (at_builtin; go_must (refine wpList_append_lies _ rfl _ _ _ rfl 0 66 i0 _ 4 48 Tryd.underlying61 hi0 hz0 hz1 hz2 rfl (by omega) (.slice a6 n c6) n SL rfl (HSO.out.alloc _) ⟨WY.heap.size, 0, none⟩ 1 1 [.int .i64 5, .int .i64 x.kids, .int .i64 0, .slice none 0 0] rfl rfl (World.news_of_block (cs := #[.int .i64 5, .int .i64 x.kids, .int .i64 0, .slice none 0 0]) (t := 66) (fr := (0, 0)) (heap_alloc_new WY _)) (by simp [Value.oneCell']) (by omega) (by unfold maxLen; omega) (by omega) (by omega) (WY.heap.size + 1) (by simp) ?_))
            intro gs cs WZ hown1 hgrow hat hlt1
            have HQ := Px.hid (show EV w0 WZ vb x (.slice (some ⟨gs, 0, none⟩) (n + 1) cs) ((⟨x.kind, x.kids, 0, []⟩, .slice none 0 0) :: ps2) (⟨x.kind, x.kids, 0, []⟩ :: E6.more st) (.slice (some ⟨gg, 0, none⟩) (L + 1) cap) (out2 ++ [91]) from by
              have h1 := hown1
              rw [HSL.out, ← HPL.out, ← HK.out] at h1
              have h2 := hat
              have h3 := grown_alloc1 (w := WY) hgrow
              have h4 := HP.out
              rw [← HPL.out] at h2 h3 h4 ⊢
              exact h4.push rfl h1 h3 (h2.imp id (fun e => by omega)))
            clear hown1 hgrow hat
            go_wp2_with fail
            go_meet
            exact ⟨_, _, _, _, n + 1, L + 1, _, rfl, rfl, Nat.le_refl _, by omega, Px.hid ⟨by rw [HPO.out, HB.out]; exact HQ.out.forget, by rw [HPO.out, List.length_cons, HNM.out], by rw [HB.out, List.length_append, HLL.out]; rfl⟩⟩
          · have e0 : (K == 0) = false := by simpa using b0
            have e1 : (K == 1) = false := by simpa using b1
            have e2 : (K == 2) = false := by simpa using b2
            have e3 : (K == 3) = false := by simpa using b3
            have e4 : (K == 4) = false := by simpa using b4
            have e5 : (K == 5) = false := by simpa using b5
            have HB := Px.hid (show E6.body x = [123] by unfold E6.body; rw [HK.out, e0, e1, e2, e3, e4, e5]; rfl)
            have HPO := Px.hid (HPO.out (by rw [HK.out]; omega))
            clear b0 b1 b2 b3 b4 b5
            go_wp2_with (at_builtin; go_must (refine wpList_append_lies _ rfl _ _ _ rfl 0 5 k0 _ 1 1 Tryd.underlying62 hk0 hku hk1 hk2 rfl (by omega) (.slice a7 L c7) L RL rfl (HRO.out.alloc _) ⟨wc.heap.size, 0, none⟩ 1 1 [.int .u8 123] rfl rfl (World.news_of_block (cs := #[.int .u8 123]) (t := 5) (fr := (0, 0)) (heap_alloc_new wc _)) (by simp [Value.oneCell']) (by omega) (by unfold maxLen; omega) (by omega) (by omega) (wc.heap.size + 1) (by simp) ?_))
            intro gg cap WY hown1 hgrow hat hlt1
            have HP := Px.hid (HV2.out.1.app (t := [123]) HLL.out HRL.out rfl rfl hown1 (grown_alloc1 (w := wc) hgrow) (hat.imp id (fun e => by omega)))
            clear hown1 hgrow hat x0 x1 x2 hvb2 hlt1
            have x0 : WY.cell? ⟨vb, 0, none⟩ = some (.int .i64 K) := by rw [← HK.out]; exact cellOf HP.out.sv.val 0 rfl
            have x1 := cellOf HP.out.sv.val 1 rfl
            have hvb3 : vb < WY.heap.size := HP.out.sv.lt
            obtain ⟨SL, hSL⟩ : ∃ SL, SL = ps2.reverse.flatMap cOp := ⟨_, rfl⟩
            have HSO := Px.hid (show WY.ownsRow 0 66 4 (.slice a6 n c6) n SL by rw [hSL]; have := HP.out.sv.stk.row; rw [HPL.out] at this; exact this)
            have HSL := Px.hid hSL
            clear hSL
            go_wp2_with (at_builtin; go_must (refine wpList_append_lies _ rfl _ _ _ rfl 0 66 i0 _ 4 48 Tryd.underlying61 hi0 hz0 hz1 hz2 rfl (by omega) (.slice a6 n c6) n SL rfl (HSO.out.alloc _) ⟨WY.heap.size, 0, none⟩ 1 1 [.int .i64 K, .int .i64 x.kids, .int .i64 0, .slice none 0 0] rfl rfl (World.news_of_block (cs := #[.int .i64 K, .int .i64 x.kids, .int .i64 0, .slice none 0 0]) (t := 66) (fr := (0, 0)) (heap_alloc_new WY _)) (by simp [Value.oneCell']) (by omega) (by unfold maxLen; omega) (by omega) (by omega) (WY.heap.size + 1) (by simp) ?_))
            intro gs cs WZ hown1 hgrow hat hlt1
            have HQ := Px.hid (show EV w0 WZ vb x (.slice (some ⟨gs, 0, none⟩) (n + 1) cs) ((⟨x.kind, x.kids, 0, []⟩, .slice none 0 0) :: ps2) (⟨x.kind, x.kids, 0, []⟩ :: E6.more st) (.slice (some ⟨gg, 0, none⟩) (L + 1) cap) (out2 ++ [123]) from by
              have h1 := hown1
              rw [HSL.out, ← HPL.out, ← HK.out] at h1
              have h2 := hat
              have h3 := grown_alloc1 (w := WY) hgrow
              have h4 := HP.out
              rw [← HPL.out] at h2 h3 h4 ⊢
              exact h4.push rfl h1 h3 (h2.imp id (fun e => by omega)))
            clear hown1 hgrow hat
            go_wp2_with fail
            go_meet
            exact ⟨_, _, _, _, n + 1, L + 1, _, rfl, rfl, Nat.le_refl _, by omega, Px.hid ⟨by rw [HPO.out, HB.out]; exact HQ.out.forget, by rw [HPO.out, List.length_cons, HNM.out], by rw [HB.out, List.length_append, HLL.out]; rfl⟩⟩
        case rest =>
          obtain ⟨a6, a7, c6, c7, n3, L3, ps3, rfl, rfl, hn3, hL4, HW⟩ := hcut
          have hokB : ∀ o ∈ E6.push x (E6.more st), OkE (k + 1) o := by
            have hm : ∀ o ∈ E6.more st, OkE (k + 1) o := by
              intro o ho
              have hok := HS.out.ok
              cases st with
              | nil => cases ho
              | cons a r =>
                rcases List.mem_cons.1 ho with rfl | ho
                · obtain ⟨b1, b2, b3⟩ := hok a (List.mem_cons_self ..)
                  exact ⟨by show a.told + 1 ≤ _; omega, b2, b3⟩
                · obtain ⟨b1, b2, b3⟩ := hok o (List.mem_cons_of_mem _ ho)
                  exact ⟨by omega, b2, b3⟩
            intro o ho
            unfold E6.push at ho
            split at ho
            · exact hm o ho
            · rcases List.mem_cons.1 ho with rfl | ho
              · exact ⟨Nat.zero_le _, HFX.out.2.1.1, HFX.out.2.1.2⟩
              · exact hm o ho
          obtain ⟨B, hB⟩ : ∃ B, E6.push x (E6.more st) = B := ⟨_, rfl⟩
          obtain ⟨O, hO⟩ : ∃ O, out2 ++ E6.body x = O := ⟨_, rfl⟩
          rw [hB] at hokB HEQ HW
          rw [hO] at HEQ HW
          have HOB := Px.hid hokB
          have HNK := Px.hid (show n3 ≤ k + 1 by have := HS.out.len; have := HS.out.n; omega)
          clear hokB hB hO HRL HRO HLL HPL x0 x1 x2 hvb2 HV2
          have hn34 : n3 ≤ 4097 := by omega
          go_wp2
          obtain ⟨wo, rfl⟩ : ∃ wo : World, wo = wc := ⟨_, rfl⟩
          go_loopg [6, 7, 12] (n3 + 1) (fun gk2 v6 v7 t12 wv => ∃ (lf : List E6.Op) (ps4 : List (E6.Op × Value)) (a4 a7 : Option Addr) (c4 n4 c7 L7 : Nat) (O7 : Bytes), lf.length < gk2 ∧ v6 = .slice a4 n4 c4 ∧ v7 = .slice a7 L7 c7 ∧ t12 = .int .i64 (n4 : Nat) ∧ n4 = lf.length ∧ n4 ≤ n3 ∧ L7 + n4 ≤ L3 + n3 ∧ Hid (EW w0 wv v6 ps4 lf v7 O7 ∧ L7 = O7.length ∧ O7 ++ E6.ends lf = O ++ E6.ends B ∧ E6.close lf = E6.close B ∧ ∀ o ∈ lf, o ∈ B))
          case atStart => exact ⟨B, ps3, a6, a7, c6, n3, c7, L3, O, by rw [← HW.out.2.1]; omega, rfl, rfl, rfl, HW.out.2.1, Nat.le_refl _, Nat.le_refl _, Px.hid ⟨HW.out.1, HW.out.2.2, rfl, rfl, fun _ h => h⟩⟩
          case round =>
            obtain ⟨lf, ps4, a4, a7, c4, n4, c7, L7, O7, hgl, rfl, rfl, rfl, hn4, hn4l, hL7, HL⟩ := hrel
            have HGL := Px.hid (And.intro hgl hn4)
            clear hgl hn4
            obtain ⟨wv, hwv⟩ : ∃ wv, wv = HL.out.1.world := ⟨_, rfl⟩
            unfold EW.world at hwv
            subst hwv
            have hkm : (k : Int) < 9223372036854775807 := by omega
            rcases hlf : lf with _ | ⟨o, rs⟩
            · rw [hlf] at HL HGL
              obtain rfl : n4 = 0 := HGL.out.2
              clear hlf
              go_wp2_with fail
              go_quiet (fail)
              have HQ := Px.hid (HL.out.1.sm (Fr.drewN (Fr.refl _ _) nq))
              go_wp2
              go_roundg g'
              case measure => omega
              case rel =>
                have hcb : E6.close B = [] := HL.out.2.2.2.1.symm
                have hob : O ++ E6.ends B = O7 := by rw [← HL.out.2.2.1]; exact List.append_nil _
                exact ⟨k + 1, 0, L7, _, _, _, _, ps4, [], O7, by have := HG.out; omega, by omega, by go_num, rfl, rfl, by omega, by omega, Px.hid ⟨HQ.out, by rw [HEQ.out, hcb, hob], rfl, HL.out.2.1, Nat.zero_le _, (fun o ho => by cases ho)⟩⟩
            · rw [hlf] at HL HGL
              clear hlf
              obtain ⟨vn, rest, hps, hmr⟩ : ∃ vn rest, ps4 = (o, vn) :: rest ∧ rest.map Prod.fst = rs := by
                have hm := HL.out.1.stk.fms
                cases ps4 with
                | nil => cases hm
                | cons p rest =>
                  obtain ⟨o', vn⟩ := p
                  simp only [List.map_cons, List.cons.injEq] at hm
                  obtain ⟨rfl, hm⟩ := hm
                  exact ⟨vn, rest, rfl, hm⟩
              subst hps
              obtain ⟨g, cp, hve, q1, q2, t0, t1, t2, t3, tf, hgl⟩ := HL.out.1.stk.topCells
              simp only [Value.slice.injEq] at hve
              obtain ⟨rfl, rfl, rfl⟩ := hve
              unfold maxLen at q2
              have hr4 : rest.length ≤ 4097 := by omega
              have HMR := Px.hid hmr
              clear t3 tf hmr
              by_cases hc0 : (o.told : Int) = o.all
              · have hcz : ((o.told : Int) == o.all) = true := by simpa using hc0
                have HC := Px.hid (show E6.close (o :: rs) = E6.close rs by conv => lhs; unfold E6.close; rw [if_pos hc0])
                have HEN := Px.hid (show E6.ends (o :: rs) = (if o.kind == 5 then 93 else 125) :: E6.ends rs by conv => lhs; unfold E6.ends; rw [if_pos hc0])
                clear hc0
                go_wp2_with fail
                go_quiet (fail)
                have HQ := Px.hid (HL.out.1.sm (Fr.drewN (Fr.refl _ _) nq))
                obtain ⟨W5, hW5⟩ : ∃ W5, W5 = wv.drewN nq := ⟨_, rfl⟩
                have t0' : W5.cell? ⟨g, rest.length * 4, none⟩ = some (.int .i64 o.kind) := by rw [hW5]; exact t0
                have t1' : W5.cell? ⟨g, rest.length * 4 + 1, none⟩ = some (.int .i64 o.all) := by rw [hW5]; exact t1
                have t2' : W5.cell? ⟨g, rest.length * 4 + 2, none⟩ = some (.int .i64 (o.told : Nat)) := by rw [hW5]; exact t2
                rw [← hW5] at HQ ⊢
                clear hW5 t0 t1 t2
                obtain ⟨RL, hRL⟩ : ∃ RL, O7.flatMap cByte = RL := ⟨_, rfl⟩
                have HRL := Px.hid hRL
                have HRO := Px.hid (HQ.out.out.rowL HL.out.2.1.symm hRL)
                have HLL := Px.hid HL.out.2.1.symm
                clear hRL
                by_cases h5 : o.kind = 5
                · have HK5 := Px.hid (show (o.kind == 5) = true by simpa using h5)
                  rw [h5] at t0'
                  clear h5
                  go_wp2_with (at_builtin; go_must (refine wpList_append_lies _ rfl _ _ _ rfl 0 5 k0 _ 1 1 Tryd.underlying62 hk0 hku hk1 hk2 rfl (by omega) (.slice a7 L7 c7) L7 RL rfl (HRO.out.alloc _) ⟨W5.heap.size, 0, none⟩ 1 1 [.int .u8 93] rfl rfl (World.news_of_block (cs := #[.int .u8 93]) (t := 5) (fr := (0, 0)) (heap_alloc_new W5 _)) (by simp [Value.oneCell']) (by omega) (by unfold maxLen; omega) (by omega) (by omega) (W5.heap.size + 1) (by simp) ?_))
                  intro gg cap WY hown1 hgrow hat hlt1
                  have HP := Px.hid (HQ.out.app (t := [93]) HLL.out HRL.out rfl rfl hown1 (grown_alloc1 (w := W5) hgrow) (hat.imp id (fun e => by omega)))
                  clear hown1 hgrow hat t0' t1' t2' hlt1
                  go_wp2
                  go_roundg (rs.length + 1)
                  case measure => have := HGL.out.1; simp at this; omega
                  case rel =>
                    have hpop := HP.out.pop
                    rw [HMR.out] at hpop
                    refine ⟨rs, rest, _, _, _, rest.length, _, L7 + 1, _, by omega, rfl, rfl, by go_num, by rw [← HMR.out, List.length_map], by omega, by omega, Px.hid ⟨hpop, by rw [List.length_append, HLL.out]; rfl, ?_, by rw [← HC.out]; exact HL.out.2.2.2.1, fun o' ho' => HL.out.2.2.2.2 o' (List.mem_cons_of_mem _ ho')⟩⟩
                    rw [← HL.out.2.2.1, HEN.out, HK5.out, if_pos rfl, List.append_assoc]
                    rfl
                · have hk5 : (o.kind == 5) = false := by simpa using h5
                  have HK5 := Px.hid hk5
                  clear h5
                  go_wp2_with (at_builtin; go_must (refine wpList_append_lies _ rfl _ _ _ rfl 0 5 k0 _ 1 1 Tryd.underlying62 hk0 hku hk1 hk2 rfl (by omega) (.slice a7 L7 c7) L7 RL rfl (HRO.out.alloc _) ⟨W5.heap.size, 0, none⟩ 1 1 [.int .u8 125] rfl rfl (World.news_of_block (cs := #[.int .u8 125]) (t := 5) (fr := (0, 0)) (heap_alloc_new W5 _)) (by simp [Value.oneCell']) (by omega) (by unfold maxLen; omega) (by omega) (by omega) (W5.heap.size + 1) (by simp) ?_))
                  intro gg cap WY hown1 hgrow hat hlt1
                  have HP := Px.hid (HQ.out.app (t := [125]) HLL.out HRL.out rfl rfl hown1 (grown_alloc1 (w := W5) hgrow) (hat.imp id (fun e => by omega)))
                  clear hown1 hgrow hat t0' t1' t2' hlt1
                  go_wp2
                  go_roundg (rs.length + 1)
                  case measure => have := HGL.out.1; simp at this; omega
                  case rel =>
                    have hpop := HP.out.pop
                    rw [HMR.out] at hpop
                    refine ⟨rs, rest, _, _, _, rest.length, _, L7 + 1, _, by omega, rfl, rfl, by go_num, by rw [← HMR.out, List.length_map], by omega, by omega, Px.hid ⟨hpop, by rw [List.length_append, HLL.out]; rfl, ?_, by rw [← HC.out]; exact HL.out.2.2.2.1, fun o' ho' => HL.out.2.2.2.2 o' (List.mem_cons_of_mem _ ho')⟩⟩
                    rw [← HL.out.2.2.1, HEN.out, HK5.out, if_neg (by decide), List.append_assoc]
                    rfl
              · have hcz : ((o.told : Int) == o.all) = false := by simpa using hc0
                have HC := Px.hid (show E6.close (o :: rs) = o :: rs by conv => lhs; unfold E6.close; rw [if_neg hc0])
                have HEN := Px.hid (show E6.ends (o :: rs) = [] by conv => lhs; unfold E6.ends; rw [if_neg hc0])
                clear hc0
                go_wp2_with fail
                go_quiet (fail)
                have HQ := Px.hid (HL.out.1.sm (Fr.drewN (Fr.refl _ _) nq))
                go_wp2
                go_roundg g'
                case measure => omega
                case rel =>
                  have hcb : E6.close B = o :: rs := by rw [← HL.out.2.2.2.1, HC.out]
                  have hob : O ++ E6.ends B = O7 := by rw [← HL.out.2.2.1, HEN.out]; exact List.append_nil _
                  exact ⟨k + 1, rest.length + 1, L7, _, _, _, _, _, o :: rs, O7, by have := HG.out; omega, by omega, by go_num, rfl, rfl, by have := HNK.out; omega, by omega, Px.hid ⟨HQ.out, by rw [HEQ.out, hcb, hob], by rw [List.length_cons, ← HMR.out, List.length_map], HL.out.2.1, by rw [List.length_cons, ← HMR.out, List.length_map]; have := HNK.out; omega, fun o' ho' => HOB.out o' (HL.out.2.2.2.2 o' ho')⟩⟩
    · have hlz : ¬ (k : Int) < (l.length : Int) := by omega
      have hke : k = l.length := by omega
      have HR := Px.hid (show E6.encN l [] [] = if 262144 < out.length then none else some out by rw [HS.out.eq, hke, List.drop_length]; rfl)
      have HSM := Px.hid (HS1.out.trans HS.out.ew.stk.same)
      have hcv := Owns.str (P := Tryd.prog) HS.out.ew.out.own Tryd.underlying62 Tryd.underlying5 Tryd.underlying9
      clear hke
      by_cases hA : 262144 < L
      · have zA : (262144 : Int) < (L : Int) := by omega
        have HE := Px.hid (HN.out (by rw [HR.out, if_pos (by rw [← HS.out.L]; exact hA)]))
        clear hA
        go_wp2
        go_ret2
        exact encPost_of HE.out rfl HSM.out
      · have zA : ¬ (262144 : Int) < (L : Int) := by omega
        have HE := Px.hid (HY.out out (by rw [HR.out, if_neg (by rw [← HS.out.L]; exact hA)]))
        clear hA
        go_wp2
        go_ret2
        exact encPost_of HE.out rfl HSM.out
end Go.Proofs.YtahojodgmjmpnaaDoor
