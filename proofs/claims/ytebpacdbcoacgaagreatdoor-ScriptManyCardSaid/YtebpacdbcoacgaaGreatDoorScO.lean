/-
  The walks over script.Run at the examples' texts (printed by gen_sco.py).
-/
import Derived.Test.YtebpacdbcoacgaaGreatDoorScN
import Derived.Test.YtebpacdbcoacgaaGreatDoorScP
namespace Go.Proofs.YtebpacdbcoacgaaGreatDoor
open Go.RowKit Go.Px
/-- A Builder of the call's own stands where other blocks than its own and than its rows were written. -/
theorem Bd.fr {B b : Nat} {l : List UInt8} {w w' : World} {F : Nat → Prop} (h : Bd B b l w) (hf : Fr F w w') (hn : ∀ k, B ≤ k → ¬ F k) : Bd B b l w' := by
  have key : ∀ p, Lib.BuilderAtF 37 5 B b p (Lib.byteCells l) w → Lib.BuilderAtF 37 5 B b p (Lib.byteCells l) w' := by
    rintro p ⟨hB, v, hb, ho, hx⟩
    refine ⟨hB, v, (hf.block b (ltOf hb) (hn b hB)).trans hb, ⟨ho.1, ?_⟩, hx⟩
    rcases ho.2 with h0 | ⟨g, cap, cur, fz, hv, hg, hgc, rest⟩
    · exact .inl h0
    · exact .inr ⟨g, cap, cur, fz, hv, hg, (hf.block g (ltOf hgc) (hn g hg)).trans hgc, rest⟩
  exact h.elim (fun x => .inl (key _ x)) (fun x => .inr (key _ x))
theorem Bd.ring {B b r B2 : Nat} {l : List UInt8} {w w' : World} (h : Bd B b l w) (hf : Fr (fun k => k = r) w w') (hr : RingA w B2 r) : Bd B b l w' := by
  obtain ⟨m, g0, c0, p, _, _, h1, _, _⟩ := hr.at_
  have ne : ∀ k cs T z, w.heap[k]? = some (.cells cs T z) → T ≠ 108 → ¬ k = r := fun k cs T z hk hT e => by
    subst e
    have h2 : w.heap[k]? = some (.cells _ 108 (0, 0)) := h1
    rw [hk] at h2
    have h3 := Option.some.inj h2
    injection h3 with _ h4
    exact hT h4
  have key : ∀ q, Lib.BuilderAtF 37 5 B b q (Lib.byteCells l) w → Lib.BuilderAtF 37 5 B b q (Lib.byteCells l) w' := by
    rintro q ⟨hB, v, hb, ho, hx⟩
    refine ⟨hB, v, (hf.block b (ltOf hb) (ne _ _ _ _ hb (by decide))).trans hb, ⟨ho.1, ?_⟩, hx⟩
    rcases ho.2 with h0 | ⟨g, cap, cur, fz, hv, hg, hgc, rest⟩
    · exact .inl h0
    · exact .inr ⟨g, cap, cur, fz, hv, hg, (hf.block g (ltOf hgc) (ne _ _ _ _ hgc (by decide))).trans hgc, rest⟩
  exact h.elim (fun x => .inl (key _ x)) (fun x => .inr (key _ x))
/-- What Run holds in its loop: its lines, its session, its Builder. -/
structure RunW (w0 w : World) (lb sb b : Nat) (ps : List ByteArray) (ks rg : Value) (d i bb r mx : Int) (out : List UInt8) : Prop where
  bel : Below w0.heap.size w0 w
  lines : Blk w lb (ps.map Value.string).toArray 9
  ses : SesB w sb ks rg d i bb r
  bd : Bd b b out w
  mx : MaxW w mx
  lo : w0.heap.size ≤ sb
  lob : lb < b
  sob : sb < b
  lts : lb ≠ sb
  z0 : 0 < w0.heap.size
  hb : b ≤ w.heap.size
/-- Behind a line that wrote the session alone (and what the session's ring is). -/
theorem RunW.act {w0 w w' : World} {lb sb b : Nat} {ps : List ByteArray} {ks rg ks' rg' : Value} {d i bb r d' i' b' r' mx : Int} {out : List UInt8} {F : Nat → Prop} (h : RunW w0 w lb sb b ps ks rg d i bb r mx out) (hf : Fr F w w') (hF : ∀ k, F k → k = sb ∨ b < k) (hs : SesB w' sb ks' rg' d' i' b' r') (hB : Bd b b out w') : RunW w0 w' lb sb b ps ks' rg' d' i' b' r' mx out :=
  ⟨h.bel.trans (Fr.toBelow hf _ (fun k hk => by rcases hF k hk with e | e; have := h.lo; omega; have := h.sob; have := h.lo; omega) h.bel.size), h.lines.fr hf (fun x => by rcases hF _ x with e | e; exact h.lts e; have := h.lob; omega), hs, hB, h.mx.fr hf (fun x => by rcases hF _ x with e | e; have := h.lo; have := h.z0; omega; omega), h.lo, h.lob, h.sob, h.lts, h.z0, Nat.le_trans h.hb hf.size⟩
/-- Behind a write to the Builder. -/
theorem RunW.wrote {w0 w w' : World} {lb sb b : Nat} {ps : List ByteArray} {ks rg : Value} {d i bb r mx : Int} {out out' : List UInt8} (h : RunW w0 w lb sb b ps ks rg d i bb r mx out) (hb : Bd b b out' w') (hk : Below b w w') : RunW w0 w' lb sb b ps ks rg d i bb r mx out' :=
  ⟨h.bel.trans (hk.mono (by have := h.lo; have := h.sob; omega)), (hk.block lb h.lob).trans h.lines, (hk.block sb h.sob).trans h.ses, hb, (World.cell?_of_block (w := w) (hk.block 0 (by have := h.lo; have := h.sob; have := h.z0; omega))).trans h.mx, h.lo, h.lob, h.sob, h.lts, h.z0, Nat.le_trans h.hb hk.size⟩
theorem RingA.oth {w w' : World} {B r b : Nat} (h : RingA w B r) (hk : Lib.OthersKept 5 (some b) w w') (hb : b < B) (hr : b < r) : RingA w' B r := by
  obtain ⟨m, g, cap, p, hg, hp, h1, ⟨cur, q1, q2⟩, h3⟩ := h.at_
  have kp : ∀ k cs T, Blk w k cs T → b < k → T ≠ 5 → Blk w' k cs T := fun k cs T hx hlt hT => hk k _ hx (fun e => by have := Option.some.inj e; omega) (fun c fz e => hT (by injection e))
  exact ⟨m, g, cap, p, hg, hp, kp _ _ _ h1 hr (by decide), ⟨cur, kp _ _ _ q1 (by omega) (by decide), q2⟩, kp _ _ _ h3 (by omega) (by decide)⟩
set_option maxRecDepth 100000 in
set_option maxHeartbeats 16000000 in
theorem run_x (mx : Int) (w : World) (hm : MaxW w mx) : Calls Tryz.prog 6 #[.string ⟨#[120]⟩] w fun e w' => e = .returned (.tuple #[.string ⟨#[101, 114, 114, 111, 114, 32, 49, 53, 10]⟩, .int .i64 0]) ∧ Same w w' := by
  have HM := Px.hid hm
  have HSP := Px.hid (split_at ⟨#[120]⟩ ⟨#[10]⟩ 1 [⟨#[120]⟩] (by decide) (by decide) (by decide) (by decide) mx)
  have HZ := Px.hid (World.block_lt_of_cell? _ _ hm)
  clear hm
  go_enter Tryz.func6, Tryz.ntmps6
  go_wp2_with fail
  refine (HSP.out _ HM.out).mono ?_
  rintro e w1 ⟨lb, rfl, hs1, hlb, hbl⟩
  have l0 : w1.cell? ⟨lb, 0, none⟩ = some (.string ⟨#[120]⟩) := hbl.cell 0 rfl
  have hll := hbl.lt
  have HL := Px.hid hbl
  have HS1 := Px.hid hs1
  clear hs1 hlb hbl HSP
  go_wp2_with fail
  refine (sc_new _).mono ?_
  rintro e w2 ⟨sb, rb0, rfl, hs2, hsb, hses⟩
  obtain ⟨b, hb⟩ : ∃ b, b = w2.heap.size := ⟨_, rfl⟩
  obtain ⟨w3, hw3⟩ : ∃ w3, w3 = w2.alloc (.cells #[.pointer none, .slice none 0 0] 37 (0, 0)) := ⟨_, rfl⟩
  have hr3 : RunW w w3 lb sb b [⟨#[120]⟩] (.slice none 0 0) (.pointer (some ⟨rb0, 0, none⟩)) 32 4096 262144 4096 mx [] := by
    have hz := HZ.out
    have h1 := HS1.out.size
    have h2 := HL.out.lt
    have h3 := Blk.lt hses
    rw [hw3, hb]
    exact ⟨(Same.trans (Same.trans HS1.out hs2) (Fr.alloc (Fr.refl _ w2) _)).below, (Blk.sm HL.out hs2).alloc _, Blk.alloc hses _, bd_new w2, (HM.out.fr (Same.trans (Same.trans HS1.out hs2) (Fr.alloc (Fr.refl _ w2) _)) (fun x => x)), by omega, Nat.lt_of_lt_of_le h2 hs2.size, h3, by omega, by omega, by simp⟩
  have HR := Px.hid hr3
  have HW3 := Px.hid (And.intro hw3 hb)
  clear hs2 hsb hses l0 hll HL hr3 HZ HM HS1 hw3 hb
  go_wp2
  rw [← HW3.out.1, ← HW3.out.2]
  refine wp_loop_rounds 2 ?_
  rw [rounds_succ]
  have l0 := HR.out.lines.lt
  have c0 : World.cell? _ ⟨lb, 0, none⟩ = some (.string ⟨#[120]⟩) := HR.out.lines.cell 0 rfl
  go_wp2_with fail
  refine (do_x sb _ _ _ _ _ _ mx _ HR.out.ses HR.out.mx).mono ?_
  rintro e v0 ⟨rfl, hs0⟩
  replace HR := Px.hid (HR.out.act hs0 (fun _ x => x.elim) (Blk.sm HR.out.ses hs0) (HR.out.bd.same hs0))
  clear hs0
  clear c0 l0
  go_wp2_with fail
  refine (wstr_any b b [] [101, 114, 114, 111, 114, 32, 49, 53] _ HR.out.bd (by decide) HR.out.hb).mono ?_
  rintro e x0 ⟨⟨nn, rfl⟩, hb0, hk0, ho0⟩
  replace HR := Px.hid (HR.out.wrote hb0 hk0)
  clear hb0 hk0 ho0
  go_wp2_with fail
  refine (wbyte_any b b _ 10 _ HR.out.bd (by decide) HR.out.hb).mono ?_
  rintro e y0 ⟨rfl, hb0, hk0, ho0⟩
  replace HR := Px.hid (HR.out.wrote hb0 hk0)
  clear hb0 hk0 ho0
  go_wp2
  rw [rounds_succ]
  go_wp2_with fail
  refine (bstr_any b b _ _ HR.out.bd HR.out.hb).mono ?_
  rintro e w9 ⟨rfl, hbl9⟩
  have HE := Px.hid (HR.out.bel.trans (hbl9.mono (by have := HR.out.lo; have := HR.out.sob; omega)))
  clear hbl9
  go_wp2
  go_ret2
  exact ⟨rfl, Same.of HE.out⟩
set_option maxRecDepth 100000 in
set_option maxHeartbeats 16000000 in
theorem run_lim (mx : Int) (w : World) (hm : MaxW w mx) : Calls Tryz.prog 6 #[.string ⟨#[108, 105, 109, 105, 116, 115, 32, 48, 32, 49, 32, 49, 32, 49, 10, 108, 105, 109, 105, 116, 115, 32, 49, 32, 49, 32, 49, 32, 49]⟩] w fun e w' => e = .returned (.tuple #[.string ⟨#[101, 114, 114, 111, 114, 32, 50, 10, 111, 107, 10]⟩, .int .i64 0]) ∧ Same w w' := by
  have HM := Px.hid hm
  have HSP := Px.hid (split_at ⟨#[108, 105, 109, 105, 116, 115, 32, 48, 32, 49, 32, 49, 32, 49, 10, 108, 105, 109, 105, 116, 115, 32, 49, 32, 49, 32, 49, 32, 49]⟩ ⟨#[10]⟩ 2 [⟨#[108, 105, 109, 105, 116, 115, 32, 48, 32, 49, 32, 49, 32, 49]⟩, ⟨#[108, 105, 109, 105, 116, 115, 32, 49, 32, 49, 32, 49, 32, 49]⟩] (by decide) (by decide) (by decide) (by decide) mx)
  have HZ := Px.hid (World.block_lt_of_cell? _ _ hm)
  clear hm
  go_enter Tryz.func6, Tryz.ntmps6
  go_wp2_with fail
  refine (HSP.out _ HM.out).mono ?_
  rintro e w1 ⟨lb, rfl, hs1, hlb, hbl⟩
  have l1 : w1.cell? ⟨lb, 1, none⟩ = some (.string ⟨#[108, 105, 109, 105, 116, 115, 32, 49, 32, 49, 32, 49, 32, 49]⟩) := hbl.cell 1 rfl
  have hll := hbl.lt
  have HL := Px.hid hbl
  have HS1 := Px.hid hs1
  clear hs1 hlb hbl HSP
  go_wp2_with fail
  refine (sc_new _).mono ?_
  rintro e w2 ⟨sb, rb0, rfl, hs2, hsb, hses⟩
  obtain ⟨b, hb⟩ : ∃ b, b = w2.heap.size := ⟨_, rfl⟩
  obtain ⟨w3, hw3⟩ : ∃ w3, w3 = w2.alloc (.cells #[.pointer none, .slice none 0 0] 37 (0, 0)) := ⟨_, rfl⟩
  have hr3 : RunW w w3 lb sb b [⟨#[108, 105, 109, 105, 116, 115, 32, 48, 32, 49, 32, 49, 32, 49]⟩, ⟨#[108, 105, 109, 105, 116, 115, 32, 49, 32, 49, 32, 49, 32, 49]⟩] (.slice none 0 0) (.pointer (some ⟨rb0, 0, none⟩)) 32 4096 262144 4096 mx [] := by
    have hz := HZ.out
    have h1 := HS1.out.size
    have h2 := HL.out.lt
    have h3 := Blk.lt hses
    rw [hw3, hb]
    exact ⟨(Same.trans (Same.trans HS1.out hs2) (Fr.alloc (Fr.refl _ w2) _)).below, (Blk.sm HL.out hs2).alloc _, Blk.alloc hses _, bd_new w2, (HM.out.fr (Same.trans (Same.trans HS1.out hs2) (Fr.alloc (Fr.refl _ w2) _)) (fun x => x)), by omega, Nat.lt_of_lt_of_le h2 hs2.size, h3, by omega, by omega, by simp⟩
  have HR := Px.hid hr3
  have HW3 := Px.hid (And.intro hw3 hb)
  clear hs2 hsb hses l1 hll HL hr3 HZ HM HS1 hw3 hb
  go_wp2
  rw [← HW3.out.1, ← HW3.out.2]
  refine wp_loop_rounds 3 ?_
  rw [rounds_succ]
  have l0 := HR.out.lines.lt
  have c0 : World.cell? _ ⟨lb, 0, none⟩ = some (.string ⟨#[108, 105, 109, 105, 116, 115, 32, 48, 32, 49, 32, 49, 32, 49]⟩) := HR.out.lines.cell 0 rfl
  go_wp2_with fail
  refine (do_limno sb _ _ _ _ _ _ mx _ HR.out.ses HR.out.mx).mono ?_
  rintro e v0 ⟨rfl, hf0, hs0⟩
  replace HR := Px.hid (HR.out.act hf0 (fun _ x => .inl x) hs0 (HR.out.bd.fr hf0 (fun k hk x => by have := HR.out.sob; omega)))
  clear hf0 hs0
  clear c0 l0
  go_wp2_with fail
  refine (wstr_any b b [] [101, 114, 114, 111, 114, 32, 50] _ HR.out.bd (by decide) HR.out.hb).mono ?_
  rintro e x0 ⟨⟨nn, rfl⟩, hb0, hk0, ho0⟩
  replace HR := Px.hid (HR.out.wrote hb0 hk0)
  clear hb0 hk0 ho0
  go_wp2_with fail
  refine (wbyte_any b b _ 10 _ HR.out.bd (by decide) HR.out.hb).mono ?_
  rintro e y0 ⟨rfl, hb0, hk0, ho0⟩
  replace HR := Px.hid (HR.out.wrote hb0 hk0)
  clear hb0 hk0 ho0
  go_wp2
  rw [rounds_succ]
  have l1 := HR.out.lines.lt
  have c1 : World.cell? _ ⟨lb, 1, none⟩ = some (.string ⟨#[108, 105, 109, 105, 116, 115, 32, 49, 32, 49, 32, 49, 32, 49]⟩) := HR.out.lines.cell 1 rfl
  go_wp2_with fail
  refine (do_limyes sb _ _ _ _ _ _ mx _ HR.out.ses HR.out.mx).mono ?_
  rintro e v1 ⟨rfl, hf1, hs1⟩
  replace HR := Px.hid (HR.out.act hf1 (fun _ x => .inl x) hs1 (HR.out.bd.fr hf1 (fun k hk x => by have := HR.out.sob; omega)))
  clear hf1 hs1
  clear c1 l1
  go_wp2_with fail
  refine (wstr_any b b [101, 114, 114, 111, 114, 32, 50, 10] [111, 107] _ HR.out.bd (by decide) HR.out.hb).mono ?_
  rintro e x1 ⟨⟨nn, rfl⟩, hb1, hk1, ho1⟩
  replace HR := Px.hid (HR.out.wrote hb1 hk1)
  clear hb1 hk1 ho1
  go_wp2_with fail
  refine (wbyte_any b b _ 10 _ HR.out.bd (by decide) HR.out.hb).mono ?_
  rintro e y1 ⟨rfl, hb1, hk1, ho1⟩
  replace HR := Px.hid (HR.out.wrote hb1 hk1)
  clear hb1 hk1 ho1
  go_wp2
  rw [rounds_succ]
  go_wp2_with fail
  refine (bstr_any b b _ _ HR.out.bd HR.out.hb).mono ?_
  rintro e w9 ⟨rfl, hbl9⟩
  have HE := Px.hid (HR.out.bel.trans (hbl9.mono (by have := HR.out.lo; have := HR.out.sob; omega)))
  clear hbl9
  go_wp2
  go_ret2
  exact ⟨rfl, Same.of HE.out⟩
set_option maxRecDepth 100000 in
set_option maxHeartbeats 16000000 in
theorem run_key (mx : Int) (w : World) (hm : MaxW w mx) : Calls Tryz.prog 6 #[.string ⟨#[107, 101, 121, 32, 97, 32, 54, 49, 10, 110, 97, 109, 101, 115]⟩] w fun e w' => e = .returned (.tuple #[.string ⟨#[111, 107, 10, 54, 49, 10]⟩, .int .i64 0]) ∧ Same w w' := by
  have HM := Px.hid hm
  have HSP := Px.hid (split_at ⟨#[107, 101, 121, 32, 97, 32, 54, 49, 10, 110, 97, 109, 101, 115]⟩ ⟨#[10]⟩ 2 [⟨#[107, 101, 121, 32, 97, 32, 54, 49]⟩, ⟨#[110, 97, 109, 101, 115]⟩] (by decide) (by decide) (by decide) (by decide) mx)
  have HZ := Px.hid (World.block_lt_of_cell? _ _ hm)
  clear hm
  go_enter Tryz.func6, Tryz.ntmps6
  go_wp2_with fail
  refine (HSP.out _ HM.out).mono ?_
  rintro e w1 ⟨lb, rfl, hs1, hlb, hbl⟩
  have l1 : w1.cell? ⟨lb, 1, none⟩ = some (.string ⟨#[110, 97, 109, 101, 115]⟩) := hbl.cell 1 rfl
  have hll := hbl.lt
  have HL := Px.hid hbl
  have HS1 := Px.hid hs1
  clear hs1 hlb hbl HSP
  go_wp2_with fail
  refine (sc_new _).mono ?_
  rintro e w2 ⟨sb, rb0, rfl, hs2, hsb, hses⟩
  obtain ⟨b, hb⟩ : ∃ b, b = w2.heap.size := ⟨_, rfl⟩
  obtain ⟨w3, hw3⟩ : ∃ w3, w3 = w2.alloc (.cells #[.pointer none, .slice none 0 0] 37 (0, 0)) := ⟨_, rfl⟩
  have hr3 : RunW w w3 lb sb b [⟨#[107, 101, 121, 32, 97, 32, 54, 49]⟩, ⟨#[110, 97, 109, 101, 115]⟩] (.slice none 0 0) (.pointer (some ⟨rb0, 0, none⟩)) 32 4096 262144 4096 mx [] := by
    have hz := HZ.out
    have h1 := HS1.out.size
    have h2 := HL.out.lt
    have h3 := Blk.lt hses
    rw [hw3, hb]
    exact ⟨(Same.trans (Same.trans HS1.out hs2) (Fr.alloc (Fr.refl _ w2) _)).below, (Blk.sm HL.out hs2).alloc _, Blk.alloc hses _, bd_new w2, (HM.out.fr (Same.trans (Same.trans HS1.out hs2) (Fr.alloc (Fr.refl _ w2) _)) (fun x => x)), by omega, Nat.lt_of_lt_of_le h2 hs2.size, h3, by omega, by omega, by simp⟩
  have HR := Px.hid hr3
  have HW3 := Px.hid (And.intro hw3 hb)
  clear hs2 hsb hses l1 hll HL hr3 HZ HM HS1 hw3 hb
  go_wp2
  rw [← HW3.out.1, ← HW3.out.2]
  refine wp_loop_rounds 3 ?_
  rw [rounds_succ]
  have l0 := HR.out.lines.lt
  have c0 : World.cell? _ ⟨lb, 0, none⟩ = some (.string ⟨#[107, 101, 121, 32, 97, 32, 54, 49]⟩) := HR.out.lines.cell 0 rfl
  go_wp2_with fail
  refine (do_key sb _ _ _ _ _ _ mx _ HR.out.ses HR.out.mx rfl).mono ?_
  rintro e v0 ⟨rfl, hf0, ks0, rk, hrk, hs0, hr0⟩
  have HB := Px.hid (show b < w3.heap.size ∧ b < rk from ⟨Nat.lt_of_lt_of_le (by rw [HW3.out.1, HW3.out.2]; simp) (Nat.le_refl _), Nat.lt_of_lt_of_le (by rw [HW3.out.1, HW3.out.2]; simp) hrk⟩)
  have HA := Px.hid hr0
  replace HR := Px.hid (HR.out.act hf0 (fun _ x => .inl x) hs0 (HR.out.bd.fr hf0 (fun k hk x => by have := HR.out.sob; omega)))
  clear hf0 hs0 hr0 hrk
  clear c0 l0
  go_wp2_with fail
  refine (wstr_any b b [] [111, 107] _ HR.out.bd (by decide) HR.out.hb).mono ?_
  rintro e x0 ⟨⟨nn, rfl⟩, hb0, hk0, ho0⟩
  replace HR := Px.hid (HR.out.wrote hb0 hk0)
  replace HA := Px.hid (HA.out.oth ho0 HB.out.1 HB.out.2)
  clear hb0 hk0 ho0
  go_wp2_with fail
  refine (wbyte_any b b _ 10 _ HR.out.bd (by decide) HR.out.hb).mono ?_
  rintro e y0 ⟨rfl, hb0, hk0, ho0⟩
  replace HR := Px.hid (HR.out.wrote hb0 hk0)
  replace HA := Px.hid (HA.out.oth ho0 HB.out.1 HB.out.2)
  clear hb0 hk0 ho0
  go_wp2
  rw [rounds_succ]
  have l1 := HR.out.lines.lt
  have c1 : World.cell? _ ⟨lb, 1, none⟩ = some (.string ⟨#[110, 97, 109, 101, 115]⟩) := HR.out.lines.cell 1 rfl
  go_wp2_with fail
  refine (do_names sb _ _ _ _ _ _ mx _ rk _ HR.out.ses HR.out.mx rfl HA.out).mono ?_
  rintro e v1 ⟨rfl, hf1⟩
  replace HR := Px.hid (HR.out.act hf1 (fun _ x => .inr (by have := HB.out.2; omega)) (Blk.fr HR.out.ses hf1 (fun x => by have := HB.out.2; have := HR.out.sob; omega)) (HR.out.bd.ring hf1 HA.out))
  clear hf1
  clear c1 l1
  go_wp2_with fail
  refine (wstr_any b b [111, 107, 10] [54, 49] _ HR.out.bd (by decide) HR.out.hb).mono ?_
  rintro e x1 ⟨⟨nn, rfl⟩, hb1, hk1, ho1⟩
  replace HR := Px.hid (HR.out.wrote hb1 hk1)
  clear hb1 hk1 ho1
  go_wp2_with fail
  refine (wbyte_any b b _ 10 _ HR.out.bd (by decide) HR.out.hb).mono ?_
  rintro e y1 ⟨rfl, hb1, hk1, ho1⟩
  replace HR := Px.hid (HR.out.wrote hb1 hk1)
  clear hb1 hk1 ho1
  go_wp2
  rw [rounds_succ]
  go_wp2_with fail
  refine (bstr_any b b _ _ HR.out.bd HR.out.hb).mono ?_
  rintro e w9 ⟨rfl, hbl9⟩
  have HE := Px.hid (HR.out.bel.trans (hbl9.mono (by have := HR.out.lo; have := HR.out.sob; omega)))
  clear hbl9
  go_wp2
  go_ret2
  exact ⟨rfl, Same.of HE.out⟩
end Go.Proofs.YtebpacdbcoacgaaGreatDoor
