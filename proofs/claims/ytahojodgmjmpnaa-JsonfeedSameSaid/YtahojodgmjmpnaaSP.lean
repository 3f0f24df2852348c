/-
  Several texts in one: What all rows of this seat share: arguments as plain data. The walk over the statement JsonfeedSame (turned from DerfeedSame by a program).
-/
import Derived.Test.YtahojodgmjmpnaaSD
import Derived.Test.YtahojodgmjmpnaaRows
import Derived.ProofKit
import Derived.OpenShut
import Derived.Carry
import Derived.Lib.SmallJoins
import Derived.Test.YtahojodgmjmpnaaSO
import Derived.Test.YtahojodgmjmpnaaSA
/-! What all rows of this seat share: arguments as plain data. -/
namespace Go.Proofs.Ytahojodgmjmpnaa
open Go.ChangeShapes Go.WideShapes Go.ChangeAt Go.RowKit Go.Px

theorem own : ownKnob Try.prog.godebug = none := by kernel_rfl
theorem laidOut : laidOutB Try.prog = true := by kernel_rfl
theorem int_range {k : IntKind} {n : Int} (h : (Lit.int k n).wf = true) : k.min ≤ n ∧ n ≤ k.max := by
  simpa [Lit.wf] using h
def LimFits (l : Lim) : Prop := (IntKind.i64.min ≤ l.d ∧ l.d ≤ IntKind.i64.max) ∧ (IntKind.i64.min ≤ l.i ∧ l.i ≤ IntKind.i64.max) ∧ (IntKind.i64.min ≤ l.b ∧ l.b ≤ IntKind.i64.max) ∧ (IntKind.i64.min ≤ l.r ∧ l.r ≤ IntKind.i64.max)
set_option maxRecDepth 100000 in
theorem open_lim {H : Type} {enc : TypeId × Value → H} {w : World} {base b0 : Nat} {sp : Nat → Bool} {held : Bool} {r : Reach} {v : Value} {d : DataW H} {ps : List MemPlace} (hv : Value.okWide Try.prog w r b0 24 v) (h : DataW.Trod enc Try.prog w base sp held 24 v d ps) :
    ∃ l : Lim, v = .agg #[.int .i64 l.d, .int .i64 l.i, .int .i64 l.b, .int .i64 l.r] ∧ LimFits l := by
  obtain ⟨v0, v1, v2, v3, y0, y1, y2, y3, n, rfl, rfl, rfl, h0, h1, h2, h3⟩ := Joins.open_agg4 Try.underlying24 (by kernel_rfl) (by kernel_rfl) hv h
  obtain ⟨a, e0, rfl, w0⟩ := DataW.trod_int Try.underlying3 h0
  obtain ⟨b, e1, rfl, w1⟩ := DataW.trod_int Try.underlying3 h1
  obtain ⟨c, e2, rfl, w2⟩ := DataW.trod_int Try.underlying3 h2
  obtain ⟨e, e3, rfl, w3⟩ := DataW.trod_int Try.underlying3 h3
  simp only [List.cons.injEq, and_true] at e0 e1 e2 e3
  subst e0 e1 e2 e3
  exact ⟨⟨a, b, c, e⟩, rfl, int_range w0, int_range w1, int_range w2, int_range w3⟩
set_option maxRecDepth 100000 in
theorem open_str {H : Type} {enc : TypeId × Value → H} {w : World} {base b0 : Nat} {sp : Nat → Bool} {held : Bool} {r : Reach} {v : Value} {d : DataW H} {ps : List MemPlace} (hv : Value.okWide Try.prog w r b0 9 v) (h : DataW.Trod enc Try.prog w base sp held 9 v d ps) :
    ∃ l : List UInt8, v = S l ∧ l.length ≤ maxLen := by
  obtain ⟨s, rfl, _, _, hs⟩ := Go.ChangeMaps.open_string Try.underlying9 hv h
  have e : s.data.toList.length = s.size := Array.length_toList
  exact ⟨s.data.toList, mk_S s, e ▸ hs⟩
end Go.Proofs.Ytahojodgmjmpnaa

/-! The walk over the statement JsonfeedSame (turned from DerfeedSame by a program). -/
namespace Go.Proofs.Ytahojodgmjmpnaa
open Go.RowKit Go.Px

theorem dec_yes {s : Bytes} {lim : Lim} (hm : lim.may = true) : R6.decode s lim = ((R6.read s lim).1, (R6.read s lim).2.place, (R6.read s lim).2.err) := by unfold R6.decode; rw [if_pos hm]
theorem feed_end (s : Bytes) (lim : Lim) (hm : lim.may = true) : J6.End (J6.write (J6.init lim) s) = ((R6.read s lim).1, (R6.read s lim).2.place, (R6.read s lim).2.err) := by
  have h := J6.feed_ref s lim hm
  unfold J6.obs at h
  simp only [Prod.mk.injEq] at h
  exact h.2.2.2
theorem FeedAt.footLt {w : World} {b : Nat} {f : J6.Feed} {F : Nat → Prop} (h : FeedAt w b f F) : ∀ k, F k → k < w.heap.size := by
  obtain ⟨vo, vs, tv, tb, ps, h, rfl⟩ := h
  exact fun k hk => h.footLt hk
/-- A feed of the call's own, and a list that lies elsewhere. -/
structure Beside (w wx : World) (b : Nat) (f : J6.Feed) (vl : Value) (L : List Val) (F : Nat → Prop) : Prop where
  at_ : FeedAt wx b f F
  ok : J6.Fits f
  old : ∀ k, F k → w.heap.size ≤ k
  same : Same w wx
  list : Owns wx 64 3 cVal vl L
  apart : ∀ g, vl.ownBlock = some g → ¬ F g
theorem Beside.sm {w wx wy : World} {b : Nat} {f : J6.Feed} {vl : Value} {L : List Val} {F : Nat → Prop} (h : Beside w wx b f vl L F) (hs : Same wx wy) : Beside w wy b f vl L F :=
  ⟨h.at_.same hs, h.ok, h.old, h.same.trans hs, Owns.same h.list hs, h.apart⟩
theorem Beside.write {w wx : World} {b : Nat} {f : J6.Feed} {vl : Value} {L : List Val} {F : Nat → Prop} (h : Beside w wx b f vl L F) (s : Bytes) (hs : s.length ≤ maxLen) :
    Calls Try.prog 11 #[.pointer (some ⟨b, 0, none⟩), S s] wx fun r w' => r = .returned (.int .i64 (J6.write f s).err) ∧ ∃ F', Beside w w' b (J6.write f s) vl L F' := by
  refine (write_any b f s F wx h.at_ h.ok hs).mono ?_
  rintro e w' ⟨rfl, F', g1, g2, g3⟩
  refine ⟨rfl, F', g1, h.ok.write s f, fun k hk => ?_, Fr.toSame (Fr.trans (h.same.fr F) g2 (fun _ _ e => e)) h.old, h.list.fr g2 h.apart, fun g hg e => ?_⟩
  · rcases g3 k hk with e | e
    · exact h.old k e
    · exact Nat.le_trans h.same.size e
  · rcases g3 g e with e | e
    · exact h.apart g hg e
    · have := h.list.lt hg; omega
theorem Beside.ends {w wx : World} {b : Nat} {f : J6.Feed} {vl : Value} {L : List Val} {F : Nat → Prop} (h : Beside w wx b f vl L F) :
    Calls Try.prog 13 #[.pointer (some ⟨b, 0, none⟩)] wx fun e w' => ∃ v, e = .returned (.tuple #[v, .int .i64 (J6.End f).2.1, .int .i64 (J6.End f).2.2]) ∧ Owns w' 64 3 cVal v (J6.End f).1 ∧ Same wx w' ∧ (∀ k, v.ownBlock = some k → wx.heap.size ≤ k) := end_any b f F wx h.at_ h.ok
set_option maxRecDepth 100000 in
set_option maxHeartbeats 2000000 in
theorem law_JsonfeedSame (s : Bytes) (n : Int) (lim : Lim) (w : World) (hs0 : s.length ≤ maxLen) (hn : -9223372036854775808 ≤ n ∧ n ≤ 9223372036854775807) :
    Calls Try.prog 7 #[S s, .int .i64 n, limV lim] w fun e w' => e = .returned (.bool true) ∧ Below w.heap.size w w' := by
  have hs : s.length ≤ 9223372036854775807 := by unfold maxLen at hs0; omega
  clear hs0
  have HS := Px.hid (And.intro hs True.intro)
  have hsz : (ByteArray.mk s.toArray).size = s.length := size_S s
  have hsl : s.length ≤ 9223372036854775807 := hs
  obtain ⟨hn1, hn2⟩ := hn
  clear hs
  unfold limV
  go_enter Try.func7, Try.ntmps7
  go_wp2_with fail
  have HO := Px.hid (LimIn.boxed w lim)
  refine (wakes_any _).mono ?_
  rintro e w1 ⟨rfl, hs⟩
  have HO := Px.hid (HO.out.same hs)
  have HW0 := Px.hid HO.out.1
  clear hs
  obtain ⟨c0, c1, c2, c3⟩ := HO.out.cells
  cases hm : lim.may
  · have HM := Px.hid hm
    clear hm
    go_wp2_with fail
    refine (new_no lim _ HM.out).mono ?_
    rintro e w2 ⟨rfl, hs⟩
    have HO := Px.hid (HO.out.same hs)
    clear hs c0 c1 c2 c3
    obtain ⟨c0, c1, c2, c3⟩ := HO.out.cells
    go_wp2_with fail
    refine (jdecode_any s lim HS.out.1 _).mono ?_
    rintro e w3 ⟨vo, rfl, ho, hs, hfr⟩
    obtain ⟨a, c, hv, _⟩ := ho.len
    subst hv
    have HO := Px.hid (HO.out.same hs)
    clear hs ho hfr c0 c1 c2 c3
    rw [dec_no HM.out]
    go_wp2
    go_ret
    exact ⟨rfl, HO.out.1.below⟩
  · have HM := Px.hid hm
    clear hm
    go_wp2_with fail
    refine (Own.new (Same.refl w1) HM.out).mono ?_
    rintro e w2 ⟨b, rfl, ⟨F, f1, f2, f3, f4⟩, hs, hb⟩
    have HF := Px.hid (And.intro f1 (And.intro f2 (And.intro f1.footLt f4)))
    have HO := Px.hid (HO.out.same hs)
    have HW1 := Px.hid (And.intro HO.out.1 f3)
    clear f1 f2 f3 f4 hs hb c0 c1 c2 c3
    obtain ⟨c0, c1, c2, c3⟩ := HO.out.cells
    go_wp2_with fail
    refine (jdecode_any s lim HS.out.1 _).mono ?_
    rintro e w3 ⟨vo, rfl, ho, hs, hfr⟩
    obtain ⟨a, c, hv, _⟩ := ho.len
    subst hv
    have HO := Px.hid (HO.out.same hs)
    have HB := Px.hid (show Beside w1 w3 b (J6.init lim) (.slice a (R6.decode s lim).1.length c) (R6.decode s lim).1 F from
      ⟨HF.out.1.same hs, HF.out.2.1, HF.out.2.2.2, HW1.out.2.trans hs, ho, fun g hg e => by have := hfr g hg; have := HF.out.2.2.1 g e; omega⟩)
    have HDY := Px.hid (show R6.decode s lim = J6.End (J6.write (J6.init lim) s) from by rw [dec_yes HM.out]; exact (feed_end s lim HM.out).symm)
    clear hs ho hfr c0 c1 c2 c3 HF
    obtain ⟨d, hd⟩ : ∃ d, d = R6.decode s lim := ⟨_, rfl⟩
    rw [← hd] at HB HDY ⊢
    clear hd
    have HF2 := Px.hid (show ∀ k, k ≤ s.length → J6.write (J6.write (J6.init lim) (s.take k)) (s.drop k) = J6.write (J6.init lim) s from fun k _ => by rw [← J6.write_app, List.take_append_drop])
    go_upto_if 35 with fail
    go_cut [12] (fun t12 wx => (∃ k : Nat, k ≤ s.length ∧ t12 = .int .i64 (k : Nat)) ∧ wx = w3)
    case first =>
      by_cases hn0 : 0 < n
      · by_cases hmx : (s.length : Int) = 9223372036854775807
        · have hwm : IntKind.i64.wrap ((s.length : Int) + 1) = -9223372036854775808 := by rw [hmx]; rfl
          obtain ⟨k, hk⟩ : ∃ k : Nat, n = (k : Int) := ⟨n.toNat, by omega⟩
          have hk2 : k ≤ s.length := by omega
          have HK := Px.hid hk
          clear hk hmx
          go_wp2_with fail
          go_meet
          refine ⟨⟨k, hk2, ?_⟩, rfl⟩
          rw [← HK.out]
          simp
          omega
        · have hsl2 : (s.length : Int) ≤ 9223372036854775806 := by omega
          have hd1 : 0 ≤ n % ((s.length : Int) + 1) := Int.emod_nonneg _ (by omega)
          have hd2 : n % ((s.length : Int) + 1) < (s.length : Int) + 1 := Int.emod_lt_of_pos _ (by omega)
          obtain ⟨k, hk⟩ : ∃ k : Nat, n % ((s.length : Int) + 1) = (k : Int) := ⟨(n % ((s.length : Int) + 1)).toNat, by omega⟩
          have hk2 : k ≤ s.length := by omega
          have HK := Px.hid hk
          clear hk hd1 hd2
          go_wp2_with fail
          go_meet
          rw [HK.out]
          exact ⟨⟨k, hk2, rfl⟩, rfl⟩
      · go_wp2_with fail
        go_meet
        exact ⟨⟨0, Nat.zero_le _, rfl⟩, rfl⟩
    case rest =>
      obtain ⟨⟨k, hk, rfl⟩, hwc⟩ := hcut
      subst hwc
      have hto := to_S s k hk
      have hfrom := from_S s k hk
      have HK := Px.hid (And.intro (HF2.out k hk) (And.intro (show (s.take k).length ≤ maxLen by rw [List.length_take]; unfold maxLen; omega) (show (s.drop k).length ≤ maxLen by rw [List.length_drop]; unfold maxLen; omega)))
      clear HF2
      go_wp2_with fail
      refine (HB.out.write (s.take k) HK.out.2.1).mono ?_
      rintro e w4 ⟨rfl, F4, hb4⟩
      have HB := Px.hid hb4
      clear hb4
      go_wp2_with fail
      refine (HB.out.write (s.drop k) HK.out.2.2).mono ?_
      rintro e w5 ⟨rfl, F5, hb5⟩
      rw [HK.out.1] at hb5 ⊢
      have HB := Px.hid hb5
      clear hb5 hto hfrom
      go_wp2_with fail
      refine HB.out.ends.mono ?_
      rintro e w6 ⟨ve, rfl, hve, hs, _⟩
      rw [← HDY.out] at hve ⊢
      have HB := Px.hid (HB.out.sm hs)
      have HE := Px.hid hve
      clear hve hs
      go_wp2_with fail
      refine (same_any _ _ _ _ HB.out.list HE.out).mono ?_
      rintro e w7 ⟨rfl, hs⟩
      have HB := Px.hid (HB.out.sm hs)
      clear hs
      go_wp2
      go_ret
      exact ⟨rfl, (HW0.out.trans HB.out.same).below⟩
end Go.Proofs.Ytahojodgmjmpnaa
