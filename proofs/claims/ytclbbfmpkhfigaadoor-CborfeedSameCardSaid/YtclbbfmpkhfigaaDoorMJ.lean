/-
  Several texts in one: The walk over the statement CborfeedSame.
-/
import Derived.Test.YtclbbfmpkhfigaaDoorMI
/-! The walk over the statement CborfeedSame. -/
namespace Go.Proofs.YtclbbfmpkhfigaaDoor
open Go.RowKit Go.Px Go.Px.Cf

theorem FeedAt.footLt {w : World} {b : Nat} {f : Feed} {F : Nat → Prop} (h : FeedAt w b f F) : ∀ k, F k → k < w.heap.size := by
  obtain ⟨vt, vo, vs, h, rfl⟩ := h
  exact h.footLt
/-- A feed of the call's own, and a list that lies elsewhere. -/
structure Beside (w wx : World) (b : Nat) (f : Feed) (vl : Value) (L : List Atom) (F : Nat → Prop) : Prop where
  at_ : FeedAt wx b f F
  ok : FeedOk f
  old : ∀ k, F k → w.heap.size ≤ k
  same : Same w wx
  list : Owns wx 72 3 cAtom vl L
  apart : ∀ g, vl.ownBlock = some g → ¬ F g
theorem Beside.sm {w wx wy : World} {b : Nat} {f : Feed} {vl : Value} {L : List Atom} {F : Nat → Prop} (h : Beside w wx b f vl L F) (hs : Same wx wy) : Beside w wy b f vl L F :=
  ⟨h.at_.same hs, h.ok, h.old, h.same.trans hs, Owns.same h.list hs, h.apart⟩
theorem Beside.write {w wx : World} {b : Nat} {f : Feed} {vl : Value} {L : List Atom} {F : Nat → Prop} (h : Beside w wx b f vl L F) (hT : Tabs w) (s : Bytes) (hs : s.length ≤ maxLen) :
    Calls Tryd.prog 17 #[.pointer (some ⟨b, 0, none⟩), S s] wx fun r w' => r = .returned (.int .i64 (Cf.write f s).err) ∧ ∃ F', Beside w w' b (Cf.write f s) vl L F' := by
  refine (write_any b f s F wx h.at_ h.ok hs (fun k hk => Nat.le_trans hT.two (h.old k hk)) (hT.same h.same)).mono ?_
  rintro e w' ⟨rfl, F', g1, g2, g3, g4⟩
  refine ⟨rfl, F', g1, g4, fun k hk => ?_, Fr.toSame (Fr.trans (h.same.fr F) g2 (fun _ _ e => e)) h.old, h.list.fr g2 h.apart, fun g hg e => ?_⟩
  · rcases g3 k hk with e | e
    · exact h.old k e
    · exact Nat.le_trans h.same.size e
  · rcases g3 g e with e | e
    · exact h.apart g hg e
    · have := h.list.lt hg; omega
theorem Beside.ends {w wx : World} {b : Nat} {f : Feed} {vl : Value} {L : List Atom} {F : Nat → Prop} (h : Beside w wx b f vl L F) :
    Calls Tryd.prog 19 #[.pointer (some ⟨b, 0, none⟩)] wx fun e w' => ∃ v, e = .returned (.tuple #[v, .int .i64 (Cf.End f).2.1, .int .i64 (Cf.End f).2.2]) ∧ Owns w' 72 3 cAtom v (Cf.End f).1 ∧ Same wx w' ∧ (∀ k, v.ownBlock = some k → wx.heap.size ≤ k) := end_err b f F wx h.at_ h.ok
set_option maxRecDepth 100000 in
set_option maxHeartbeats 2000000 in
theorem law_CborfeedSame (s : Bytes) (n : Int) (lim : Lim) (w : World) (hs0 : s.length ≤ 140737488351232) (hn : -9223372036854775808 ≤ n ∧ n ≤ 9223372036854775807) (hT : Tabs w) :
    Calls Tryd.prog 13 #[S s, .int .i64 n, limV lim] w fun e w' => e = .returned (.bool true) ∧ Below w.heap.size w w' := by
  have hs : s.length ≤ 140737488355327 := by omega
  clear hs0
  have HS := Px.hid (And.intro hs hT)
  have HO := Px.hid (On.boxed lim hT)
  have hsz : (ByteArray.mk s.toArray).size = s.length := size_S s
  have hsl : s.length ≤ 140737488355327 := hs
  obtain ⟨hn1, hn2⟩ := hn
  clear hs hT
  unfold limV
  go_enter Tryd.func13, Tryd.ntmps13
  go_wp2_with fail
  refine (wakes_any _ HO.out.tabs HO.out.tabs.two).mono ?_
  rintro e w1 ⟨rfl, hs⟩
  have HO := Px.hid (HO.out.sm hs)
  have HT1 := Px.hid HO.out.tabs
  have HW0 := Px.hid HO.out.lim.1
  clear hs
  obtain ⟨c0, c1, c2, c3⟩ := HO.out.lim.cells
  cases hm : lim.may
  · have HM := Px.hid hm
    clear hm
    go_wp2_with fail
    refine (new_no lim _ HM.out).mono ?_
    rintro e w2 ⟨rfl, hs⟩
    have HO := Px.hid (HO.out.sm hs)
    clear hs c0 c1 c2 c3
    obtain ⟨c0, c1, c2, c3⟩ := HO.out.lim.cells
    go_wp2_with fail
    refine (decode_any s lim HS.out.1 _ HO.out.tabs).mono ?_
    intro e w3 hg
    obtain ⟨a, c, rfl, ho, hs⟩ := hg.len
    rw [R7.decode_no HM.out]
    have HO := Px.hid (HO.out.sm hs)
    clear hs hg ho c0 c1 c2 c3
    go_wp2
    go_ret
    exact ⟨rfl, HO.out.lim.1.below⟩
  · have HM := Px.hid hm
    clear hm
    go_wp2_with fail
    refine (Own.new (Same.refl w1) HM.out).mono ?_
    rintro e w2 ⟨b, rfl, ⟨F, f1, f2, f3, f4⟩, hs, hb⟩
    have HF := Px.hid (And.intro f1 (And.intro f2 (And.intro f1.footLt f4)))
    have HO := Px.hid (HO.out.sm hs)
    have HW1 := Px.hid (And.intro HO.out.lim.1 f3)
    clear f1 f2 f3 f4 hs hb c0 c1 c2 c3
    obtain ⟨c0, c1, c2, c3⟩ := HO.out.lim.cells
    go_wp2_with fail
    refine (decode_any s lim HS.out.1 _ HO.out.tabs).mono ?_
    rintro e w3 ⟨vo, rfl, ho, hs, hfr⟩
    obtain ⟨a, c, hv, _⟩ := ho.len
    subst hv
    have HO := Px.hid (HO.out.sm hs)
    have HB := Px.hid (show Beside w1 w3 b (Cf.init lim) (.slice a (R7.decode s lim).1.length c) (R7.decode s lim).1 F from
      ⟨HF.out.1.same hs, HF.out.2.1, HF.out.2.2.2, HW1.out.2.trans hs, ho, fun g hg e => by have := hfr g hg; have := HF.out.2.2.1 g e; omega⟩)
    have HDY := Px.hid (show R7.decode s lim = Cf.End (Cf.write (Cf.init lim) s) from by rw [R7.decode_yes HM.out]; exact (R7.feed_ref s lim HM.out).2.1.symm)
    clear hs ho hfr c0 c1 c2 c3 HF
    obtain ⟨d, hd⟩ : ∃ d, d = R7.decode s lim := ⟨_, rfl⟩
    rw [← hd] at HB HDY ⊢
    clear hd
    have HF2 := Px.hid (show ∀ k, k ≤ s.length → Cf.write (Cf.write (Cf.init lim) (s.take k)) (s.drop k) = Cf.write (Cf.init lim) s from fun k _ => by rw [← Cf.write_append, List.take_append_drop])
    go_upto_if 35 with fail
    go_cut [12] (fun t12 wx => (∃ k : Nat, k ≤ s.length ∧ t12 = .int .i64 (k : Nat)) ∧ wx = w3)
    case first =>
      by_cases hn0 : 0 < n
      · have hd1 : 0 ≤ n % ((s.length : Int) + 1) := Int.emod_nonneg _ (by omega)
        have hd2 : n % ((s.length : Int) + 1) < (s.length : Int) + 1 := Int.emod_lt_of_pos _ (by omega)
        obtain ⟨k, hk⟩ : ∃ k : Nat, n % ((s.length : Int) + 1) = (k : Int) := ⟨(n % ((s.length : Int) + 1)).toNat, by omega⟩
        have hk2 : k ≤ s.length := by omega
        have HK := Px.hid hk
        clear hk hd1 hd2
        go_wp2_with fail
        go_meet
        rw [HK.out]
        exact ⟨⟨k, hk2, rfl⟩, rfl⟩
      · go_wp2_with fail
        go_meet
        exact ⟨⟨0, Nat.zero_le _, rfl⟩, rfl⟩
    case rest =>
      obtain ⟨⟨k, hk, rfl⟩, hwc⟩ := hcut
      subst hwc
      have hto := to_S s k hk
      have hfrom := from_S s k hk
      have HK := Px.hid (And.intro (HF2.out k hk) (And.intro (show (s.take k).length ≤ maxLen by rw [List.length_take]; unfold maxLen; omega) (show (s.drop k).length ≤ maxLen by rw [List.length_drop]; unfold maxLen; omega)))
      clear HF2
      go_wp2_with fail
      refine (HB.out.write HT1.out (s.take k) HK.out.2.1).mono ?_
      rintro e w4 ⟨rfl, F4, hb4⟩
      have HB := Px.hid hb4
      clear hb4
      go_wp2_with fail
      refine (HB.out.write HT1.out (s.drop k) HK.out.2.2).mono ?_
      rintro e w5 ⟨rfl, F5, hb5⟩
      rw [HK.out.1] at hb5 ⊢
      have HB := Px.hid hb5
      clear hb5 hto hfrom
      go_wp2_with fail
      refine HB.out.ends.mono ?_
      rintro e w6 ⟨ve, rfl, hve, hs, _⟩
      rw [← HDY.out] at hve ⊢
      have HB := Px.hid (HB.out.sm hs)
      have HE := Px.hid hve
      clear hve hs
      go_wp2_with fail
      refine (same_any _ _ _ _ HB.out.list HE.out).mono ?_
      rintro e w7 ⟨rfl, hs⟩
      have HB := Px.hid (HB.out.sm hs)
      clear hs
      go_wp2
      go_ret
      exact ⟨rfl, (HW0.out.trans HB.out.same).below⟩
end Go.Proofs.YtclbbfmpkhfigaaDoor
