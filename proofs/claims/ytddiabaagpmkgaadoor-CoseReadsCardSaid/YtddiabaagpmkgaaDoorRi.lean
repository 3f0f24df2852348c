/-
  The walk over the reference's item (layer 17), kind by kind.
-/
import Derived.Test.YtddiabaagpmkgaaDoorRx
namespace Go.Proofs.YtddiabaagpmkgaaDoor
open Go.RowKit Go.Px Go.Px.R7

/-- What all kinds share: the head was read. -/
def Headed (s : Bytes) (lim : Lim) (x : St) (p kk n q : Nat) (y : St) : Prop := R7.head s lim x p = (some (kk, n, q), y)

theorem inner_frames_6 (s : Bytes) (lim : Lim) (d : Nat) (hm : lim.may = true) (_n q : Nat) (x : St) (hg : Good s lim x q d) (t : Nat) (z : St) (e : item s lim d x q = (some t, z)) : z.frames = x.frames := by
  have := item_sim (s := s) hm d x q _ hg.sim hg.out
  rw [e] at this
  exact this.1.frames
theorem inner_frames_4 (s : Bytes) (lim : Lim) (d : Nat) (hm : lim.may = true) : ∀ (n q : Nat) (x : St), Good s lim x q d → ∀ (t : Nat) (z : St), itemsN (item s lim d) n x q = (some t, z) → z.frames = x.frames := by
  intro n
  induction n with
  | zero =>
    intro q x _ t z e
    unfold itemsN at e
    simp only [Prod.mk.injEq] at e
    rw [e.2]
  | succ n ih =>
    intro q x hg t z e
    unfold itemsN at e
    cases hr : item s lim d x q with
    | mk o y =>
      rw [hr] at e
      cases o with
      | none => simp at e
      | some r => rw [ih r y (hg.item hm hr) t z e]; exact inner_frames_6 s lim d hm 0 q x hg r y hr
theorem inner_frames_5' (s : Bytes) (lim : Lim) (d : Nat) (hm : lim.may = true) : ∀ (n : Nat) (l : Option Bytes) (q : Nat) (x : St), Good s lim x q d → ∀ (t : Nat) (z : St), pairsN s (item s lim d) n l x q = (some t, z) → z.frames = x.frames := by
  intro n
  induction n with
  | zero =>
    intro l q x _ t z e
    unfold pairsN at e
    simp only [Prod.mk.injEq] at e
    rw [e.2]
  | succ n ih =>
    intro l q x hg t z e
    unfold pairsN at e
    cases hr : item s lim d x q with
    | mk o y =>
      rw [hr] at e
      cases o with
      | none => simp at e
      | some r =>
        simp only at e
        split at e
        · simp at e
        · cases hr2 : item s lim d y r with
          | mk o2 y2 =>
            rw [hr2] at e
            cases o2 with
            | none => simp at e
            | some r2 =>
              have hg1 := hg.item hm hr
              rw [ih _ r2 y2 (hg1.item hm hr2) t z e, inner_frames_6 s lim d hm 0 r y hg1 r2 y2 hr2]
              exact inner_frames_6 s lim d hm 0 q x hg r y hr
theorem inner_frames_5 (s : Bytes) (lim : Lim) (d : Nat) (hm : lim.may = true) (n q : Nat) (x : St) (hg : Good s lim x q d) (t : Nat) (z : St) (e : pairsN s (item s lim d) n none x q = (some t, z)) : z.frames = x.frames :=
  inner_frames_5' s lim d hm n none q x hg t z e

set_option maxRecDepth 100000 in
set_option maxHeartbeats 4000000 in
theorem item_0 (s : Bytes) (lim : Lim) (hm : lim.may = true) (hs : s.length ≤ 140737488355327) (d : Nat) (b p dp n q : Nat) (x y : St) (F : Nat → Prop) (w : World) (h : RdAt w b s lim x F) (hg : Good s lim x p d) (hd : ((dp + d : Nat) : Int) = lim.d) (hh : Headed s lim x p 0 n q y) :
    Calls Tryd.prog 60 #[.pointer (some ⟨b, 0, none⟩), .int .i64 (p : Nat), .int .i64 (dp : Nat)] w fun r w' => r = .returned (itemV (((some q, { y with out := y.out ++ [⟨0, n, []⟩] }) : Option Nat × St)).1) ∧ Did w b s lim F (((some q, { y with out := y.out ++ [⟨0, n, []⟩] }) : Option Nat × St)).2 w' := by
  obtain ⟨vo, h, rfl⟩ := h
  have hmay := Cf.may_of hm
  have hol := hg.out
  have ho : x.out.length ≤ 1000000 := by omega
  obtain ⟨hmv, hpq, hyo, hn64, hk8, hlt⟩ := hg.head hh
  have hqs := hmv.qs
  have hqb := hmv.qb
  have hyl : y.out.length ≤ 1000000 := by rw [hyo]; exact ho
  have hw := rhead_any s lim hm hs b p x vo w h hg.ps ho
  have e : R7.head s lim x p = (some (0, n, q), y) := hh
  rw [e] at hw
  have HW := Px.hid hw
  have HG := Px.hid (And.intro hg (And.intro hm (And.intro hmv (And.intro hyo (And.intro hlt hn64)))))
  have hdp : ((dp : Nat) : Int) + (d : Nat) = lim.d := by omega
  have HD := Px.hid hd
  clear hw e hh hg hmv hyo hlt hk8 h hm hol ho hd hmay
  go_enter Tryd.func60, Tryd.ntmps60
  go_wp2_with fail
  refine HW.out.mono ?_
  rintro e w1 ⟨rfl, hx, hxf⟩
  have HX := Px.hid (And.intro hx hxf)
  clear hx hxf HW
  unfold headV
  have f11 := HX.out.1.rd.free 11
  have hb : b < w1.heap.size := HX.out.1.rd.lt
  have c11 : w1.cell? ⟨b, 11, none⟩ = some vo := HX.out.1.cell11
  obtain ⟨i0, hi0, hz0, hz1, hz2⟩ := info_parts Tryd.infoAtom
  go_upto_region 18 with fail
  go_cut [] (fun wx => RAfter w1 wx b s lim y ⟨0, n, []⟩ vo)
  case first =>
    go_wp2_with (at_builtin; go_must (refine wpList_append_lies _ rfl _ _ _ rfl 0 62 i0 _ 3 32 Tryd.underlying50 hi0 hz0 hz1 hz2 rfl (by omega) vo y.out.length (y.out.flatMap cAtom) rfl (HX.out.1.out.alloc _) ⟨w1.heap.size, 0, none⟩ 1 1 (cAtom ⟨0, n, []⟩) rfl rfl (World.news_of_block (cs := #[.int .i64 0, .int .u64 n, S []]) (t := 62) (fr := (0, 0)) (heap_alloc_new w1 _)) (by simp [cAtom, Value.oneCell']) (by omega) (by unfold maxLen; omega) (by omega) (by omega) (w1.heap.size + 1) (by simp) ?_))
    intro gg cap w1 hown1 hgrow hat hlt
    have k11 := grown_cell1 hgrow c11 HX.out.1.ob.ne
    have e11 := grown_free1 hgrow c11 f11 HX.out.1.ob.ne
    go_wp2_with fail
    go_meet
    exact HX.out.1.afterOut hown1 (grown_alloc1 hgrow) (hat.elim .inl (fun e => .inr (by omega)))
  case rest =>
    obtain ⟨vo', hy, hyf, hyn⟩ := hcut
    have HY := Px.hid (And.intro hy (And.intro hyf hyn))
    clear hy hyf hyn c11 f11
    go_wp2
    go_ret2
    exact ⟨rfl, _, ⟨_, HY.out.1, rfl⟩, HX.out.2.step (Fresh.refl _ _) HY.out.2.1, Fresh.trans (Fresh.refl _ _) HX.out.2.size HY.out.2.2⟩

set_option maxRecDepth 100000 in
set_option maxHeartbeats 4000000 in
theorem item_1 (s : Bytes) (lim : Lim) (hm : lim.may = true) (hs : s.length ≤ 140737488355327) (d : Nat) (b p dp n q : Nat) (x y : St) (F : Nat → Prop) (w : World) (h : RdAt w b s lim x F) (hg : Good s lim x p d) (hd : ((dp + d : Nat) : Int) = lim.d) (hh : Headed s lim x p 1 n q y) :
    Calls Tryd.prog 60 #[.pointer (some ⟨b, 0, none⟩), .int .i64 (p : Nat), .int .i64 (dp : Nat)] w fun r w' => r = .returned (itemV (((some q, { y with out := y.out ++ [⟨1, n, []⟩] }) : Option Nat × St)).1) ∧ Did w b s lim F (((some q, { y with out := y.out ++ [⟨1, n, []⟩] }) : Option Nat × St)).2 w' := by
  obtain ⟨vo, h, rfl⟩ := h
  have hmay := Cf.may_of hm
  have hol := hg.out
  have ho : x.out.length ≤ 1000000 := by omega
  obtain ⟨hmv, hpq, hyo, hn64, hk8, hlt⟩ := hg.head hh
  have hqs := hmv.qs
  have hqb := hmv.qb
  have hyl : y.out.length ≤ 1000000 := by rw [hyo]; exact ho
  have hw := rhead_any s lim hm hs b p x vo w h hg.ps ho
  have e : R7.head s lim x p = (some (1, n, q), y) := hh
  rw [e] at hw
  have HW := Px.hid hw
  have HG := Px.hid (And.intro hg (And.intro hm (And.intro hmv (And.intro hyo (And.intro hlt hn64)))))
  have hdp : ((dp : Nat) : Int) + (d : Nat) = lim.d := by omega
  have HD := Px.hid hd
  clear hw e hh hg hmv hyo hlt hk8 h hm hol ho hd hmay
  go_enter Tryd.func60, Tryd.ntmps60
  go_wp2_with fail
  refine HW.out.mono ?_
  rintro e w1 ⟨rfl, hx, hxf⟩
  have HX := Px.hid (And.intro hx hxf)
  clear hx hxf HW
  unfold headV
  have f11 := HX.out.1.rd.free 11
  have hb : b < w1.heap.size := HX.out.1.rd.lt
  have c11 : w1.cell? ⟨b, 11, none⟩ = some vo := HX.out.1.cell11
  obtain ⟨i0, hi0, hz0, hz1, hz2⟩ := info_parts Tryd.infoAtom
  go_upto_region 18 with fail
  go_cut [] (fun wx => RAfter w1 wx b s lim y ⟨1, n, []⟩ vo)
  case first =>
    go_wp2_with (at_builtin; go_must (refine wpList_append_lies _ rfl _ _ _ rfl 0 62 i0 _ 3 32 Tryd.underlying50 hi0 hz0 hz1 hz2 rfl (by omega) vo y.out.length (y.out.flatMap cAtom) rfl (HX.out.1.out.alloc _) ⟨w1.heap.size, 0, none⟩ 1 1 (cAtom ⟨1, n, []⟩) rfl rfl (World.news_of_block (cs := #[.int .i64 1, .int .u64 n, S []]) (t := 62) (fr := (0, 0)) (heap_alloc_new w1 _)) (by simp [cAtom, Value.oneCell']) (by omega) (by unfold maxLen; omega) (by omega) (by omega) (w1.heap.size + 1) (by simp) ?_))
    intro gg cap w1 hown1 hgrow hat hlt
    have k11 := grown_cell1 hgrow c11 HX.out.1.ob.ne
    have e11 := grown_free1 hgrow c11 f11 HX.out.1.ob.ne
    go_wp2_with fail
    go_meet
    exact HX.out.1.afterOut hown1 (grown_alloc1 hgrow) (hat.elim .inl (fun e => .inr (by omega)))
  case rest =>
    obtain ⟨vo', hy, hyf, hyn⟩ := hcut
    have HY := Px.hid (And.intro hy (And.intro hyf hyn))
    clear hy hyf hyn c11 f11
    go_wp2
    go_ret2
    exact ⟨rfl, _, ⟨_, HY.out.1, rfl⟩, HX.out.2.step (Fresh.refl _ _) HY.out.2.1, Fresh.trans (Fresh.refl _ _) HX.out.2.size HY.out.2.2⟩

set_option maxRecDepth 100000 in
set_option maxHeartbeats 4000000 in
theorem item_7 (s : Bytes) (lim : Lim) (hm : lim.may = true) (hs : s.length ≤ 140737488355327) (d : Nat) (b p dp n q : Nat) (x y : St) (F : Nat → Prop) (w : World) (h : RdAt w b s lim x F) (hg : Good s lim x p d) (hd : ((dp + d : Nat) : Int) = lim.d) (hh : Headed s lim x p 7 n q y) :
    Calls Tryd.prog 60 #[.pointer (some ⟨b, 0, none⟩), .int .i64 (p : Nat), .int .i64 (dp : Nat)] w fun r w' => r = .returned (itemV (((some q, { y with out := y.out ++ [⟨7, n, []⟩] }) : Option Nat × St)).1) ∧ Did w b s lim F (((some q, { y with out := y.out ++ [⟨7, n, []⟩] }) : Option Nat × St)).2 w' := by
  obtain ⟨vo, h, rfl⟩ := h
  have hmay := Cf.may_of hm
  have hol := hg.out
  have ho : x.out.length ≤ 1000000 := by omega
  obtain ⟨hmv, hpq, hyo, hn64, hk8, hlt⟩ := hg.head hh
  have hqs := hmv.qs
  have hqb := hmv.qb
  have hyl : y.out.length ≤ 1000000 := by rw [hyo]; exact ho
  have hw := rhead_any s lim hm hs b p x vo w h hg.ps ho
  have e : R7.head s lim x p = (some (7, n, q), y) := hh
  rw [e] at hw
  have HW := Px.hid hw
  have HG := Px.hid (And.intro hg (And.intro hm (And.intro hmv (And.intro hyo (And.intro hlt hn64)))))
  have hdp : ((dp : Nat) : Int) + (d : Nat) = lim.d := by omega
  have HD := Px.hid hd
  clear hw e hh hg hmv hyo hlt hk8 h hm hol ho hd hmay
  go_enter Tryd.func60, Tryd.ntmps60
  go_wp2_with fail
  refine HW.out.mono ?_
  rintro e w1 ⟨rfl, hx, hxf⟩
  have HX := Px.hid (And.intro hx hxf)
  clear hx hxf HW
  unfold headV
  have f11 := HX.out.1.rd.free 11
  have hb : b < w1.heap.size := HX.out.1.rd.lt
  have c11 : w1.cell? ⟨b, 11, none⟩ = some vo := HX.out.1.cell11
  obtain ⟨i0, hi0, hz0, hz1, hz2⟩ := info_parts Tryd.infoAtom
  go_upto_region 18 with fail
  go_cut [] (fun wx => RAfter w1 wx b s lim y ⟨7, n, []⟩ vo)
  case first =>
    go_wp2_with (at_builtin; go_must (refine wpList_append_lies _ rfl _ _ _ rfl 0 62 i0 _ 3 32 Tryd.underlying50 hi0 hz0 hz1 hz2 rfl (by omega) vo y.out.length (y.out.flatMap cAtom) rfl (HX.out.1.out.alloc _) ⟨w1.heap.size, 0, none⟩ 1 1 (cAtom ⟨7, n, []⟩) rfl rfl (World.news_of_block (cs := #[.int .i64 7, .int .u64 n, S []]) (t := 62) (fr := (0, 0)) (heap_alloc_new w1 _)) (by simp [cAtom, Value.oneCell']) (by omega) (by unfold maxLen; omega) (by omega) (by omega) (w1.heap.size + 1) (by simp) ?_))
    intro gg cap w1 hown1 hgrow hat hlt
    have k11 := grown_cell1 hgrow c11 HX.out.1.ob.ne
    have e11 := grown_free1 hgrow c11 f11 HX.out.1.ob.ne
    go_wp2_with fail
    go_meet
    exact HX.out.1.afterOut hown1 (grown_alloc1 hgrow) (hat.elim .inl (fun e => .inr (by omega)))
  case rest =>
    obtain ⟨vo', hy, hyf, hyn⟩ := hcut
    have HY := Px.hid (And.intro hy (And.intro hyf hyn))
    clear hy hyf hyn c11 f11
    go_wp2
    go_ret2
    exact ⟨rfl, _, ⟨_, HY.out.1, rfl⟩, HX.out.2.step (Fresh.refl _ _) HY.out.2.1, Fresh.trans (Fresh.refl _ _) HX.out.2.size HY.out.2.2⟩

set_option maxRecDepth 100000 in
set_option maxHeartbeats 4000000 in
theorem item_4_full (s : Bytes) (lim : Lim) (hm : lim.may = true) (hs : s.length ≤ 140737488355327) (b p dp n q : Nat) (x y : St) (F : Nat → Prop) (w : World) (h : RdAt w b s lim x F) (hg : Good s lim x p 0) (hd : ((dp + 0 : Nat) : Int) = lim.d) (hh : Headed s lim x p 4 n q y) :
    Calls Tryd.prog 60 #[.pointer (some ⟨b, 0, none⟩), .int .i64 (p : Nat), .int .i64 (dp : Nat)] w fun r w' => r = .returned (itemV (((none, fault y p 10) : Option Nat × St)).1) ∧ Did w b s lim F (((none, fault y p 10) : Option Nat × St)).2 w' := by
  obtain ⟨vo, h, rfl⟩ := h
  have hmay := Cf.may_of hm
  have hol := hg.out
  have ho : x.out.length ≤ 1000000 := by omega
  obtain ⟨hmv, hpq, hyo, hn64, hk8, hlt⟩ := hg.head hh
  have hqs := hmv.qs
  have hqb := hmv.qb
  have hyl : y.out.length ≤ 1000000 := by rw [hyo]; exact ho
  have hw := rhead_any s lim hm hs b p x vo w h hg.ps ho
  have e : R7.head s lim x p = (some (4, n, q), y) := hh
  rw [e] at hw
  have HW := Px.hid hw
  have HG := Px.hid (And.intro hg (And.intro hm (And.intro hmv (And.intro hyo (And.intro hlt hn64)))))
  have hdp : ((dp : Nat) : Int) + (0 : Nat) = lim.d := by omega
  have HD := Px.hid hd
  clear hw e hh hg hmv hyo hlt hk8 h hm hol ho hd hmay
  have hdd : lim.d ≤ (dp : Int) := by omega
  have hdc : decide (lim.d ≤ (dp : Int)) = true := decide_eq_true hdd
  go_enter Tryd.func60, Tryd.ntmps60
  go_wp2_with fail
  refine HW.out.mono ?_
  rintro e w1 ⟨rfl, hx, hxf⟩
  have HX := Px.hid (And.intro hx hxf)
  clear hx hxf HW
  unfold headV
  obtain ⟨_, c1, _, _, _, _, _, _, _⟩ := HX.out.1.rd.cells
  go_wp2_with fail
  refine (xfault_any b _ p 10 s lim y _ _ _ HX.out.1.rd).mono ?_
  rintro e w2 ⟨rfl, hr, hf⟩
  have HY := Px.hid (And.intro (HX.out.1.step hr hf rfl) (HX.out.2.trans (It.foot (vo := vo) hf) (fun _ _ h => h)))
  clear hr hf
  go_wp2
  go_ret2
  exact ⟨rfl, _, ⟨_, HY.out.1, rfl⟩, HY.out.2, Fresh.refl _ _⟩

set_option maxRecDepth 100000 in
set_option maxHeartbeats 4000000 in
theorem item_5_full (s : Bytes) (lim : Lim) (hm : lim.may = true) (hs : s.length ≤ 140737488355327) (b p dp n q : Nat) (x y : St) (F : Nat → Prop) (w : World) (h : RdAt w b s lim x F) (hg : Good s lim x p 0) (hd : ((dp + 0 : Nat) : Int) = lim.d) (hh : Headed s lim x p 5 n q y) :
    Calls Tryd.prog 60 #[.pointer (some ⟨b, 0, none⟩), .int .i64 (p : Nat), .int .i64 (dp : Nat)] w fun r w' => r = .returned (itemV (((none, fault y p 10) : Option Nat × St)).1) ∧ Did w b s lim F (((none, fault y p 10) : Option Nat × St)).2 w' := by
  obtain ⟨vo, h, rfl⟩ := h
  have hmay := Cf.may_of hm
  have hol := hg.out
  have ho : x.out.length ≤ 1000000 := by omega
  obtain ⟨hmv, hpq, hyo, hn64, hk8, hlt⟩ := hg.head hh
  have hqs := hmv.qs
  have hqb := hmv.qb
  have hyl : y.out.length ≤ 1000000 := by rw [hyo]; exact ho
  have hw := rhead_any s lim hm hs b p x vo w h hg.ps ho
  have e : R7.head s lim x p = (some (5, n, q), y) := hh
  rw [e] at hw
  have HW := Px.hid hw
  have HG := Px.hid (And.intro hg (And.intro hm (And.intro hmv (And.intro hyo (And.intro hlt hn64)))))
  have hdp : ((dp : Nat) : Int) + (0 : Nat) = lim.d := by omega
  have HD := Px.hid hd
  clear hw e hh hg hmv hyo hlt hk8 h hm hol ho hd hmay
  have hdd : lim.d ≤ (dp : Int) := by omega
  have hdc : decide (lim.d ≤ (dp : Int)) = true := decide_eq_true hdd
  go_enter Tryd.func60, Tryd.ntmps60
  go_wp2_with fail
  refine HW.out.mono ?_
  rintro e w1 ⟨rfl, hx, hxf⟩
  have HX := Px.hid (And.intro hx hxf)
  clear hx hxf HW
  unfold headV
  obtain ⟨_, c1, _, _, _, _, _, _, _⟩ := HX.out.1.rd.cells
  go_wp2_with fail
  refine (xfault_any b _ p 10 s lim y _ _ _ HX.out.1.rd).mono ?_
  rintro e w2 ⟨rfl, hr, hf⟩
  have HY := Px.hid (And.intro (HX.out.1.step hr hf rfl) (HX.out.2.trans (It.foot (vo := vo) hf) (fun _ _ h => h)))
  clear hr hf
  go_wp2
  go_ret2
  exact ⟨rfl, _, ⟨_, HY.out.1, rfl⟩, HY.out.2, Fresh.refl _ _⟩

set_option maxRecDepth 100000 in
set_option maxHeartbeats 4000000 in
theorem item_6_full (s : Bytes) (lim : Lim) (hm : lim.may = true) (hs : s.length ≤ 140737488355327) (b p dp n q : Nat) (x y : St) (F : Nat → Prop) (w : World) (h : RdAt w b s lim x F) (hg : Good s lim x p 0) (hd : ((dp + 0 : Nat) : Int) = lim.d) (hh : Headed s lim x p 6 n q y) :
    Calls Tryd.prog 60 #[.pointer (some ⟨b, 0, none⟩), .int .i64 (p : Nat), .int .i64 (dp : Nat)] w fun r w' => r = .returned (itemV (((none, fault y p 10) : Option Nat × St)).1) ∧ Did w b s lim F (((none, fault y p 10) : Option Nat × St)).2 w' := by
  obtain ⟨vo, h, rfl⟩ := h
  have hmay := Cf.may_of hm
  have hol := hg.out
  have ho : x.out.length ≤ 1000000 := by omega
  obtain ⟨hmv, hpq, hyo, hn64, hk8, hlt⟩ := hg.head hh
  have hqs := hmv.qs
  have hqb := hmv.qb
  have hyl : y.out.length ≤ 1000000 := by rw [hyo]; exact ho
  have hw := rhead_any s lim hm hs b p x vo w h hg.ps ho
  have e : R7.head s lim x p = (some (6, n, q), y) := hh
  rw [e] at hw
  have HW := Px.hid hw
  have HG := Px.hid (And.intro hg (And.intro hm (And.intro hmv (And.intro hyo (And.intro hlt hn64)))))
  have hdp : ((dp : Nat) : Int) + (0 : Nat) = lim.d := by omega
  have HD := Px.hid hd
  clear hw e hh hg hmv hyo hlt hk8 h hm hol ho hd hmay
  have hdd : lim.d ≤ (dp : Int) := by omega
  have hdc : decide (lim.d ≤ (dp : Int)) = true := decide_eq_true hdd
  go_enter Tryd.func60, Tryd.ntmps60
  go_wp2_with fail
  refine HW.out.mono ?_
  rintro e w1 ⟨rfl, hx, hxf⟩
  have HX := Px.hid (And.intro hx hxf)
  clear hx hxf HW
  unfold headV
  obtain ⟨_, c1, _, _, _, _, _, _, _⟩ := HX.out.1.rd.cells
  go_wp2_with fail
  refine (xfault_any b _ p 10 s lim y _ _ _ HX.out.1.rd).mono ?_
  rintro e w2 ⟨rfl, hr, hf⟩
  have HY := Px.hid (And.intro (HX.out.1.step hr hf rfl) (HX.out.2.trans (It.foot (vo := vo) hf) (fun _ _ h => h)))
  clear hr hf
  go_wp2
  go_ret2
  exact ⟨rfl, _, ⟨_, HY.out.1, rfl⟩, HY.out.2, Fresh.refl _ _⟩

set_option maxRecDepth 100000 in
set_option maxHeartbeats 4000000 in
theorem item_4 (s : Bytes) (lim : Lim) (hm : lim.may = true) (hs : s.length ≤ 140737488355327) (d : Nat) (hI : ItemC s lim d) (b p dp n q : Nat) (x y : St) (F : Nat → Prop) (w : World) (h : RdAt w b s lim x F) (hg : Good s lim x p (d + 1)) (hd : ((dp + (d + 1) : Nat) : Int) = lim.d) (hh : Headed s lim x p 4 n q y) :
    Calls Tryd.prog 60 #[.pointer (some ⟨b, 0, none⟩), .int .i64 (p : Nat), .int .i64 (dp : Nat)] w fun r w' => r = .returned (itemV (holdN s (item s lim d) 4 n y q).1) ∧ Did w b s lim F (holdN s (item s lim d) 4 n y q).2 w' := by
  obtain ⟨vo, h, rfl⟩ := h
  have hmay := Cf.may_of hm
  have hol := hg.out
  have ho : x.out.length ≤ 1000000 := by omega
  obtain ⟨hmv, hpq, hyo, hn64, hk8, hlt⟩ := hg.head hh
  have hqs := hmv.qs
  have hqb := hmv.qb
  have hyl : y.out.length ≤ 1000000 := by rw [hyo]; exact ho
  have hw := rhead_any s lim hm hs b p x vo w h hg.ps ho
  have e : R7.head s lim x p = (some (4, n, q), y) := hh
  rw [e] at hw
  have HW := Px.hid hw
  have HG := Px.hid (And.intro hg (And.intro hm (And.intro hmv (And.intro hyo (And.intro hlt hn64)))))
  have hdp : ((dp : Nat) : Int) + ((d + 1) : Nat) = lim.d := by omega
  have HD := Px.hid hd
  clear hw e hh hg hmv hyo hlt hk8 h hm hol ho hd hmay
  have HI := Px.hid hI
  have HML := Px.hid (show s.length ≤ maxLen by unfold maxLen; omega)
  clear hI
  have hdd : ¬ lim.d ≤ (dp : Int) := by push_cast at hdp; omega
  have hdc : decide (lim.d ≤ (dp : Int)) = false := decide_eq_false hdd
  have hdp2 : (dp : Int) ≤ 32 := by have := Cf.may_of HG.out.2.1; omega
  have hfr : y.frames ≤ 1000 := by have := HG.out.1.deep; have := Cf.may_of HG.out.2.1; rw [HG.out.2.2.1.frames]; omega
  have HR := Px.hid (show holdN s (item s lim d) 4 n y q = (match itemsN (item s lim d) n { y with out := y.out ++ [⟨4, n, []⟩], frames := y.frames + 1 } q with | (some t, z) => (some t, { z with frames := z.frames - 1 }) | (none, z) => (none, z)) from rfl)
  have HGG := Px.hid (show Good s lim { y with out := y.out ++ [⟨4, n, []⟩], frames := y.frames + 1 } q d from by
    have hg := HG.out.1
    have hmv := HG.out.2.2.1
    exact ⟨hmv.qs, hmv.qb, hmv.err, hmv.taken, hmv.ended, by have := hg.deep; have := hmv.frames; show ((y.frames + 1 + d : Nat) : Int) = lim.d; omega, by have := HG.out.2.2.2.1; have := HG.out.2.2.2.2.1; simp [HG.out.2.2.2.1]; omega⟩)
  have HZFR := Px.hid (show ∀ t z, itemsN (item s lim d) n { y with out := y.out ++ [⟨4, n, []⟩], frames := y.frames + 1 } q = (some t, z) → z.frames = y.frames + 1 from fun t z e => inner_frames_4 s lim d HG.out.2.1 n q _ HGG.out t z e)
  have HDD := Px.hid (show ((dp + 1 + d : Nat) : Int) = lim.d by have := HD.out; omega)
  clear HD
  go_enter Tryd.func60, Tryd.ntmps60
  go_wp2_with fail
  refine HW.out.mono ?_
  rintro e w1 ⟨rfl, hx, hxf⟩
  have HX := Px.hid (And.intro hx hxf)
  clear hx hxf HW
  unfold headV
  obtain ⟨_, c1, _, _, _, _, _, _, _⟩ := HX.out.1.rd.cells
  have f11 := HX.out.1.rd.free 11
  have hb : b < w1.heap.size := HX.out.1.rd.lt
  have c11 : w1.cell? ⟨b, 11, none⟩ = some vo := HX.out.1.cell11
  obtain ⟨i0, hi0, hz0, hz1, hz2⟩ := info_parts Tryd.infoAtom
  go_upto_region 18 with fail
  go_cut [] (fun wx => RAfter w1 wx b s lim y ⟨4, n, []⟩ vo)
  case first =>
    go_wp2_with (at_builtin; go_must (refine wpList_append_lies _ rfl _ _ _ rfl 0 62 i0 _ 3 32 Tryd.underlying50 hi0 hz0 hz1 hz2 rfl (by omega) vo y.out.length (y.out.flatMap cAtom) rfl (HX.out.1.out.alloc _) ⟨w1.heap.size, 0, none⟩ 1 1 (cAtom ⟨4, n, []⟩) rfl rfl (World.news_of_block (cs := #[.int .i64 4, .int .u64 n, S []]) (t := 62) (fr := (0, 0)) (heap_alloc_new w1 _)) (by simp [cAtom, Value.oneCell']) (by omega) (by unfold maxLen; omega) (by omega) (by omega) (w1.heap.size + 1) (by simp) ?_))
    intro gg cap w1 hown1 hgrow hat hlt
    have k11 := grown_cell1 hgrow c11 HX.out.1.ob.ne
    have e11 := grown_free1 hgrow c11 f11 HX.out.1.ob.ne
    go_wp2_with fail
    go_meet
    exact HX.out.1.afterOut hown1 (grown_alloc1 hgrow) (hat.elim .inl (fun e => .inr (by omega)))
  case rest =>
    obtain ⟨vo', hy, hyf, hyn⟩ := hcut
    have HY := Px.hid (And.intro hy (And.intro hyf hyn))
    clear hy hyf hyn c11 f11
    clear c1
    obtain ⟨_, _, _, _, _, _, _, c9, _⟩ := HY.out.1.rd.cells
    have f9 := HY.out.1.rd.free 9
    have hzz := HY.out.1.rd.setFrames (y.frames + 1)
    have en : ((y.frames + 1 : Nat) : Int) = (y.frames : Int) + 1 := by omega
    rw [en] at hzz
    have hzf : Fr (It b) wc (wc.setCell ⟨b, 9, none⟩ (.int .i64 ((y.frames : Int) + 1))) := It.set _
    have HZ := Px.hid (show RdAt (wc.setCell ⟨b, 9, none⟩ (.int .i64 ((y.frames : Int) + 1))) b s lim { y with out := y.out ++ [⟨4, n, []⟩], frames := y.frames + 1 } (rfoot b vo') ∧ Fr (rfoot b vo) w (wc.setCell ⟨b, 9, none⟩ (.int .i64 ((y.frames : Int) + 1))) ∧ Fresh w (rfoot b vo) (rfoot b vo') from
      ⟨⟨_, HY.out.1.step hzz hzf rfl, rfl⟩, (HX.out.2.step (Fresh.refl _ _) HY.out.2.1).step (Fresh.trans (Fresh.refl _ _) HX.out.2.size HY.out.2.2) (It.foot (vo := vo') hzf), Fresh.trans (Fresh.refl _ _) HX.out.2.size HY.out.2.2⟩)
    clear hzz hzf en HX HY
    go_wp2_with fail
    have hcl := items_any s lim d HG.out.2.1 HI.out b q n (dp + 1) _ _ _ HZ.out.1 HGG.out HDD.out HG.out.2.2.2.2.2
    have edp : ((dp + 1 : Nat) : Int) = (dp : Int) + 1 := by omega
    rw [edp] at hcl
    refine hcl.mono ?_
    clear hcl edp c9 f9
    rintro e w2 ⟨rfl, hd⟩
    cases hr : itemsN (item s lim d) n { y with out := y.out ++ [⟨4, n, []⟩], frames := y.frames + 1 } q with
    | mk o z =>
      rw [hr] at hd HR
      have HDI := Px.hid (Did.trans HZ.out.2.1 HZ.out.2.2 hd)
      clear hd
      cases o with
      | none =>
        unfold itemV
        go_wp2
        go_ret2
        rw [HR.out]
        exact ⟨rfl, HDI.out⟩
      | some t =>
        have hzfr : 1 ≤ z.frames ∧ z.frames ≤ 1001 := by
          have := HZFR.out t z hr
          omega
        clear hr
        obtain ⟨F2, d1, d2, d3⟩ := HDI.out
        obtain ⟨vo2, rep, rfl⟩ := d1
        obtain ⟨_, _, _, _, _, _, _, c9, _⟩ := rep.rd.cells
        have f9 := rep.rd.free 9
        have hzz := rep.rd.setFrames (z.frames - 1)
        have en : ((z.frames - 1 : Nat) : Int) = (z.frames : Int) - 1 := by omega
        rw [en] at hzz
        have HFIN := Px.hid (And.intro (rep.step hzz (It.set _) rfl) (And.intro (d2.step d3 (It.foot (vo := vo2) (It.set (i := 9) (.int .i64 ((z.frames : Int) - 1))))) d3))
        clear hzz rep d2 d3 HDI en
        unfold itemV
        go_wp2
        go_ret2
        rw [HR.out]
        exact ⟨rfl, _, ⟨_, HFIN.out.1, rfl⟩, HFIN.out.2.1, HFIN.out.2.2⟩

set_option maxRecDepth 100000 in
set_option maxHeartbeats 4000000 in
theorem item_5 (s : Bytes) (lim : Lim) (hm : lim.may = true) (hs : s.length ≤ 140737488355327) (d : Nat) (hI : ItemC s lim d) (b p dp n q : Nat) (x y : St) (F : Nat → Prop) (w : World) (h : RdAt w b s lim x F) (hg : Good s lim x p (d + 1)) (hd : ((dp + (d + 1) : Nat) : Int) = lim.d) (hh : Headed s lim x p 5 n q y) :
    Calls Tryd.prog 60 #[.pointer (some ⟨b, 0, none⟩), .int .i64 (p : Nat), .int .i64 (dp : Nat)] w fun r w' => r = .returned (itemV (holdN s (item s lim d) 5 n y q).1) ∧ Did w b s lim F (holdN s (item s lim d) 5 n y q).2 w' := by
  obtain ⟨vo, h, rfl⟩ := h
  have hmay := Cf.may_of hm
  have hol := hg.out
  have ho : x.out.length ≤ 1000000 := by omega
  obtain ⟨hmv, hpq, hyo, hn64, hk8, hlt⟩ := hg.head hh
  have hqs := hmv.qs
  have hqb := hmv.qb
  have hyl : y.out.length ≤ 1000000 := by rw [hyo]; exact ho
  have hw := rhead_any s lim hm hs b p x vo w h hg.ps ho
  have e : R7.head s lim x p = (some (5, n, q), y) := hh
  rw [e] at hw
  have HW := Px.hid hw
  have HG := Px.hid (And.intro hg (And.intro hm (And.intro hmv (And.intro hyo (And.intro hlt hn64)))))
  have hdp : ((dp : Nat) : Int) + ((d + 1) : Nat) = lim.d := by omega
  have HD := Px.hid hd
  clear hw e hh hg hmv hyo hlt hk8 h hm hol ho hd hmay
  have HI := Px.hid hI
  have HML := Px.hid (show s.length ≤ maxLen by unfold maxLen; omega)
  clear hI
  have hdd : ¬ lim.d ≤ (dp : Int) := by push_cast at hdp; omega
  have hdc : decide (lim.d ≤ (dp : Int)) = false := decide_eq_false hdd
  have hdp2 : (dp : Int) ≤ 32 := by have := Cf.may_of HG.out.2.1; omega
  have hfr : y.frames ≤ 1000 := by have := HG.out.1.deep; have := Cf.may_of HG.out.2.1; rw [HG.out.2.2.1.frames]; omega
  have HR := Px.hid (show holdN s (item s lim d) 5 n y q = (match pairsN s (item s lim d) n none { y with out := y.out ++ [⟨5, n, []⟩], frames := y.frames + 1 } q with | (some t, z) => (some t, { z with frames := z.frames - 1 }) | (none, z) => (none, z)) from rfl)
  have HGG := Px.hid (show Good s lim { y with out := y.out ++ [⟨5, n, []⟩], frames := y.frames + 1 } q d from by
    have hg := HG.out.1
    have hmv := HG.out.2.2.1
    exact ⟨hmv.qs, hmv.qb, hmv.err, hmv.taken, hmv.ended, by have := hg.deep; have := hmv.frames; show ((y.frames + 1 + d : Nat) : Int) = lim.d; omega, by have := HG.out.2.2.2.1; have := HG.out.2.2.2.2.1; simp [HG.out.2.2.2.1]; omega⟩)
  have HZFR := Px.hid (show ∀ t z, pairsN s (item s lim d) n none { y with out := y.out ++ [⟨5, n, []⟩], frames := y.frames + 1 } q = (some t, z) → z.frames = y.frames + 1 from fun t z e => inner_frames_5 s lim d HG.out.2.1 n q _ HGG.out t z e)
  have HDD := Px.hid (show ((dp + 1 + d : Nat) : Int) = lim.d by have := HD.out; omega)
  clear HD
  go_enter Tryd.func60, Tryd.ntmps60
  go_wp2_with fail
  refine HW.out.mono ?_
  rintro e w1 ⟨rfl, hx, hxf⟩
  have HX := Px.hid (And.intro hx hxf)
  clear hx hxf HW
  unfold headV
  obtain ⟨_, c1, _, _, _, _, _, _, _⟩ := HX.out.1.rd.cells
  have f11 := HX.out.1.rd.free 11
  have hb : b < w1.heap.size := HX.out.1.rd.lt
  have c11 : w1.cell? ⟨b, 11, none⟩ = some vo := HX.out.1.cell11
  obtain ⟨i0, hi0, hz0, hz1, hz2⟩ := info_parts Tryd.infoAtom
  go_upto_region 18 with fail
  go_cut [] (fun wx => RAfter w1 wx b s lim y ⟨5, n, []⟩ vo)
  case first =>
    go_wp2_with (at_builtin; go_must (refine wpList_append_lies _ rfl _ _ _ rfl 0 62 i0 _ 3 32 Tryd.underlying50 hi0 hz0 hz1 hz2 rfl (by omega) vo y.out.length (y.out.flatMap cAtom) rfl (HX.out.1.out.alloc _) ⟨w1.heap.size, 0, none⟩ 1 1 (cAtom ⟨5, n, []⟩) rfl rfl (World.news_of_block (cs := #[.int .i64 5, .int .u64 n, S []]) (t := 62) (fr := (0, 0)) (heap_alloc_new w1 _)) (by simp [cAtom, Value.oneCell']) (by omega) (by unfold maxLen; omega) (by omega) (by omega) (w1.heap.size + 1) (by simp) ?_))
    intro gg cap w1 hown1 hgrow hat hlt
    have k11 := grown_cell1 hgrow c11 HX.out.1.ob.ne
    have e11 := grown_free1 hgrow c11 f11 HX.out.1.ob.ne
    go_wp2_with fail
    go_meet
    exact HX.out.1.afterOut hown1 (grown_alloc1 hgrow) (hat.elim .inl (fun e => .inr (by omega)))
  case rest =>
    obtain ⟨vo', hy, hyf, hyn⟩ := hcut
    have HY := Px.hid (And.intro hy (And.intro hyf hyn))
    clear hy hyf hyn c11 f11
    clear c1
    obtain ⟨_, _, _, _, _, _, _, c9, _⟩ := HY.out.1.rd.cells
    have f9 := HY.out.1.rd.free 9
    have hzz := HY.out.1.rd.setFrames (y.frames + 1)
    have en : ((y.frames + 1 : Nat) : Int) = (y.frames : Int) + 1 := by omega
    rw [en] at hzz
    have hzf : Fr (It b) wc (wc.setCell ⟨b, 9, none⟩ (.int .i64 ((y.frames : Int) + 1))) := It.set _
    have HZ := Px.hid (show RdAt (wc.setCell ⟨b, 9, none⟩ (.int .i64 ((y.frames : Int) + 1))) b s lim { y with out := y.out ++ [⟨5, n, []⟩], frames := y.frames + 1 } (rfoot b vo') ∧ Fr (rfoot b vo) w (wc.setCell ⟨b, 9, none⟩ (.int .i64 ((y.frames : Int) + 1))) ∧ Fresh w (rfoot b vo) (rfoot b vo') from
      ⟨⟨_, HY.out.1.step hzz hzf rfl, rfl⟩, (HX.out.2.step (Fresh.refl _ _) HY.out.2.1).step (Fresh.trans (Fresh.refl _ _) HX.out.2.size HY.out.2.2) (It.foot (vo := vo') hzf), Fresh.trans (Fresh.refl _ _) HX.out.2.size HY.out.2.2⟩)
    clear hzz hzf en HX HY
    go_wp2_with fail
    have hcl := pairs_any s lim d HG.out.2.1 HML.out HI.out b q n (dp + 1) _ _ _ HZ.out.1 HGG.out HDD.out HG.out.2.2.2.2.2
    have edp : ((dp + 1 : Nat) : Int) = (dp : Int) + 1 := by omega
    rw [edp] at hcl
    refine hcl.mono ?_
    clear hcl edp c9 f9
    rintro e w2 ⟨rfl, hd⟩
    cases hr : pairsN s (item s lim d) n none { y with out := y.out ++ [⟨5, n, []⟩], frames := y.frames + 1 } q with
    | mk o z =>
      rw [hr] at hd HR
      have HDI := Px.hid (Did.trans HZ.out.2.1 HZ.out.2.2 hd)
      clear hd
      cases o with
      | none =>
        unfold itemV
        go_wp2
        go_ret2
        rw [HR.out]
        exact ⟨rfl, HDI.out⟩
      | some t =>
        have hzfr : 1 ≤ z.frames ∧ z.frames ≤ 1001 := by
          have := HZFR.out t z hr
          omega
        clear hr
        obtain ⟨F2, d1, d2, d3⟩ := HDI.out
        obtain ⟨vo2, rep, rfl⟩ := d1
        obtain ⟨_, _, _, _, _, _, _, c9, _⟩ := rep.rd.cells
        have f9 := rep.rd.free 9
        have hzz := rep.rd.setFrames (z.frames - 1)
        have en : ((z.frames - 1 : Nat) : Int) = (z.frames : Int) - 1 := by omega
        rw [en] at hzz
        have HFIN := Px.hid (And.intro (rep.step hzz (It.set _) rfl) (And.intro (d2.step d3 (It.foot (vo := vo2) (It.set (i := 9) (.int .i64 ((z.frames : Int) - 1))))) d3))
        clear hzz rep d2 d3 HDI en
        unfold itemV
        go_wp2
        go_ret2
        rw [HR.out]
        exact ⟨rfl, _, ⟨_, HFIN.out.1, rfl⟩, HFIN.out.2.1, HFIN.out.2.2⟩

set_option maxRecDepth 100000 in
set_option maxHeartbeats 4000000 in
theorem item_6 (s : Bytes) (lim : Lim) (hm : lim.may = true) (hs : s.length ≤ 140737488355327) (d : Nat) (hI : ItemC s lim d) (b p dp n q : Nat) (x y : St) (F : Nat → Prop) (w : World) (h : RdAt w b s lim x F) (hg : Good s lim x p (d + 1)) (hd : ((dp + (d + 1) : Nat) : Int) = lim.d) (hh : Headed s lim x p 6 n q y) :
    Calls Tryd.prog 60 #[.pointer (some ⟨b, 0, none⟩), .int .i64 (p : Nat), .int .i64 (dp : Nat)] w fun r w' => r = .returned (itemV (holdN s (item s lim d) 6 n y q).1) ∧ Did w b s lim F (holdN s (item s lim d) 6 n y q).2 w' := by
  obtain ⟨vo, h, rfl⟩ := h
  have hmay := Cf.may_of hm
  have hol := hg.out
  have ho : x.out.length ≤ 1000000 := by omega
  obtain ⟨hmv, hpq, hyo, hn64, hk8, hlt⟩ := hg.head hh
  have hqs := hmv.qs
  have hqb := hmv.qb
  have hyl : y.out.length ≤ 1000000 := by rw [hyo]; exact ho
  have hw := rhead_any s lim hm hs b p x vo w h hg.ps ho
  have e : R7.head s lim x p = (some (6, n, q), y) := hh
  rw [e] at hw
  have HW := Px.hid hw
  have HG := Px.hid (And.intro hg (And.intro hm (And.intro hmv (And.intro hyo (And.intro hlt hn64)))))
  have hdp : ((dp : Nat) : Int) + ((d + 1) : Nat) = lim.d := by omega
  have HD := Px.hid hd
  clear hw e hh hg hmv hyo hlt hk8 h hm hol ho hd hmay
  have HI := Px.hid hI
  have HML := Px.hid (show s.length ≤ maxLen by unfold maxLen; omega)
  clear hI
  have hdd : ¬ lim.d ≤ (dp : Int) := by push_cast at hdp; omega
  have hdc : decide (lim.d ≤ (dp : Int)) = false := decide_eq_false hdd
  have hdp2 : (dp : Int) ≤ 32 := by have := Cf.may_of HG.out.2.1; omega
  have hfr : y.frames ≤ 1000 := by have := HG.out.1.deep; have := Cf.may_of HG.out.2.1; rw [HG.out.2.2.1.frames]; omega
  have HR := Px.hid (show holdN s (item s lim d) 6 n y q = (match item s lim d { y with out := y.out ++ [⟨6, n, []⟩], frames := y.frames + 1 } q with | (some t, z) => (some t, { z with frames := z.frames - 1 }) | (none, z) => (none, z)) from rfl)
  have HGG := Px.hid (show Good s lim { y with out := y.out ++ [⟨6, n, []⟩], frames := y.frames + 1 } q d from by
    have hg := HG.out.1
    have hmv := HG.out.2.2.1
    exact ⟨hmv.qs, hmv.qb, hmv.err, hmv.taken, hmv.ended, by have := hg.deep; have := hmv.frames; show ((y.frames + 1 + d : Nat) : Int) = lim.d; omega, by have := HG.out.2.2.2.1; have := HG.out.2.2.2.2.1; simp [HG.out.2.2.2.1]; omega⟩)
  have HZFR := Px.hid (show ∀ t z, item s lim d { y with out := y.out ++ [⟨6, n, []⟩], frames := y.frames + 1 } q = (some t, z) → z.frames = y.frames + 1 from fun t z e => inner_frames_6 s lim d HG.out.2.1 n q _ HGG.out t z e)
  have HDD := Px.hid (show ((dp + 1 + d : Nat) : Int) = lim.d by have := HD.out; omega)
  clear HD
  go_enter Tryd.func60, Tryd.ntmps60
  go_wp2_with fail
  refine HW.out.mono ?_
  rintro e w1 ⟨rfl, hx, hxf⟩
  have HX := Px.hid (And.intro hx hxf)
  clear hx hxf HW
  unfold headV
  obtain ⟨_, c1, _, _, _, _, _, _, _⟩ := HX.out.1.rd.cells
  have f11 := HX.out.1.rd.free 11
  have hb : b < w1.heap.size := HX.out.1.rd.lt
  have c11 : w1.cell? ⟨b, 11, none⟩ = some vo := HX.out.1.cell11
  obtain ⟨i0, hi0, hz0, hz1, hz2⟩ := info_parts Tryd.infoAtom
  go_upto_region 18 with fail
  go_cut [] (fun wx => RAfter w1 wx b s lim y ⟨6, n, []⟩ vo)
  case first =>
    go_wp2_with (at_builtin; go_must (refine wpList_append_lies _ rfl _ _ _ rfl 0 62 i0 _ 3 32 Tryd.underlying50 hi0 hz0 hz1 hz2 rfl (by omega) vo y.out.length (y.out.flatMap cAtom) rfl (HX.out.1.out.alloc _) ⟨w1.heap.size, 0, none⟩ 1 1 (cAtom ⟨6, n, []⟩) rfl rfl (World.news_of_block (cs := #[.int .i64 6, .int .u64 n, S []]) (t := 62) (fr := (0, 0)) (heap_alloc_new w1 _)) (by simp [cAtom, Value.oneCell']) (by omega) (by unfold maxLen; omega) (by omega) (by omega) (w1.heap.size + 1) (by simp) ?_))
    intro gg cap w1 hown1 hgrow hat hlt
    have k11 := grown_cell1 hgrow c11 HX.out.1.ob.ne
    have e11 := grown_free1 hgrow c11 f11 HX.out.1.ob.ne
    go_wp2_with fail
    go_meet
    exact HX.out.1.afterOut hown1 (grown_alloc1 hgrow) (hat.elim .inl (fun e => .inr (by omega)))
  case rest =>
    obtain ⟨vo', hy, hyf, hyn⟩ := hcut
    have HY := Px.hid (And.intro hy (And.intro hyf hyn))
    clear hy hyf hyn c11 f11
    clear c1
    obtain ⟨_, _, _, _, _, _, _, c9, _⟩ := HY.out.1.rd.cells
    have f9 := HY.out.1.rd.free 9
    have hzz := HY.out.1.rd.setFrames (y.frames + 1)
    have en : ((y.frames + 1 : Nat) : Int) = (y.frames : Int) + 1 := by omega
    rw [en] at hzz
    have hzf : Fr (It b) wc (wc.setCell ⟨b, 9, none⟩ (.int .i64 ((y.frames : Int) + 1))) := It.set _
    have HZ := Px.hid (show RdAt (wc.setCell ⟨b, 9, none⟩ (.int .i64 ((y.frames : Int) + 1))) b s lim { y with out := y.out ++ [⟨6, n, []⟩], frames := y.frames + 1 } (rfoot b vo') ∧ Fr (rfoot b vo) w (wc.setCell ⟨b, 9, none⟩ (.int .i64 ((y.frames : Int) + 1))) ∧ Fresh w (rfoot b vo) (rfoot b vo') from
      ⟨⟨_, HY.out.1.step hzz hzf rfl, rfl⟩, (HX.out.2.step (Fresh.refl _ _) HY.out.2.1).step (Fresh.trans (Fresh.refl _ _) HX.out.2.size HY.out.2.2) (It.foot (vo := vo') hzf), Fresh.trans (Fresh.refl _ _) HX.out.2.size HY.out.2.2⟩)
    clear hzz hzf en HX HY
    go_wp2_with fail
    have hcl := HI.out b q (dp + 1) _ _ _ HZ.out.1 HGG.out HDD.out
    have edp : ((dp + 1 : Nat) : Int) = (dp : Int) + 1 := by omega
    rw [edp] at hcl
    refine hcl.mono ?_
    clear hcl edp c9 f9
    rintro e w2 ⟨rfl, hd⟩
    cases hr : item s lim d { y with out := y.out ++ [⟨6, n, []⟩], frames := y.frames + 1 } q with
    | mk o z =>
      rw [hr] at hd HR
      have HDI := Px.hid (Did.trans HZ.out.2.1 HZ.out.2.2 hd)
      clear hd
      cases o with
      | none =>
        unfold itemV
        go_wp2
        go_ret2
        rw [HR.out]
        exact ⟨rfl, HDI.out⟩
      | some t =>
        have hzfr : 1 ≤ z.frames ∧ z.frames ≤ 1001 := by
          have := HZFR.out t z hr
          omega
        clear hr
        obtain ⟨F2, d1, d2, d3⟩ := HDI.out
        obtain ⟨vo2, rep, rfl⟩ := d1
        obtain ⟨_, _, _, _, _, _, _, c9, _⟩ := rep.rd.cells
        have f9 := rep.rd.free 9
        have hzz := rep.rd.setFrames (z.frames - 1)
        have en : ((z.frames - 1 : Nat) : Int) = (z.frames : Int) - 1 := by omega
        rw [en] at hzz
        have HFIN := Px.hid (And.intro (rep.step hzz (It.set _) rfl) (And.intro (d2.step d3 (It.foot (vo := vo2) (It.set (i := 9) (.int .i64 ((z.frames : Int) - 1))))) d3))
        clear hzz rep d2 d3 HDI en
        unfold itemV
        go_wp2
        go_ret2
        rw [HR.out]
        exact ⟨rfl, _, ⟨_, HFIN.out.1, rfl⟩, HFIN.out.2.1, HFIN.out.2.2⟩

set_option maxRecDepth 100000 in
set_option maxHeartbeats 4000000 in
theorem item_2 (s : Bytes) (lim : Lim) (hm : lim.may = true) (hs : s.length ≤ 140737488355327) (d : Nat) (b p dp n q : Nat) (x y : St) (F : Nat → Prop) (w : World) (h : RdAt w b s lim x F) (hg : Good s lim x p d) (hd : ((dp + d : Nat) : Int) = lim.d) (hh : Headed s lim x p 2 n q y) :
    Calls Tryd.prog 60 #[.pointer (some ⟨b, 0, none⟩), .int .i64 (p : Nat), .int .i64 (dp : Nat)] w fun r w' => r = .returned (itemV (textN s lim 2 n y p q).1) ∧ Did w b s lim F (textN s lim 2 n y p q).2 w' := by
  obtain ⟨vo, h, rfl⟩ := h
  have hmay := Cf.may_of hm
  have hol := hg.out
  have ho : x.out.length ≤ 1000000 := by omega
  obtain ⟨hmv, hpq, hyo, hn64, hk8, hlt⟩ := hg.head hh
  have hqs := hmv.qs
  have hqb := hmv.qb
  have hyl : y.out.length ≤ 1000000 := by rw [hyo]; exact ho
  have hw := rhead_any s lim hm hs b p x vo w h hg.ps ho
  have e : R7.head s lim x p = (some (2, n, q), y) := hh
  rw [e] at hw
  have HW := Px.hid hw
  have HG := Px.hid (And.intro hg (And.intro hm (And.intro hmv (And.intro hyo (And.intro hlt hn64)))))
  have hdp : ((dp : Nat) : Int) + (d : Nat) = lim.d := by omega
  have HD := Px.hid hd
  clear hw e hh hg hmv hyo hlt hk8 h hm hol ho hd hmay
  have HML := Px.hid (show s.length ≤ maxLen by unfold maxLen; omega)
  go_enter Tryd.func60, Tryd.ntmps60
  go_wp2_with fail
  refine HW.out.mono ?_
  rintro e w1 ⟨rfl, hx, hxf⟩
  have HX := Px.hid (And.intro hx hxf)
  clear hx hxf HW
  unfold headV
  obtain ⟨_, _, _, _, _, _, _, _, _⟩ := HX.out.1.rd.cells
  go_wp2
  go_loopw [10, 12] (fun a i wr => ∃ j z, j ≤ n ∧ i = .int .u64 (j : Nat) ∧ a = .int .i64 ((q + j : Nat) : Int) ∧ q + j ≤ s.length ∧ Hid (RdRep wr b s lim z vo ∧ Fr (rfoot b vo) w wr ∧ wantN s lim n y q = wantN s lim (n - j) z (q + j) ∧ z.out = y.out)) (fun _ i _ => n - (intOf i).toNat)
  case atStart => exact ⟨0, y, Nat.zero_le _, rfl, rfl, hqs, Px.hid ⟨HX.out.1, HX.out.2, rfl, rfl⟩⟩
  case round =>
    clear HX
    obtain ⟨j, z, hj, rfl, rfl, hjs, HZ⟩ := hrel
    have hn64 := HG.out.2.2.2.2.2
    by_cases hlt : j < n
    · have hltz : (j : Int) < (n : Int) := by omega
      have hwj : IntKind.u64.wrap ((j : Int) + 1) = (j : Int) + 1 := IntWalk.u64_in _ ⟨by omega, by omega⟩
      have hmay := Cf.may_of HG.out.2.1
      have hw0 := want_any b _ (q + j) s lim z _ _ wr HZ.out.1.rd HML.out hmay.2.2.2.2.1 hmay.2.2.2.2.2.1 (Nat.le_trans hjs HML.out)
      have hpj : ((q + j : Nat) : Int) = (q : Int) + j := by omega
      rw [hpj] at hw0
      cases hwt : want s lim z (q + j) with
      | mk wb z2 =>
        have hzo := want_out s lim z (q + j)
        rw [hwt] at hw0 hzo
        have harg : wantN s lim n y q = match (wb, z2) with | (false, u) => (false, u) | (true, u) => wantN s lim (n - (j + 1)) u (q + j + 1) := by
          rw [HZ.out.2.2.1, show n - j = (n - (j + 1)) + 1 by omega]
          conv => lhs; unfold wantN; rw [hwt]
          rfl
        cases wb with
        | false =>
          have HR := Px.hid (show textN s lim 2 n y p q = (none, z2) by unfold textN; rw [harg])
          have HW2 := Px.hid hw0
          have HZO := Px.hid hzo
          clear hwt hw0 hzo harg hn64 hmay hpj
          go_wp2_with fail
          refine HW2.out.mono ?_
          rintro e w2 ⟨rfl, hr, hf⟩
          have HY := Px.hid (And.intro (HZ.out.1.step hr hf HZO.out) (HZ.out.2.1.trans (It.foot (vo := vo) hf) (fun _ _ h => h)))
          clear hr hf
          go_wp2
          go_ret2
          rw [HR.out]
          exact ⟨rfl, _, ⟨_, HY.out.1, rfl⟩, HY.out.2, Fresh.refl _ _⟩
        | true =>
          obtain ⟨hps2, hpb2, hyt⟩ := want_true hwt
          have HARG := Px.hid harg
          have HW2 := Px.hid hw0
          have HZO := Px.hid hzo
          clear hwt hw0 hzo harg hn64 hmay hpj hyt
          go_wp2_with fail
          refine HW2.out.mono ?_
          rintro e w2 ⟨rfl, hr, hf⟩
          have HY := Px.hid (And.intro (HZ.out.1.step hr hf HZO.out) (HZ.out.2.1.trans (It.foot (vo := vo) hf) (fun _ _ h => h)))
          clear hr hf
          go_wp2
          go_roundw
          case rel => exact ⟨j + 1, z2, by omega, by go_num, by go_num, by omega, Px.hid ⟨HY.out.1, HY.out.2, HARG.out, HZO.out.trans HZ.out.2.2.2⟩⟩
          case measure => simp [intOf]; omega
    · have hltz : ¬ (j : Int) < (n : Int) := by omega
      have hje : j = n := by omega
      subst hje
      have hwn : wantN s lim j y q = (true, z) := by rw [HZ.out.2.2.1, Nat.sub_self]; rfl
      have hcv : IntKind.i64.wrap (j : Int) = (j : Int) := IntWalk.i64_in _ ⟨by omega, by omega⟩
      have hsl : ∀ w, (Instr.slice 9 (S s) (some (.int .i64 (q : Int))) (some (.int .i64 ((q : Int) + j))) none).run Tryd.prog w = .ok (S ((s.take (q + j)).drop q)) w := fun w => by
        have := slice_S s q (q + j) (by omega) hjs w
        have hpj : ((q + j : Nat) : Int) = (q : Int) + j := by omega
        rw [hpj] at this
        exact this
      have HR := Px.hid (show textN s lim 2 j y p q = (if ((2 == 3) && !Lib.validD ((s.take (q + j)).drop q)) = true then (none, fault z p 9) else (some (q + j), { z with out := z.out ++ [⟨2, 0, (s.take (q + j)).drop q⟩] })) by unfold textN; rw [hwn]; rfl)
      have htl : ((s.take (q + j)).drop q).length ≤ maxLen := by have := HML.out; rw [List.length_drop, List.length_take]; omega
      obtain ⟨t, ht⟩ : ∃ t, t = (s.take (q + j)).drop q := ⟨_, rfl⟩
      rw [← ht] at HR hsl htl
      have HTL := Px.hid htl
      have hzl : z.out.length ≤ 1000000 := by rw [HZ.out.2.2.2]; exact hyl
      have c0 := HZ.out.1.rd.cells.1
      clear ht htl hwn hn64
      have HR := Px.hid (HR.out.trans (if_neg (by simp)))
      have HX := Px.hid (And.intro HZ.out.1 HZ.out.2.1)
      clear HZ
      have f11 := HX.out.1.rd.free 11
      have hb : b < wr.heap.size := HX.out.1.rd.lt
      have c11 : wr.cell? ⟨b, 11, none⟩ = some vo := HX.out.1.cell11
      obtain ⟨i0, hi0, hz0, hz1, hz2⟩ := info_parts Tryd.infoAtom
      go_upto_region 14 with fail
      go_cut [] (fun wx => RAfter wr wx b s lim z ⟨2, 0, t⟩ vo)
      case first =>
        go_wp2_with (at_builtin; go_must (refine wpList_append_lies _ rfl _ _ _ rfl 0 62 i0 _ 3 32 Tryd.underlying50 hi0 hz0 hz1 hz2 rfl (by omega) vo z.out.length (z.out.flatMap cAtom) rfl (HX.out.1.out.alloc _) ⟨wr.heap.size, 0, none⟩ 1 1 (cAtom ⟨2, 0, t⟩) rfl rfl (World.news_of_block (cs := #[.int .i64 2, .int .u64 0, S t]) (t := 62) (fr := (0, 0)) (heap_alloc_new wr _)) (by simp [cAtom, Value.oneCell']) (by omega) (by unfold maxLen; omega) (by omega) (by omega) (wr.heap.size + 1) (by simp) ?_))
        intro gg cap w1 hown1 hgrow hat hlt
        have k11 := grown_cell1 hgrow c11 HX.out.1.ob.ne
        have e11 := grown_free1 hgrow c11 f11 HX.out.1.ob.ne
        go_wp2_with fail
        go_meet
        exact HX.out.1.afterOut hown1 (grown_alloc1 hgrow) (hat.elim .inl (fun e => .inr (by omega)))
      case rest =>
        obtain ⟨vo', hy, hyf, hyn⟩ := hcut
        have HY := Px.hid (And.intro hy (And.intro hyf hyn))
        clear hy hyf hyn c11 f11
        go_wp2
        go_ret2
        rw [HR.out]
        exact ⟨rfl, _, ⟨_, HY.out.1, rfl⟩, HX.out.2.step (Fresh.refl _ _) HY.out.2.1, Fresh.trans (Fresh.refl _ _) HX.out.2.size HY.out.2.2⟩

set_option maxRecDepth 100000 in
set_option maxHeartbeats 4000000 in
theorem item_3 (s : Bytes) (lim : Lim) (hm : lim.may = true) (hs : s.length ≤ 140737488355327) (d : Nat) (b p dp n q : Nat) (x y : St) (F : Nat → Prop) (w : World) (h : RdAt w b s lim x F) (hg : Good s lim x p d) (hd : ((dp + d : Nat) : Int) = lim.d) (hh : Headed s lim x p 3 n q y) :
    Calls Tryd.prog 60 #[.pointer (some ⟨b, 0, none⟩), .int .i64 (p : Nat), .int .i64 (dp : Nat)] w fun r w' => r = .returned (itemV (textN s lim 3 n y p q).1) ∧ Did w b s lim F (textN s lim 3 n y p q).2 w' := by
  obtain ⟨vo, h, rfl⟩ := h
  have hmay := Cf.may_of hm
  have hol := hg.out
  have ho : x.out.length ≤ 1000000 := by omega
  obtain ⟨hmv, hpq, hyo, hn64, hk8, hlt⟩ := hg.head hh
  have hqs := hmv.qs
  have hqb := hmv.qb
  have hyl : y.out.length ≤ 1000000 := by rw [hyo]; exact ho
  have hw := rhead_any s lim hm hs b p x vo w h hg.ps ho
  have e : R7.head s lim x p = (some (3, n, q), y) := hh
  rw [e] at hw
  have HW := Px.hid hw
  have HG := Px.hid (And.intro hg (And.intro hm (And.intro hmv (And.intro hyo (And.intro hlt hn64)))))
  have hdp : ((dp : Nat) : Int) + (d : Nat) = lim.d := by omega
  have HD := Px.hid hd
  clear hw e hh hg hmv hyo hlt hk8 h hm hol ho hd hmay
  have HML := Px.hid (show s.length ≤ maxLen by unfold maxLen; omega)
  go_enter Tryd.func60, Tryd.ntmps60
  go_wp2_with fail
  refine HW.out.mono ?_
  rintro e w1 ⟨rfl, hx, hxf⟩
  have HX := Px.hid (And.intro hx hxf)
  clear hx hxf HW
  unfold headV
  obtain ⟨_, _, _, _, _, _, _, _, _⟩ := HX.out.1.rd.cells
  go_wp2
  go_loopw [10, 12] (fun a i wr => ∃ j z, j ≤ n ∧ i = .int .u64 (j : Nat) ∧ a = .int .i64 ((q + j : Nat) : Int) ∧ q + j ≤ s.length ∧ Hid (RdRep wr b s lim z vo ∧ Fr (rfoot b vo) w wr ∧ wantN s lim n y q = wantN s lim (n - j) z (q + j) ∧ z.out = y.out)) (fun _ i _ => n - (intOf i).toNat)
  case atStart => exact ⟨0, y, Nat.zero_le _, rfl, rfl, hqs, Px.hid ⟨HX.out.1, HX.out.2, rfl, rfl⟩⟩
  case round =>
    clear HX
    obtain ⟨j, z, hj, rfl, rfl, hjs, HZ⟩ := hrel
    have hn64 := HG.out.2.2.2.2.2
    by_cases hlt : j < n
    · have hltz : (j : Int) < (n : Int) := by omega
      have hwj : IntKind.u64.wrap ((j : Int) + 1) = (j : Int) + 1 := IntWalk.u64_in _ ⟨by omega, by omega⟩
      have hmay := Cf.may_of HG.out.2.1
      have hw0 := want_any b _ (q + j) s lim z _ _ wr HZ.out.1.rd HML.out hmay.2.2.2.2.1 hmay.2.2.2.2.2.1 (Nat.le_trans hjs HML.out)
      have hpj : ((q + j : Nat) : Int) = (q : Int) + j := by omega
      rw [hpj] at hw0
      cases hwt : want s lim z (q + j) with
      | mk wb z2 =>
        have hzo := want_out s lim z (q + j)
        rw [hwt] at hw0 hzo
        have harg : wantN s lim n y q = match (wb, z2) with | (false, u) => (false, u) | (true, u) => wantN s lim (n - (j + 1)) u (q + j + 1) := by
          rw [HZ.out.2.2.1, show n - j = (n - (j + 1)) + 1 by omega]
          conv => lhs; unfold wantN; rw [hwt]
          rfl
        cases wb with
        | false =>
          have HR := Px.hid (show textN s lim 3 n y p q = (none, z2) by unfold textN; rw [harg])
          have HW2 := Px.hid hw0
          have HZO := Px.hid hzo
          clear hwt hw0 hzo harg hn64 hmay hpj
          go_wp2_with fail
          refine HW2.out.mono ?_
          rintro e w2 ⟨rfl, hr, hf⟩
          have HY := Px.hid (And.intro (HZ.out.1.step hr hf HZO.out) (HZ.out.2.1.trans (It.foot (vo := vo) hf) (fun _ _ h => h)))
          clear hr hf
          go_wp2
          go_ret2
          rw [HR.out]
          exact ⟨rfl, _, ⟨_, HY.out.1, rfl⟩, HY.out.2, Fresh.refl _ _⟩
        | true =>
          obtain ⟨hps2, hpb2, hyt⟩ := want_true hwt
          have HARG := Px.hid harg
          have HW2 := Px.hid hw0
          have HZO := Px.hid hzo
          clear hwt hw0 hzo harg hn64 hmay hpj hyt
          go_wp2_with fail
          refine HW2.out.mono ?_
          rintro e w2 ⟨rfl, hr, hf⟩
          have HY := Px.hid (And.intro (HZ.out.1.step hr hf HZO.out) (HZ.out.2.1.trans (It.foot (vo := vo) hf) (fun _ _ h => h)))
          clear hr hf
          go_wp2
          go_roundw
          case rel => exact ⟨j + 1, z2, by omega, by go_num, by go_num, by omega, Px.hid ⟨HY.out.1, HY.out.2, HARG.out, HZO.out.trans HZ.out.2.2.2⟩⟩
          case measure => simp [intOf]; omega
    · have hltz : ¬ (j : Int) < (n : Int) := by omega
      have hje : j = n := by omega
      subst hje
      have hwn : wantN s lim j y q = (true, z) := by rw [HZ.out.2.2.1, Nat.sub_self]; rfl
      have hcv : IntKind.i64.wrap (j : Int) = (j : Int) := IntWalk.i64_in _ ⟨by omega, by omega⟩
      have hsl : ∀ w, (Instr.slice 9 (S s) (some (.int .i64 (q : Int))) (some (.int .i64 ((q : Int) + j))) none).run Tryd.prog w = .ok (S ((s.take (q + j)).drop q)) w := fun w => by
        have := slice_S s q (q + j) (by omega) hjs w
        have hpj : ((q + j : Nat) : Int) = (q : Int) + j := by omega
        rw [hpj] at this
        exact this
      have HR := Px.hid (show textN s lim 3 j y p q = (if ((3 == 3) && !Lib.validD ((s.take (q + j)).drop q)) = true then (none, fault z p 9) else (some (q + j), { z with out := z.out ++ [⟨3, 0, (s.take (q + j)).drop q⟩] })) by unfold textN; rw [hwn]; rfl)
      have htl : ((s.take (q + j)).drop q).length ≤ maxLen := by have := HML.out; rw [List.length_drop, List.length_take]; omega
      obtain ⟨t, ht⟩ : ∃ t, t = (s.take (q + j)).drop q := ⟨_, rfl⟩
      rw [← ht] at HR hsl htl
      have HTL := Px.hid htl
      have hzl : z.out.length ≤ 1000000 := by rw [HZ.out.2.2.2]; exact hyl
      have c0 := HZ.out.1.rd.cells.1
      clear ht htl hwn hn64
      by_cases hv : Lib.validD t = true
      · have HR := Px.hid (HR.out.trans (if_neg (by simp [hv])))
        have HV := Px.hid hv
        clear hv
        go_wp2_with fail
        refine (text_any t _ HTL.out).mono ?_
        rintro e w2 ⟨rfl, hs2⟩
        have HX := Px.hid (And.intro (HZ.out.1.same hs2) (HZ.out.2.1.trans (hs2.fr (rfoot b vo)) (fun _ _ h => h)))
        rw [HV.out]
        clear hs2 c0 HZ
        have f11 := HX.out.1.rd.free 11
        have hb : b < w2.heap.size := HX.out.1.rd.lt
        have c11 : w2.cell? ⟨b, 11, none⟩ = some vo := HX.out.1.cell11
        obtain ⟨i0, hi0, hz0, hz1, hz2⟩ := info_parts Tryd.infoAtom
        go_upto_region 14 with fail
        go_cut [] (fun wx => RAfter w2 wx b s lim z ⟨3, 0, t⟩ vo)
        case first =>
          go_wp2_with (at_builtin; go_must (refine wpList_append_lies _ rfl _ _ _ rfl 0 62 i0 _ 3 32 Tryd.underlying50 hi0 hz0 hz1 hz2 rfl (by omega) vo z.out.length (z.out.flatMap cAtom) rfl (HX.out.1.out.alloc _) ⟨w2.heap.size, 0, none⟩ 1 1 (cAtom ⟨3, 0, t⟩) rfl rfl (World.news_of_block (cs := #[.int .i64 3, .int .u64 0, S t]) (t := 62) (fr := (0, 0)) (heap_alloc_new w2 _)) (by simp [cAtom, Value.oneCell']) (by omega) (by unfold maxLen; omega) (by omega) (by omega) (w2.heap.size + 1) (by simp) ?_))
          intro gg cap w1 hown1 hgrow hat hlt
          have k11 := grown_cell1 hgrow c11 HX.out.1.ob.ne
          have e11 := grown_free1 hgrow c11 f11 HX.out.1.ob.ne
          go_wp2_with fail
          go_meet
          exact HX.out.1.afterOut hown1 (grown_alloc1 hgrow) (hat.elim .inl (fun e => .inr (by omega)))
        case rest =>
          obtain ⟨vo', hy, hyf, hyn⟩ := hcut
          have HY := Px.hid (And.intro hy (And.intro hyf hyn))
          clear hy hyf hyn c11 f11
          go_wp2
          go_ret2
          rw [HR.out]
          exact ⟨rfl, _, ⟨_, HY.out.1, rfl⟩, HX.out.2.step (Fresh.refl _ _) HY.out.2.1, Fresh.trans (Fresh.refl _ _) HX.out.2.size HY.out.2.2⟩
      · have hv : Lib.validD t = false := by simpa using hv
        have HR := Px.hid (HR.out.trans (if_pos (by simp [hv])))
        have HV := Px.hid hv
        clear hv
        go_wp2_with fail
        refine (text_any t _ HTL.out).mono ?_
        rintro e w2 ⟨rfl, hs2⟩
        have HX := Px.hid (And.intro (HZ.out.1.same hs2) (HZ.out.2.1.trans (hs2.fr (rfoot b vo)) (fun _ _ h => h)))
        rw [HV.out]
        clear hs2 c0 HZ
        go_wp2_with fail
        refine (xfault_any b _ p 9 s lim z _ _ _ HX.out.1.rd).mono ?_
        rintro e w3 ⟨rfl, hr, hf⟩
        have HY := Px.hid (And.intro (HX.out.1.step hr hf rfl) (HX.out.2.trans (It.foot (vo := vo) hf) (fun _ _ h => h)))
        clear hr hf
        go_wp2
        go_ret2
        rw [HR.out]
        exact ⟨rfl, _, ⟨_, HY.out.1, rfl⟩, HY.out.2, Fresh.refl _ _⟩

set_option maxRecDepth 100000 in
set_option maxHeartbeats 1000000 in
theorem item_none (s : Bytes) (lim : Lim) (hm : lim.may = true) (hs : s.length ≤ 140737488355327) (d b p dp : Nat) (x y : St) (F : Nat → Prop) (w : World) (h : RdAt w b s lim x F) (hg : Good s lim x p d) (hh : R7.head s lim x p = (none, y)) :
    Calls Tryd.prog 60 #[.pointer (some ⟨b, 0, none⟩), .int .i64 (p : Nat), .int .i64 (dp : Nat)] w fun r w' => r = .returned (itemV none) ∧ Did w b s lim F y w' := by
  obtain ⟨vo, h, rfl⟩ := h
  have hmay := Cf.may_of hm
  have hol := hg.out
  have hw := rhead_any s lim hm hs b p x vo w h hg.ps (by omega)
  rw [hh] at hw
  have HW := Px.hid hw
  clear hw hh hg hol hmay h hm
  go_enter Tryd.func60, Tryd.ntmps60
  go_wp2_with fail
  refine HW.out.mono ?_
  rintro e w1 ⟨rfl, hx, hxf⟩
  have HX := Px.hid (And.intro hx hxf)
  clear hx hxf HW
  unfold headV
  go_wp2
  go_ret2
  exact ⟨rfl, _, ⟨_, HX.out.1, rfl⟩, HX.out.2, Fresh.refl _ _⟩

theorem item_any (s : Bytes) (lim : Lim) (hm : lim.may = true) (hs : s.length ≤ 140737488355327) : ∀ d, ItemC s lim d := by
  intro d
  induction d with
  | zero =>
    intro b p dp x F w h hg hd
    have hitem : item s lim 0 x p = match R7.head s lim x p with
      | (none, y) => (none, y)
      | (some (k, n, at_), y) =>
        if k == 2 || k == 3 then textN s lim k n y p at_
        else if k == 4 || k == 5 || k == 6 then (none, fault y p 10)
        else (some at_, { y with out := y.out ++ [⟨k, n, []⟩] }) := rfl
    cases hr : R7.head s lim x p with
    | mk o y =>
      rw [hr] at hitem
      cases o with
      | none => rw [hitem]; exact item_none s lim hm hs 0 b p dp x y F w h hg hr
      | some t =>
        obtain ⟨kk, n, q⟩ := t
        obtain ⟨_, _, _, _, hk8, _⟩ := hg.head hr
        rw [hitem]
        have h8 : kk = 0 ∨ kk = 1 ∨ kk = 2 ∨ kk = 3 ∨ kk = 4 ∨ kk = 5 ∨ kk = 6 ∨ kk = 7 := by omega
        rcases h8 with rfl | rfl | rfl | rfl | rfl | rfl | rfl | rfl
        · exact item_0 s lim hm hs 0 b p dp n q x y F w h hg hd hr
        · exact item_1 s lim hm hs 0 b p dp n q x y F w h hg hd hr
        · exact item_2 s lim hm hs 0 b p dp n q x y F w h hg hd hr
        · exact item_3 s lim hm hs 0 b p dp n q x y F w h hg hd hr
        · exact item_4_full s lim hm hs b p dp n q x y F w h hg hd hr
        · exact item_5_full s lim hm hs b p dp n q x y F w h hg hd hr
        · exact item_6_full s lim hm hs b p dp n q x y F w h hg hd hr
        · exact item_7 s lim hm hs 0 b p dp n q x y F w h hg hd hr
  | succ d ih =>
    intro b p dp x F w h hg hd
    have hitem : item s lim (d + 1) x p = match R7.head s lim x p with
      | (none, y) => (none, y)
      | (some (k, n, at_), y) =>
        if k == 2 || k == 3 then textN s lim k n y p at_
        else if k == 4 || k == 5 || k == 6 then holdN s (item s lim d) k n y at_
        else (some at_, { y with out := y.out ++ [⟨k, n, []⟩] }) := rfl
    cases hr : R7.head s lim x p with
    | mk o y =>
      rw [hr] at hitem
      cases o with
      | none => rw [hitem]; exact item_none s lim hm hs (d + 1) b p dp x y F w h hg hr
      | some t =>
        obtain ⟨kk, n, q⟩ := t
        obtain ⟨_, _, _, _, hk8, _⟩ := hg.head hr
        rw [hitem]
        have h8 : kk = 0 ∨ kk = 1 ∨ kk = 2 ∨ kk = 3 ∨ kk = 4 ∨ kk = 5 ∨ kk = 6 ∨ kk = 7 := by omega
        rcases h8 with rfl | rfl | rfl | rfl | rfl | rfl | rfl | rfl
        · exact item_0 s lim hm hs (d + 1) b p dp n q x y F w h hg hd hr
        · exact item_1 s lim hm hs (d + 1) b p dp n q x y F w h hg hd hr
        · exact item_2 s lim hm hs (d + 1) b p dp n q x y F w h hg hd hr
        · exact item_3 s lim hm hs (d + 1) b p dp n q x y F w h hg hd hr
        · exact item_4 s lim hm hs d ih b p dp n q x y F w h hg hd hr
        · exact item_5 s lim hm hs d ih b p dp n q x y F w h hg hd hr
        · exact item_6 s lim hm hs d ih b p dp n q x y F w h hg hd hr
        · exact item_7 s lim hm hs (d + 1) b p dp n q x y F w h hg hd hr
end Go.Proofs.YtddiabaagpmkgaaDoor
