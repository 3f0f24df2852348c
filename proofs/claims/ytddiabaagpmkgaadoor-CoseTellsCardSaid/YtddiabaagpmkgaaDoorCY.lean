/-
 Several texts in one: What stays true while the program's cbor.reader reads on. Plain. The walk over the program's read (package cbor). The walk over cbor.Decode's recovering closure. The walk over the program's cbor.Decode. The walk over the program's cbor.Decode where the limits may be. The walk over the program's cbor.Decode where the text is read whole. The walk over the program's cbor.Decode where something stands behind. The program's cbor.Decode and the reference's Decode of layer 17: both hand back the same, at any bytes and any limits.
-/
import Derived.Test.YtddiabaagpmkgaaDoorCU
import Derived.Deep.LoopGhost
import Derived.Defers
import Derived.Recover
import Derived.Laws.Pointers
import Derived.Test.YtddiabaagpmkgaaDoorXB
import Derived.Test.YtddiabaagpmkgaaDoorCE
/-! What stays true while the program's cbor.reader reads on. Plain. -/
namespace Go.Proofs.YtddiabaagpmkgaaDoor
open Go.RowKit Go.Px

structure RInv (s : Bytes) (lim : Lim) (x : D7.Dx) : Prop where
 each : ∀ f ∈ x.stack, f.left < 18446744073709551616 ∧ f.at_ ≤ x.at_
 tail : ∀ f ∈ x.stack.tail, 0 < f.left
 sl : (x.stack.length : Int) ≤ lim.d
 ol : (x.out.length : Int) ≤ lim.i
 here : x.at_ ≤ s.length
 bound : (x.at_ : Int) ≤ lim.b
theorem may_parts {lim : Lim} (h : lim.may = true) : 1 ≤ lim.d ∧ lim.d ≤ 32 ∧ 1 ≤ lim.i ∧ lim.i ≤ 4096 ∧ 1 ≤ lim.b ∧ lim.b ≤ 262144 ∧ 1 ≤ lim.r ∧ lim.r ≤ 4096 := by
 simp only [Lim.may, Bool.and_eq_true, decide_eq_true_eq] at h
 omega
theorem RInv.ok {s : Bytes} {lim : Lim} {x : D7.Dx} (h : RInv s lim x) (hm : lim.may = true) (hall : ∀ f ∈ x.stack, 0 < f.left) : DOk s lim x := by
 obtain ⟨_, m2, _, m4, _, m6, _, _⟩ := may_parts hm
 have := h.sl
 have := h.ol
 exact ⟨fun f hf => ⟨hall f hf, (h.each f hf).1⟩, by omega, by omega, h.here, hm⟩
theorem RInv.setTop {s : Bytes} {lim : Lim} {x : D7.Dx} {f y : D7.Fm} {rest : List D7.Fm} (h : RInv s lim x) (hs : x.stack = f :: rest) (hl : y.left ≤ f.left) (ha : y.at_ = f.at_) : RInv s lim { x with stack := y :: rest } := by
 refine ⟨?_, ?_, ?_, h.ol, h.here, h.bound⟩
 ·intro g hg
  rcases List.mem_cons.mp hg with rfl | hg
  ·have := h.each f (by rw [hs]; simp)
   exact ⟨by omega, by show g.at_ ≤ x.at_; omega⟩
  ·exact h.each g (by rw [hs]; exact List.mem_cons_of_mem _ hg)
 ·intro g hg
  exact h.tail g (by rw [hs]; exact hg)
 ·have := h.sl
  rw [hs] at this
  exact this
theorem RInv.ended {s : Bytes} {lim : Lim} {x y : D7.Dx} {p : Nat} (h : RInv s lim x) (he : D7.ended s x p = .ok y) : RInv s lim y := by
 unfold D7.ended at he
 cases hs : x.stack with
 | nil =>
  rw [hs] at he
  simp only [Except.ok.injEq] at he
  subst he
  exact h
 | cons f rest =>
  rw [hs] at he
  simp only at he
  by_cases h1 : (f.kind == 5 && f.left % 2 == 0) = true
  ·rw [if_pos h1] at he
   by_cases h2 : (f.any && leB ((s.take x.at_).drop p) f.key) = true
   ·rw [if_pos h2] at he; cases he
   ·rw [if_neg h2] at he
    simp only [Except.ok.injEq] at he
    subst he
    exact h.setTop hs (by simp) rfl
  ·rw [if_neg h1] at he
   simp only [Except.ok.injEq] at he
   subst he
   exact h.setTop hs (by simp) rfl
theorem RInv.item {s : Bytes} {lim : Lim} {x : D7.Dx} {a : Atom} {q : Nat} (h : RInv s lim x) (hi : ¬ (x.out.length : Int) = lim.i) (hq : x.at_ ≤ q) (hqs : q ≤ s.length) (hqb : (q : Int) ≤ lim.b) : RInv s lim { at_ := q, stack := x.stack, out := x.out ++ [a] } := by
 refine ⟨fun f hf => ⟨(h.each f hf).1, Nat.le_trans (h.each f hf).2 hq⟩, fun f hf => h.tail f hf, h.sl, ?_, hqs, hqb⟩
 have := h.ol
 show ((x.out ++ [a]).length : Int) ≤ lim.i
 rw [List.length_append]
 simp only [List.length_cons, List.length_nil]
 omega
theorem RInv.push {s : Bytes} {lim : Lim} {x y : D7.Dx} {k n q l : Nat} (h : RInv s lim x) (hall : ∀ f ∈ x.stack, 0 < f.left) (hi : ¬ (x.out.length : Int) = lim.i) (hq : x.at_ ≤ q) (hqs : q ≤ s.length) (hqb : (q : Int) ≤ lim.b) (hl : l < 18446744073709551616) (he : D7.push lim x x.at_ k n q l = .ok y) : RInv s lim y := by
 unfold D7.push at he
 by_cases hd : (x.stack.length : Int) = lim.d
 ·rw [if_pos hd] at he; cases he
 ·rw [if_neg hd] at he
  simp only [Except.ok.injEq] at he
  subst he
  have g := h.item (a := ⟨k, n, []⟩) hi hq hqs hqb
  refine ⟨?_, hall, ?_, g.ol, g.here, g.bound⟩
  ·intro f hf
   rcases List.mem_cons.mp hf with rfl | hf
   ·exact ⟨hl, hq⟩
   ·exact g.each f hf
  ·have := h.sl
   show ((_ :: x.stack : List D7.Fm).length : Int) ≤ lim.d
   rw [List.length_cons]
   omega
theorem RInv.begin {s : Bytes} {lim : Lim} {x y : D7.Dx} (h : RInv s lim x) (hm : lim.may = true) (hall : ∀ f ∈ x.stack, 0 < f.left) (he : D7.beginD s lim x = .ok y) : RInv s lim y := by
 obtain ⟨_, m2, _, m4, m5, m6, _, _⟩ := may_parts hm
 unfold D7.beginD at he
 cases hh : D7.head s lim x.out.length x.at_ with
 | error e => rw [hh] at he; cases he
 | ok v =>
  obtain ⟨k, n, q⟩ := v
  rw [hh] at he
  obtain ⟨hpq, hqs, hqb, hn, _⟩ := head_place hh
  obtain ⟨_, _, _, _, hi, _⟩ := head_ok hh
  simp only at he
  by_cases h23 : (k == 2 || k == 3) = true
  ·rw [if_pos h23] at he
   cases ht : D7.take s lim q n with
   | error e => rw [ht] at he; cases he
   | ok t =>
    rw [ht] at he
    simp only at he
    obtain ⟨t1, t2, _⟩ := take_ok m5 hqs ht
    have t3 : ((q + n : Nat) : Int) ≤ lim.b := by unfold D7.room at t1; omega
    by_cases h3 : (k == 3 && !Lib.validD t) = true
    ·rw [if_pos h3] at he; cases he
    ·rw [if_neg h3] at he
     exact (h.item hi (by omega) t2 t3).ended he
  ·rw [if_neg h23] at he
   by_cases h4 : (k == 4) = true
   ·rw [if_pos h4] at he
    exact h.push hall hi (by omega) hqs hqb hn he
   rw [if_neg h4] at he
   by_cases h5 : (k == 5) = true
   ·rw [if_pos h5] at he
    exact h.push hall hi (by omega) hqs hqb (by omega) he
   rw [if_neg h5] at he
   by_cases h6 : (k == 6) = true
   ·rw [if_pos h6] at he
    exact h.push hall hi (by omega) hqs hqb (by omega) he
   rw [if_neg h6] at he
   exact (h.item hi (by omega) hqs hqb).ended he
end Go.Proofs.YtddiabaagpmkgaaDoor

/-! The walk over the program's read (package cbor). -/
namespace Go.Proofs.YtddiabaagpmkgaaDoor
open Go.RowKit Go.Px

set_option maxRecDepth 100000 in
set_option maxHeartbeats 4000000 in
theorem read_any (s : Bytes) (lim : Lim) (hs : s.length ≤ 140737488355327) (hm : lim.may = true) (b : Nat) (x : D7.Dx) (vs vo : Value) (w : World) (h : DrRep w b s lim x vs vo) (hx : x.stack = []) (hinv : RInv s lim x) (hT : ∀ w2, Fr (dfoot b vs vo) w w2 → Tabs w2) (m : Nat) (res : Except D7.Flt D7.Dx) (hrun : D7.after s lim (D7.beginD s lim x) m = some res) :
  Calls Tryd.prog 37 #[.pointer (some ⟨b, 0, none⟩)] w fun r w' => BegPost w b s lim (dfoot b vs vo) res r w' := by
 obtain ⟨_, m2, _, m4, m5, m6, _, _⟩ := may_parts hm
 have hall : ∀ f ∈ x.stack, 0 < f.left := by rw [hx]; simp
 have hbeg := begin_any s lim hs m5 m6 b x vs vo w h (by have := hinv.bound; omega) (hinv.ok hm hall) hT
 have hnext : ∀ y, D7.beginD s lim x = .ok y → RInv s lim y := fun y => hinv.begin hm hall
 have hbound : ∀ y : D7.Dx, RInv s lim y → y.at_ ≤ 262144 := fun y hy => by have := hy.bound; omega
 have HH := Px.hid (And.intro hbeg (And.intro hnext (And.intro hrun (And.intro hT (And.intro hs (And.intro hm (And.intro m5 (And.intro m6 (And.intro hbound m2)))))))))
 clear hbeg hnext hrun hT hs hm m5 m6 hbound m2 m4 hall hinv h
 go_enter Tryd.func37, Tryd.ntmps37
 go_wp2_with fail
 refine HH.out.1.mono ?_
 intro r w1 hpost
 have hrun := HH.out.2.2.1
 unfold BegPost at hpost
 cases hb : D7.beginD s lim x with
 | error e =>
  rw [hb] at hpost hrun
  obtain ⟨rfl, hf⟩ := hpost
  simp only [D7.after, Option.some.injEq] at hrun
  have HE := Px.hid (And.intro hf hrun)
  clear hf hrun hb
  unfold panics
  go_wp2
  rw [← HE.out.2]
  exact ⟨rfl, rfl, HE.out.1⟩
 | ok y =>
  rw [hb] at hpost hrun
  obtain ⟨rfl, F1, hat, hf, hn⟩ := hpost
  simp only [D7.after] at hrun
  have HE := Px.hid (And.intro hat (And.intro hf (And.intro hn (And.intro hrun (HH.out.2.1 y hb)))))
  clear hat hf hn hrun hb
  go_wp2_with fail
  go_loopg [2] m (fun gk _ wr => ∃ z F', D7.loopN s lim gk z = some res ∧ DrAt wr b s lim z F' ∧ RInv s lim z ∧ Fr (dfoot b vs vo) w wr ∧ Fresh w (dfoot b vs vo) F')
  case atStart => exact ⟨_, _, HE.out.2.2.2.1, HE.out.1, HE.out.2.2.2.2, HE.out.2.1, HE.out.2.2.1⟩
  case round =>
   clear HE
   obtain ⟨z, F', hrun, ⟨zs, zo, hz, rfl⟩, hinv, hfr, hfs⟩ := hrel
   obtain ⟨g', rfl⟩ : ∃ g', gk = g' + 1 := by
    cases gk with
    | zero => cases hrun
    | succ g => exact ⟨g, rfl⟩
   unfold D7.loopN at hrun
   obtain ⟨_, _, _, _, c5, c6, _⟩ := hz.cells
   obtain ⟨a, cap, hv⟩ := hz.stackLen
   rcases hzs : z.stack with _ | ⟨f, rest⟩
   ·rw [hzs] at hrun
    rw [hv, hzs] at c6
    simp only [Option.some.injEq] at hrun
    have HK := Px.hid (And.intro hz (And.intro hfr (And.intro hfs hrun)))
    clear hz hfr hfs hrun hzs hv hinv c5
    go_wp2
    refine bodyPost_ret (results_none rfl _ _ _) rfl ?_
    rw [← HK.out.2.2.2]
    exact ⟨rfl, _, ⟨_, _, HK.out.1, rfl⟩, HK.out.2.1, HK.out.2.2.1⟩
   ·obtain ⟨g, cap', hv', hc1, hc2, k0, k1, k2, k3, k4, kf⟩ := hz.top hzs
    subst hv'
    rw [hzs] at hrun
    simp only at hrun
    have hsl : rest.length ≤ 1000 := by have := hinv.sl; have := HH.out.2.2.2.2.2.2.2.2.2; rw [hzs] at *; simp at *; omega
    unfold maxLen at hc2
    have f6 := hz.free 6
    have hb6 : b < wr.heap.size := hz.lt
    have hgl : g < wr.heap.size := by have := hz.footLt g (.inr (.inl rfl)); exact this
    have HK := Px.hid (And.intro hz (And.intro hfr (And.intro hfs (And.intro hrun (And.intro hinv hzs)))))
    clear hz hfr hfs hrun hzs hv hinv c5 kf
    go_upto_region 2 with fail
    go_region
    obtain ⟨WX, hWX⟩ : ∃ WX, WX = (wr.alloc (.cells #[.int .i64 f.kind, .int .i64 (f.at_ : Nat), .int .u64 (f.left : Nat), .string ⟨f.key.toArray⟩, .bool f.any] 108 (0, 0))).drew := ⟨_, rfl⟩
    rw [← hWX]
    have HX := Px.hid (show DrRep WX b s lim z (.slice (some ⟨g, 0, none⟩) (rest.length + 1) cap') zo ∧ Fr (dfoot b vs vo) w WX ∧ WX.heap[wr.heap.size]? = some (.cells #[.int .i64 f.kind, .int .i64 (f.at_ : Nat), .int .u64 (f.left : Nat), .string ⟨f.key.toArray⟩, .bool f.any] 108 (0, 0)) ∧ wr.heap.size < WX.heap.size from by
     rw [hWX]
     exact ⟨(HK.out.1.alloc _).drewN 1, (HK.out.2.1.alloc _).drew, heap_alloc_new wr _, by show _ < (wr.alloc _).heap.size; simp⟩)
    have a1 : WX.cell? ⟨wr.heap.size, 1, none⟩ = some (.int .i64 (f.at_ : Nat)) := cellOf HX.out.2.2.1 1 rfl
    have a2 : WX.cell? ⟨wr.heap.size, 2, none⟩ = some (.int .u64 (f.left : Nat)) := cellOf HX.out.2.2.1 2 rfl
    have hab : ¬ dfoot b (.slice (some ⟨g, 0, none⟩) (rest.length + 1) cap') zo wr.heap.size := fun e => by have := HK.out.1.footLt _ e; omega
    have HA := Px.hid hab
    have HXW := Px.hid (show Fr (dfoot b (.slice (some ⟨g, 0, none⟩) (rest.length + 1) cap') zo) wr WX from by rw [hWX]; exact ((Fr.refl _ wr).alloc _).drew)
    clear hWX c6 f6 k0 k1 k2 k3 k4 hab
    by_cases hl : 0 < f.left
    ·have hl' : (0 : Int) < f.left := by omega
     have hallz : ∀ f' ∈ z.stack, 0 < f'.left := by
      intro f' hf'
      rw [HK.out.2.2.2.2.2] at hf'
      rcases List.mem_cons.mp hf' with rfl | hf'
      ·exact hl
      ·exact HK.out.2.2.2.2.1.tail f' (by rw [HK.out.2.2.2.2.2]; exact hf')
     have hbg := begin_any s lim HH.out.2.2.2.2.1 HH.out.2.2.2.2.2.2.1 HH.out.2.2.2.2.2.2.2.1 b z _ zo WX HX.out.1 (HH.out.2.2.2.2.2.2.2.2.1 z HK.out.2.2.2.2.1) (HK.out.2.2.2.2.1.ok HH.out.2.2.2.2.2.1 hallz) (fun w2 h2 => HH.out.2.2.2.1 w2 (HX.out.2.1.step HK.out.2.2.1 h2))
     have hrun2 := HK.out.2.2.2.1
     rw [if_pos hl] at hrun2
     have HB := Px.hid (And.intro hbg (And.intro hrun2 (fun y hy => HK.out.2.2.2.2.1.begin HH.out.2.2.2.2.2.1 hallz (y := y) hy)))
     clear hbg hrun2 hallz hl a1
     go_wp2_with fail
     refine HB.out.1.mono ?_
     intro r w3 hpost
     have hrun3 := HB.out.2.1
     unfold BegPost at hpost
     cases hbz : D7.beginD s lim z with
     | error e =>
      rw [hbz] at hpost hrun3
      obtain ⟨rfl, hf3⟩ := hpost
      simp only [Option.some.injEq] at hrun3
      have HE := Px.hid (And.intro (HX.out.2.1.step HK.out.2.2.1 hf3) hrun3)
      clear hf3 hrun3 hbz
      unfold panics
      go_wp2
      rw [← HE.out.2]
      exact ⟨rfl, rfl, HE.out.1⟩
     | ok y3 =>
      rw [hbz] at hpost hrun3
      obtain ⟨rfl, F3, hat3, hf3, hn3⟩ := hpost
      simp only at hrun3
      have HE := Px.hid (And.intro hat3 (And.intro (HX.out.2.1.step HK.out.2.2.1 hf3) (And.intro (Fresh.trans HK.out.2.2.1 HX.out.2.1.size hn3) (And.intro hrun3 (HB.out.2.2 y3 hbz)))))
      clear hat3 hf3 hn3 hrun3 hbz
      go_wp2
      go_roundg g'
      case measure => omega
      case rel => exact ⟨_, _, HE.out.2.2.2.1, HE.out.1, HE.out.2.2.2.2, HE.out.2.1, HE.out.2.2.1⟩
    ·have hl' : ¬ (0 : Int) < f.left := by omega
     have c6 : WX.cell? ⟨b, 6, none⟩ = some (.slice (some ⟨g, 0, none⟩) (rest.length + 1) cap') := HX.out.1.cells.2.2.2.2.2.1
     have f6 := HX.out.1.free 6
     have hrun2 := HK.out.2.2.2.1
     rw [if_neg hl] at hrun2
     have HR := Px.hid hrun2
     clear hrun2 hl
     go_upto_region 5 with fail
     go_region
     obtain ⟨WY, hWY⟩ : ∃ WY, WY = (WX.setCell ⟨b, 6, none⟩ (.slice (some ⟨g, 0, none⟩) rest.length cap')).drew := ⟨_, rfl⟩
     rw [← hWY]
     have hba : wr.heap.size ≠ b := fun e => HA.out (.inl e)
     have HY := Px.hid (show DrRep WY b s lim { z with stack := rest } (.slice (some ⟨g, 0, none⟩) rest.length cap') zo ∧ Fr (dfoot b vs vo) w WY ∧ WY.heap[wr.heap.size]? = some (.cells #[.int .i64 f.kind, .int .i64 (f.at_ : Nat), .int .u64 (f.left : Nat), .string ⟨f.key.toArray⟩, .bool f.any] 108 (0, 0)) ∧ Fr (dfoot b (.slice (some ⟨g, 0, none⟩) (rest.length + 1) cap') zo) wr WY from by
      have q0 : Fr (fun k => k = b) WX WY := by rw [hWY]; exact ((Fr.refl (fun k => k = b) WX).setCell (p := ⟨b, 6, none⟩) (.inl rfl) _).drew
      have q1 : Fr (dfoot b (.slice (some ⟨g, 0, none⟩) (rest.length + 1) cap') zo) WX WY := q0.mono (fun k e => .inl e)
      refine ⟨by rw [hWY]; exact (HX.out.1.pop HK.out.2.2.2.2.2).drewN 1, HX.out.2.1.step HK.out.2.2.1 q1, (q0.block _ HX.out.2.2.2 hba).trans HX.out.2.2.1, Fr.trans HXW.out q1 (fun _ _ e => e)⟩)
     have b1 : WY.cell? ⟨wr.heap.size, 1, none⟩ = some (.int .i64 (f.at_ : Nat)) := cellOf HY.out.2.2.1 1 rfl
     have hpf := HK.out.2.2.2.2.1
     have hfa : f.at_ ≤ z.at_ := (hpf.each f (by rw [HK.out.2.2.2.2.2]; simp)).2
     have hinv2 : RInv s lim { z with stack := rest } := by
      refine ⟨fun f' hf' => hpf.each f' (by rw [HK.out.2.2.2.2.2]; exact List.mem_cons_of_mem _ hf'), fun f' hf' => hpf.tail f' (by rw [HK.out.2.2.2.2.2]; exact List.mem_of_mem_tail hf'), ?_, hpf.ol, hpf.here, hpf.bound⟩
      have := hpf.sl
      rw [HK.out.2.2.2.2.2] at this
      simp only [List.length_cons] at this
      show (rest.length : Int) ≤ lim.d
      omega
     have hen := dended_any b f.at_ s lim { z with stack := rest } _ WY ⟨_, _, HY.out.1, rfl⟩ hfa hpf.here (fun f2 r2 e2 => ⟨hpf.tail f2 (by rw [HK.out.2.2.2.2.2]; show f2 ∈ rest; rw [show rest = f2 :: r2 from e2]; simp), (hinv2.each f2 (by show f2 ∈ rest; rw [show rest = f2 :: r2 from e2]; simp)).1⟩) hsl
     have HE := Px.hid (And.intro hen (And.intro hinv2 hfa))
     clear hen hinv2 hpf hfa hWY c6 f6 a1 a2 hba
     go_wp2_with fail
     refine HE.out.1.mono ?_
     intro r w3 hpost
     have hrun3 := HR.out
     unfold EndPost at hpost
     cases hbz : D7.ended s { z with stack := rest } f.at_ with
     | error e =>
      rw [hbz] at hpost hrun3
      obtain ⟨rfl, hf3⟩ := hpost
      simp only [Option.some.injEq] at hrun3
      have HZ := Px.hid (And.intro (HY.out.2.1.step HK.out.2.2.1 hf3) hrun3)
      clear hf3 hrun3 hbz
      unfold panics
      go_wp2
      rw [← HZ.out.2]
      exact ⟨rfl, rfl, HZ.out.1⟩
     | ok y3 =>
      rw [hbz] at hpost hrun3
      obtain ⟨rfl, hat3, hf3⟩ := hpost
      simp only at hrun3
      have HZ := Px.hid (And.intro hat3 (And.intro (HY.out.2.1.step HK.out.2.2.1 hf3) (And.intro HK.out.2.2.1 (And.intro hrun3 (HE.out.2.1.ended hbz)))))
      clear hat3 hf3 hrun3 hbz
      go_wp2
      go_roundg g'
      case measure => omega
      case rel => exact ⟨_, _, HZ.out.2.2.2.1, HZ.out.1, HZ.out.2.2.2.2, HZ.out.2.1, HZ.out.2.2.1⟩
end Go.Proofs.YtddiabaagpmkgaaDoor

/-! The walk over cbor.Decode's recovering closure. -/
namespace Go.Proofs.YtddiabaagpmkgaaDoor
open Go.RowKit Go.Px

theorem catch_idle (p0 p1 p2 : Addr) (w : World) :
  CallsD Tryd.prog 36 #[.pointer (some p0), .pointer (some p1), .pointer (some p2)] .returning w fun e u' w' => e = .returned (.tuple #[]) ∧ u' = .returning ∧ w' = w := by
 refine callsD_of_wpS Tryd.func36 rfl fun c₀ cs hu => ?_
 simp only [Tryd.ntmps36, List.size_toArray, List.length_cons, List.length_nil, Nat.reduceAdd, Nat.reduceSub, Array.replicate_succ, Array.replicate_zero, List.push_toArray, List.append_toArray, List.nil_append, List.cons_append]
 apply wpS_seq
 apply wpS_region
 simp [wpOpsS, go_sem, recoverD, hu, Exit.thenS]
 refine wpS_of_wp ?_
 generalize hQ : (fun (e : Exit) (a' : Act) (w' : World) => bodyPostS _ _ c₀ cs _ e a' _ w') = Q
 go_wp2
 rw [← hQ]
 simp only [bodyPostS]
 exact ⟨trivial, .returning, by cases c₀; simp_all, .tuple #[], results_none rfl _ _ _, by simp⟩
@[go_sem] theorem as_flt (v : Value) (w : World) : (Instr.typeAssert (.iface 78 v) 20 78 true).run Tryd.prog w = .ok (.tuple #[v, .bool true]) w := by kernel_rfl
set_option maxRecDepth 100000 in
set_option maxHeartbeats 1000000 in
theorem catch_flt (g0 g1 g2 : Nat) (e : D7.Flt) (v0 v1 v2 : Value) (older : List PanicEntry) (w : World)
  (h0 : w.cell? ⟨g0, 0, none⟩ = some v0) (h1 : w.cell? ⟨g1, 0, none⟩ = some v1) (h2 : w.cell? ⟨g2, 0, none⟩ = some v2)
  (k0 : w.frozen? ⟨g0, 0, none⟩ = false) (k1 : w.frozen? ⟨g1, 0, none⟩ = false) (k2 : w.frozen? ⟨g2, 0, none⟩ = false) (l0 : g0 < w.heap.size) (l1 : g1 < w.heap.size) (l2 : g2 < w.heap.size) (h01 : g0 ≠ g1) (h02 : g0 ≠ g2) (h12 : g1 ≠ g2) :
  CallsD Tryd.prog 36 #[.pointer (some ⟨g0, 0, none⟩), .pointer (some ⟨g1, 0, none⟩), .pointer (some ⟨g2, 0, none⟩)] (.panicking ({ v := fltV e, recovered := false } :: older)) w fun r u' w' =>
   r = .returned (.tuple #[]) ∧ u' = .panicking ({ v := fltV e, recovered := true } :: older) ∧ w' = ((((w.setCell ⟨g0, 0, none⟩ (.slice none 0 0)).setCell ⟨g1, 0, none⟩ (.int .i64 e.1)).setCell ⟨g2, 0, none⟩ (.int .i64 e.2)).alloc (.cells #[.int .i64 e.1, .int .i64 e.2] 78 (0, 0))).drew := by
 refine callsD_of_wpS Tryd.func36 rfl fun c₀ cs hu => ?_
 unfold fltV at hu
 simp only [Tryd.ntmps36, List.size_toArray, List.length_cons, List.length_nil, Nat.reduceAdd, Nat.reduceSub, Array.replicate_succ, Array.replicate_zero, List.push_toArray, List.append_toArray, List.nil_append, List.cons_append]
 apply wpS_seq
 apply wpS_region
 simp [wpOpsS, go_sem, recoverD, hu, Exit.thenS]
 refine wpS_of_wp ?_
 generalize hQ : (fun (e : Exit) (a' : Act) (w' : World) => bodyPostS _ _ c₀ cs _ e a' _ w') = Q
 have n01 : ⟨g0, 0, none⟩ ≠ (⟨g1, 0, none⟩ : Addr) := fun e => h01 (by cases e; rfl)
 have n02 : ⟨g0, 0, none⟩ ≠ (⟨g2, 0, none⟩ : Addr) := fun e => h02 (by cases e; rfl)
 have n12 : ⟨g1, 0, none⟩ ≠ (⟨g2, 0, none⟩ : Addr) := fun e => h12 (by cases e; rfl)
 go_upto_region 5 with fail
 go_region
 rw [← hQ]
 simp only [bodyPostS]
 exact ⟨trivial, _, rfl, .tuple #[], results_none rfl _ _ _, by simp [fltV]⟩
end Go.Proofs.YtddiabaagpmkgaaDoor

/-! The walk over the program's cbor.Decode. -/
namespace Go.Proofs.YtddiabaagpmkgaaDoor
open Go.RowKit Go.Px

/-- Decode's first four blocks. -/
def World.dec (w : World) (lim : Lim) : World := ((((w.alloc (.cells #[.int .i64 lim.d, .int .i64 lim.i, .int .i64 lim.b, .int .i64 lim.r] 23 (0, 0))).alloc (.cells #[.slice none 0 0] 50 (0, 0))).alloc (.cells #[.int .i64 0] 3 (0, 0))).alloc (.cells #[.int .i64 0] 28 (0, 0)))
structure DecAt (w w1 : World) (lim : Lim) (v0 v1 v2 : Value) : Prop where
 lim : w1.heap[w.heap.size]? = some (.cells #[.int .i64 lim.d, .int .i64 lim.i, .int .i64 lim.b, .int .i64 lim.r] 23 (0, 0))
 v0 : w1.heap[w.heap.size + 1]? = some (.cells #[v0] 50 (0, 0))
 v1 : w1.heap[w.heap.size + 1 + 1]? = some (.cells #[v1] 3 (0, 0))
 v2 : w1.heap[w.heap.size + 1 + 1 + 1]? = some (.cells #[v2] 28 (0, 0))
 same : Same w w1
theorem dec_at (w : World) (lim : Lim) : DecAt w (World.dec w lim) lim (.slice none 0 0) (.int .i64 0) (.int .i64 0) := by
 refine ⟨?_, ?_, ?_, ?_, (((Same.refl w).alloc _).alloc _).alloc _ |>.alloc _⟩
 ·exact (Below.heap_alloc _ _ _ (by simp <;> omega)).trans ((Below.heap_alloc _ _ _ (by simp <;> omega)).trans ((Below.heap_alloc _ _ _ (by simp)).trans (heap_alloc_new w _)))
 ·refine (Below.heap_alloc _ _ _ (by simp <;> omega)).trans ((Below.heap_alloc _ _ _ (by simp)).trans ?_)
  have := heap_alloc_new (w.alloc (.cells #[.int .i64 lim.d, .int .i64 lim.i, .int .i64 lim.b, .int .i64 lim.r] 23 (0, 0))) (.cells #[.slice none 0 0] 50 (0, 0))
  simpa using this
 ·refine (Below.heap_alloc _ _ _ (by simp)).trans ?_
  have := heap_alloc_new ((w.alloc (.cells #[.int .i64 lim.d, .int .i64 lim.i, .int .i64 lim.b, .int .i64 lim.r] 23 (0, 0))).alloc (.cells #[.slice none 0 0] 50 (0, 0))) (.cells #[.int .i64 0] 3 (0, 0))
  simpa using this
 ·have := heap_alloc_new (((w.alloc (.cells #[.int .i64 lim.d, .int .i64 lim.i, .int .i64 lim.b, .int .i64 lim.r] 23 (0, 0))).alloc (.cells #[.slice none 0 0] 50 (0, 0))).alloc (.cells #[.int .i64 0] 3 (0, 0))) (.cells #[.int .i64 0] 28 (0, 0))
  simpa [World.dec] using this
theorem DecAt.keep {w w1 w2 : World} {lim : Lim} {v0 v1 v2 : Value} (h : DecAt w w1 lim v0 v1 v2) (hs : Same w1 w2) : DecAt w w2 lim v0 v1 v2 :=
 ⟨(hs.block _ (ltOf h.lim) (fun x => x)).trans h.lim, (hs.block _ (ltOf h.v0) (fun x => x)).trans h.v0, (hs.block _ (ltOf h.v1) (fun x => x)).trans h.v1, (hs.block _ (ltOf h.v2) (fun x => x)).trans h.v2, Fr.trans h.same hs (fun _ _ x => x)⟩
set_option maxRecDepth 100000 in
set_option maxHeartbeats 1000000 in
theorem decode_no (s : Bytes) (lim : Lim) (hm : lim.may = false) (w : World) :
  Calls Tryd.prog 22 #[S s, limV lim] w fun r w' => r = .returned (.tuple #[.slice none 0 0, .int .i64 0, .int .i64 2]) ∧ Same w w' := by
 have hmf : ∀ (fn : Fn) (first cap : Array Value) (w : World), (Instr.makeFunc fn first cap).run Tryd.prog w = .ok (.func fn first cap) w := fun _ _ _ _ => rfl
 unfold limV
 go_enter_defers Tryd.func22, Tryd.ntmps22
 go_upto_region 1 with fail
 rw [show ((((w.alloc (.cells #[.int .i64 lim.d, .int .i64 lim.i, .int .i64 lim.b, .int .i64 lim.r] 23 (0, 0))).alloc (.cells #[.slice none 0 0] 50 (0, 0))).alloc (.cells #[.int .i64 0] 3 (0, 0))).alloc (.cells #[.int .i64 0] 28 (0, 0))) = World.dec w lim from rfl]
 have HD := Px.hid (dec_at w lim)
 have a0 := cellOf HD.out.lim 0 rfl
 have a1 := cellOf HD.out.lim 1 rfl
 have a2 := cellOf HD.out.lim 2 rfl
 have a3 := cellOf HD.out.lim 3 rfl
 go_wp2_with fail
 refine (derMay_any lim _).mono ?_
 rintro e w1 ⟨rfl, hs⟩
 have HE := Px.hid (HD.out.keep hs)
 have b0 := cellOf HE.out.v0 0 rfl
 have b1 := cellOf HE.out.v1 0 rfl
 have b2 := cellOf HE.out.v2 0 rfl
 have f0 := freeOf HE.out.v0 0
 have f1 := freeOf HE.out.v1 0
 have f2 := freeOf HE.out.v2 0
 clear a0 a1 a2 a3 hs
 rw [hm]
 go_wp2
 have hS : Same w (((w1.setCell ⟨w.heap.size + 1, 0, none⟩ (.slice none 0 0)).setCell ⟨w.heap.size + 1 + 1, 0, none⟩ (.int .i64 0)).setCell ⟨w.heap.size + 1 + 1 + 1, 0, none⟩ (.int .i64 2)) :=
  ((HE.out.same.setCell (p := ⟨w.heap.size + 1, 0, none⟩) (.inr (by simp only; omega)) _).setCell (p := ⟨w.heap.size + 1 + 1, 0, none⟩) (.inr (by simp only; omega)) _).setCell (p := ⟨w.heap.size + 1 + 1 + 1, 0, none⟩) (.inr (by simp only; omega)) _
 have HS := Px.hid hS
 clear hS
 simp [bodyPostD, Leaves, results, Tryd.results22, go_sem, b0, b1, b2]
 exact HS.out
end Go.Proofs.YtddiabaagpmkgaaDoor

/-! The walk over the program's cbor.Decode where the limits may be. -/
namespace Go.Proofs.YtddiabaagpmkgaaDoor
open Go.RowKit Go.Px

theorem new_dr (w : World) (s : Bytes) (lim : Lim) : DrRep (w.alloc (.cells (drCells s lim 0 (.slice none 0 0) (.slice none 0 0)) 83 (0, 0))) w.heap.size s lim ⟨0, [], []⟩ (.slice none 0 0) (.slice none 0 0) :=
 ⟨heap_alloc_new w _, owns_nil _ _ _ _, owns_nil _ _ _ _, nofun, nofun, nofun⟩
theorem new_foot {w : World} {k : Nat} (h : dfoot w.heap.size (.slice none 0 0) (.slice none 0 0) k) : k = w.heap.size := by
 rcases h with e | e | e
 ·exact e
 ·cases e
 ·cases e
theorem new_inv {s : Bytes} {lim : Lim} (hm : lim.may = true) : RInv s lim ⟨0, [], []⟩ := by
 obtain ⟨_, _, _, _, _, _, _, _⟩ := may_parts hm
 exact ⟨nofun, nofun, by show ((0 : Nat) : Int) ≤ lim.d; omega, by show ((0 : Nat) : Int) ≤ lim.i; omega, Nat.zero_le _, by show ((0 : Nat) : Int) ≤ lim.b; omega⟩
theorem DecAt.fr {w w1 w2 : World} {lim : Lim} {v0 v1 v2 : Value} {F : Nat → Prop} (h : DecAt w w1 lim v0 v1 v2) (hs : Fr F w1 w2) (hF : ∀ k, F k → w1.heap.size ≤ k) : DecAt w w2 lim v0 v1 v2 :=
 have hn : ∀ k, k < w1.heap.size → ¬ F k := fun k hk e => by have := hF k e; omega
 ⟨(hs.block _ (ltOf h.lim) (hn _ (ltOf h.lim))).trans h.lim, (hs.block _ (ltOf h.v0) (hn _ (ltOf h.v0))).trans h.v0, (hs.block _ (ltOf h.v1) (hn _ (ltOf h.v1))).trans h.v1, (hs.block _ (ltOf h.v2) (hn _ (ltOf h.v2))).trans h.v2, Fr.trans h.same hs (fun k hk e => by have := hF k e; have := h.same.size; omega)⟩
set_option maxRecDepth 100000 in
set_option maxHeartbeats 1000000 in
theorem decode_err (s : Bytes) (lim : Lim) (hs : s.length ≤ 140737488355327) (hm : lim.may = true) (w : World) (hT : ∀ w2, Same w w2 → Tabs w2) (m : Nat) (e : D7.Flt) (hrun : D7.run s lim m = some (.error e)) :
  Calls Tryd.prog 22 #[S s, limV lim] w fun r w' => r = .returned (.tuple #[.slice none 0 0, .int .i64 e.1, .int .i64 e.2]) ∧ Same w w' := by
 have hmf : ∀ (fn : Fn) (first cap : Array Value) (w : World), (Instr.makeFunc fn first cap).run Tryd.prog w = .ok (.func fn first cap) w := fun _ _ _ _ => rfl
 have HI := Px.hid (And.intro hs (And.intro hm (And.intro hT hrun)))
 clear hs hT hrun
 unfold limV
 go_enter_defers Tryd.func22, Tryd.ntmps22
 go_upto_region 1 with fail
 rw [show ((((w.alloc (.cells #[.int .i64 lim.d, .int .i64 lim.i, .int .i64 lim.b, .int .i64 lim.r] 23 (0, 0))).alloc (.cells #[.slice none 0 0] 50 (0, 0))).alloc (.cells #[.int .i64 0] 3 (0, 0))).alloc (.cells #[.int .i64 0] 28 (0, 0))) = World.dec w lim from rfl]
 have HD := Px.hid (dec_at w lim)
 have a0 := cellOf HD.out.lim 0 rfl
 have a1 := cellOf HD.out.lim 1 rfl
 have a2 := cellOf HD.out.lim 2 rfl
 have a3 := cellOf HD.out.lim 3 rfl
 go_wp2_with fail
 refine (derMay_any lim _).mono ?_
 rintro r w1 ⟨rfl, hsm⟩
 have HE := Px.hid (HD.out.keep hsm)
 clear a0 a1 a2 a3 hsm
 have a0 := cellOf HE.out.lim 0 rfl
 have a1 := cellOf HE.out.lim 1 rfl
 have a2 := cellOf HE.out.lim 2 rfl
 have a3 := cellOf HE.out.lim 3 rfl
 rw [hm]
 go_upto_region 5 with fail
 rw [show w1.alloc (.cells #[S s, .int .i64 lim.d, .int .i64 lim.i, .int .i64 lim.b, .int .i64 lim.r, .int .i64 0, .slice none 0 0, .slice none 0 0] 83 (0, 0)) = w1.alloc (.cells (drCells s lim 0 (.slice none 0 0) (.slice none 0 0)) 83 (0, 0)) from rfl]
 obtain ⟨WX, hWX⟩ : ∃ WX, WX = w1.alloc (.cells (drCells s lim 0 (.slice none 0 0) (.slice none 0 0)) 83 (0, 0)) := ⟨_, rfl⟩
 rw [← hWX]
 have HX := Px.hid (show DrRep WX w1.heap.size s lim ⟨0, [], []⟩ (.slice none 0 0) (.slice none 0 0) ∧ Same w1 WX from by rw [hWX]; exact ⟨new_dr w1 s lim, (Same.refl w1).alloc _⟩)
 clear hWX a0 a1 a2 a3
 have hTX : ∀ w2, Fr (dfoot w1.heap.size (.slice none 0 0) (.slice none 0 0)) WX w2 → Tabs w2 := fun w2 h2 =>
  HI.out.2.2.1 w2 (HE.out.fr (Fr.trans (HX.out.2.mono (fun _ e => e.elim)) h2 (fun _ _ e => e)) (fun _ hk => Nat.le_of_eq (new_foot hk).symm)).same
 have HT := Px.hid hTX
 clear hTX
 go_wp2_with fail
 refine (read_any s lim HI.out.1 HI.out.2.1 w1.heap.size _ _ _ WX HX.out.1 rfl (new_inv HI.out.2.1) HT.out m _ HI.out.2.2.2).mono ?_
 intro r w2 hpost
 unfold BegPost at hpost
 obtain ⟨rfl, hf⟩ := hpost
 have HF := Px.hid (HE.out.fr (Fr.trans (HX.out.2.mono (fun _ e => e.elim)) hf (fun _ _ e => e)) (fun _ hk => Nat.le_of_eq (new_foot hk).symm))
 clear hf
 unfold panics
 go_wp2
 refine leaves_cons (f := 36) (args := #[.pointer (some ⟨w.heap.size + 1, 0, none⟩), .pointer (some ⟨w.heap.size + 1 + 1, 0, none⟩), .pointer (some ⟨w.heap.size + 1 + 1 + 1, 0, none⟩)]) (by simp) (by simp [go_sem]) ?_
 refine (catch_flt (w.heap.size + 1) (w.heap.size + 1 + 1) (w.heap.size + 1 + 1 + 1) e _ _ _ [] w2 (cellOf HF.out.v0 0 rfl) (cellOf HF.out.v1 0 rfl) (cellOf HF.out.v2 0 rfl) (freeOf HF.out.v0 0) (freeOf HF.out.v1 0) (freeOf HF.out.v2 0) (ltOf HF.out.v0) (ltOf HF.out.v1) (ltOf HF.out.v2) (by omega) (by omega) (by omega)).mono ?_
 rintro r u' w3 ⟨rfl, rfl, rfl⟩
 have hS := ((((HF.out.same.setCell (p := ⟨w.heap.size + 1, 0, none⟩) (.inr (by simp only; omega)) (.slice none 0 0)).setCell (p := ⟨w.heap.size + 1 + 1, 0, none⟩) (.inr (by simp only; omega)) (.int .i64 e.1)).setCell (p := ⟨w.heap.size + 1 + 1 + 1, 0, none⟩) (.inr (by simp only; omega)) (.int .i64 e.2)).alloc (.cells #[.int .i64 e.1, .int .i64 e.2] 78 (0, 0))).drew
 have HS := Px.hid hS
 have c0 := cellOf HF.out.v0 0 rfl
 have c1 := cellOf HF.out.v1 0 rfl
 have c2 := cellOf HF.out.v2 0 rfl
 have l0 := ltOf HF.out.v0
 have l1 := ltOf HF.out.v1
 have l2 := ltOf HF.out.v2
 clear hS
 simp [Leaves, settle, results, Tryd.results22, go_sem, c0, c1, c2, l0, l1, l2]
 exact HS.out
end Go.Proofs.YtddiabaagpmkgaaDoor

/-! The walk over the program's cbor.Decode where the text is read whole. -/
namespace Go.Proofs.YtddiabaagpmkgaaDoor
open Go.RowKit Go.Px

set_option maxRecDepth 100000 in
set_option maxHeartbeats 1000000 in
theorem decode_ok (s : Bytes) (lim : Lim) (hs : s.length ≤ 140737488355327) (hm : lim.may = true) (w : World) (hT : ∀ w2, Same w w2 → Tabs w2) (m : Nat) (y : D7.Dx) (hrun : D7.run s lim m = some (.ok y)) (hle : ¬ y.at_ < s.length) :
  Calls Tryd.prog 22 #[S s, limV lim] w fun r w' => ∃ vo, r = .returned (.tuple #[vo, .int .i64 0, .int .i64 0]) ∧ Owns w' 62 3 cAtom vo y.out ∧ Same w w' ∧ ∀ g, vo.ownBlock = some g → w.heap.size ≤ g := by
 have hmf : ∀ (fn : Fn) (first cap : Array Value) (w : World), (Instr.makeFunc fn first cap).run Tryd.prog w = .ok (.func fn first cap) w := fun _ _ _ _ => rfl
 have HI := Px.hid (And.intro hs (And.intro hm (And.intro hT hrun)))
 clear hs hT hrun
 have hsz : (ByteArray.mk s.toArray).size = s.length := size_S s
 have hle' : ¬ (y.at_ : Int) < (s.length : Int) := by omega
 clear hle
 unfold limV
 go_enter_defers Tryd.func22, Tryd.ntmps22
 go_upto_region 1 with fail
 rw [show ((((w.alloc (.cells #[.int .i64 lim.d, .int .i64 lim.i, .int .i64 lim.b, .int .i64 lim.r] 23 (0, 0))).alloc (.cells #[.slice none 0 0] 50 (0, 0))).alloc (.cells #[.int .i64 0] 3 (0, 0))).alloc (.cells #[.int .i64 0] 28 (0, 0))) = World.dec w lim from rfl]
 have HD := Px.hid (dec_at w lim)
 have a0 := cellOf HD.out.lim 0 rfl
 have a1 := cellOf HD.out.lim 1 rfl
 have a2 := cellOf HD.out.lim 2 rfl
 have a3 := cellOf HD.out.lim 3 rfl
 go_wp2_with fail
 refine (derMay_any lim _).mono ?_
 rintro r w1 ⟨rfl, hsm⟩
 have HE := Px.hid (HD.out.keep hsm)
 clear a0 a1 a2 a3 hsm
 have a0 := cellOf HE.out.lim 0 rfl
 have a1 := cellOf HE.out.lim 1 rfl
 have a2 := cellOf HE.out.lim 2 rfl
 have a3 := cellOf HE.out.lim 3 rfl
 rw [hm]
 go_upto_region 5 with fail
 rw [show w1.alloc (.cells #[S s, .int .i64 lim.d, .int .i64 lim.i, .int .i64 lim.b, .int .i64 lim.r, .int .i64 0, .slice none 0 0, .slice none 0 0] 83 (0, 0)) = w1.alloc (.cells (drCells s lim 0 (.slice none 0 0) (.slice none 0 0)) 83 (0, 0)) from rfl]
 obtain ⟨WX, hWX⟩ : ∃ WX, WX = w1.alloc (.cells (drCells s lim 0 (.slice none 0 0) (.slice none 0 0)) 83 (0, 0)) := ⟨_, rfl⟩
 rw [← hWX]
 have HX := Px.hid (show DrRep WX w1.heap.size s lim ⟨0, [], []⟩ (.slice none 0 0) (.slice none 0 0) ∧ Same w1 WX from by rw [hWX]; exact ⟨new_dr w1 s lim, (Same.refl w1).alloc _⟩)
 clear hWX a0 a1 a2 a3
 have hTX : ∀ w2, Fr (dfoot w1.heap.size (.slice none 0 0) (.slice none 0 0)) WX w2 → Tabs w2 := fun w2 h2 =>
  HI.out.2.2.1 w2 (HE.out.fr (Fr.trans (HX.out.2.mono (fun _ e => e.elim)) h2 (fun _ _ e => e)) (fun _ hk => Nat.le_of_eq (new_foot hk).symm)).same
 have HT := Px.hid hTX
 clear hTX
 go_wp2_with fail
 refine (read_any s lim HI.out.1 HI.out.2.1 w1.heap.size _ _ _ WX HX.out.1 rfl (new_inv HI.out.2.1) HT.out m _ HI.out.2.2.2).mono ?_
 intro r w2 hpost
 unfold BegPost at hpost
 obtain ⟨rfl, F', ⟨zs, zo, hz, rfl⟩, hf, hfr⟩ := hpost
 obtain ⟨oa, oc, rfl, _⟩ := hz.out.len
 have hD2 := HE.out.fr (Fr.trans (HX.out.2.mono (fun _ e => e.elim)) hf (fun _ _ e => e)) (fun _ hk => Nat.le_of_eq (new_foot hk).symm)
 have hzo : ∀ g, (Value.slice oa y.out.length oc).ownBlock = some g → w.heap.size + 1 + 1 + 1 < g := fun g hg => by
  have h3 := ltOf HE.out.v2
  rcases hfr g (.inr (.inr hg)) with e | e
  ·have := new_foot e; omega
  ·have := HX.out.2.size; omega
 have c5 := hz.cells.2.2.2.2.1
 have c7 := hz.cells.2.2.2.2.2.2
 have c0 := cellOf hD2.v0 0 rfl
 have c1 := cellOf hD2.v1 0 rfl
 have c2 := cellOf hD2.v2 0 rfl
 have f0 := freeOf hD2.v0 0
 have f1 := freeOf hD2.v1 0
 have f2 := freeOf hD2.v2 0
 have l0 := ltOf hD2.v0
 have l1 := ltOf hD2.v1
 have l2 := ltOf hD2.v2
 have HZ := Px.hid (And.intro hz (And.intro hD2 hzo))
 clear hz hf hfr hD2 hzo
 go_wp2
 refine leaves_cons (f := 36) (args := #[.pointer (some ⟨w.heap.size + 1, 0, none⟩), .pointer (some ⟨w.heap.size + 1 + 1, 0, none⟩), .pointer (some ⟨w.heap.size + 1 + 1 + 1, 0, none⟩)]) (by simp) (by simp [go_sem]) ?_
 refine (catch_idle ⟨w.heap.size + 1, 0, none⟩ ⟨w.heap.size + 1 + 1, 0, none⟩ ⟨w.heap.size + 1 + 1 + 1, 0, none⟩ _).mono ?_
 rintro r u' w3 ⟨rfl, rfl, rfl⟩
 have hS := ((HZ.out.2.1.same.setCell (p := ⟨w.heap.size + 1, 0, none⟩) (.inr (by simp only; omega)) (.slice oa y.out.length oc)).setCell (p := ⟨w.heap.size + 1 + 1, 0, none⟩) (.inr (by simp only; omega)) (.int .i64 0)).setCell (p := ⟨w.heap.size + 1 + 1 + 1, 0, none⟩) (.inr (by simp only; omega)) (.int .i64 0)
 have hO := ((HZ.out.1.out.setCell (p := ⟨w.heap.size + 1, 0, none⟩) (fun e => by have := HZ.out.2.2 _ e; simp only at this; omega) (.slice oa y.out.length oc)).setCell (p := ⟨w.heap.size + 1 + 1, 0, none⟩) (fun e => by have := HZ.out.2.2 _ e; simp only at this; omega) (.int .i64 0)).setCell (p := ⟨w.heap.size + 1 + 1 + 1, 0, none⟩) (fun e => by have := HZ.out.2.2 _ e; simp only at this; omega) (.int .i64 0)
 have HS := Px.hid (And.intro hO hS)
 clear hS hO
 simp only [settle, Leaves]
 exact ⟨.tuple #[.slice oa y.out.length oc, .int .i64 0, .int .i64 0], by simp [results, Tryd.results22, go_sem, c0, c1, c2], _, rfl, HS.out.1, HS.out.2, fun g hg => by have := HZ.out.2.2 g hg; omega⟩
end Go.Proofs.YtddiabaagpmkgaaDoor

/-! The walk over the program's cbor.Decode where something stands behind. -/
namespace Go.Proofs.YtddiabaagpmkgaaDoor
open Go.RowKit Go.Px

set_option maxRecDepth 100000 in
set_option maxHeartbeats 1000000 in
theorem decode_want (s : Bytes) (lim : Lim) (hs : s.length ≤ 140737488355327) (hm : lim.may = true) (w : World) (hT : ∀ w2, Same w w2 → Tabs w2) (m : Nat) (y : D7.Dx) (hrun : D7.run s lim m = some (.ok y)) (hle : y.at_ < s.length) (e : D7.Flt) (hw : D7.want s lim y.at_ = .error e) :
  Calls Tryd.prog 22 #[S s, limV lim] w fun r w' => r = .returned (.tuple #[.slice none 0 0, .int .i64 (e : D7.Flt).1, .int .i64 (e : D7.Flt).2]) ∧ Same w w' := by
 have hmf : ∀ (fn : Fn) (first cap : Array Value) (w : World), (Instr.makeFunc fn first cap).run Tryd.prog w = .ok (.func fn first cap) w := fun _ _ _ _ => rfl
 have HI := Px.hid (And.intro hs (And.intro hm (And.intro hT hrun)))
 clear hs hT hrun
 have hsz : (ByteArray.mk s.toArray).size = s.length := size_S s
 have hle' : (y.at_ : Int) < (s.length : Int) := by omega
 have HW := Px.hid hw
 clear hle hw
 unfold limV
 go_enter_defers Tryd.func22, Tryd.ntmps22
 go_upto_region 1 with fail
 rw [show ((((w.alloc (.cells #[.int .i64 lim.d, .int .i64 lim.i, .int .i64 lim.b, .int .i64 lim.r] 23 (0, 0))).alloc (.cells #[.slice none 0 0] 50 (0, 0))).alloc (.cells #[.int .i64 0] 3 (0, 0))).alloc (.cells #[.int .i64 0] 28 (0, 0))) = World.dec w lim from rfl]
 have HD := Px.hid (dec_at w lim)
 have a0 := cellOf HD.out.lim 0 rfl
 have a1 := cellOf HD.out.lim 1 rfl
 have a2 := cellOf HD.out.lim 2 rfl
 have a3 := cellOf HD.out.lim 3 rfl
 go_wp2_with fail
 refine (derMay_any lim _).mono ?_
 rintro r w1 ⟨rfl, hsm⟩
 have HE := Px.hid (HD.out.keep hsm)
 clear a0 a1 a2 a3 hsm
 have a0 := cellOf HE.out.lim 0 rfl
 have a1 := cellOf HE.out.lim 1 rfl
 have a2 := cellOf HE.out.lim 2 rfl
 have a3 := cellOf HE.out.lim 3 rfl
 rw [hm]
 go_upto_region 5 with fail
 rw [show w1.alloc (.cells #[S s, .int .i64 lim.d, .int .i64 lim.i, .int .i64 lim.b, .int .i64 lim.r, .int .i64 0, .slice none 0 0, .slice none 0 0] 83 (0, 0)) = w1.alloc (.cells (drCells s lim 0 (.slice none 0 0) (.slice none 0 0)) 83 (0, 0)) from rfl]
 obtain ⟨WX, hWX⟩ : ∃ WX, WX = w1.alloc (.cells (drCells s lim 0 (.slice none 0 0) (.slice none 0 0)) 83 (0, 0)) := ⟨_, rfl⟩
 rw [← hWX]
 have HX := Px.hid (show DrRep WX w1.heap.size s lim ⟨0, [], []⟩ (.slice none 0 0) (.slice none 0 0) ∧ Same w1 WX from by rw [hWX]; exact ⟨new_dr w1 s lim, (Same.refl w1).alloc _⟩)
 clear hWX a0 a1 a2 a3
 have hTX : ∀ w2, Fr (dfoot w1.heap.size (.slice none 0 0) (.slice none 0 0)) WX w2 → Tabs w2 := fun w2 h2 =>
  HI.out.2.2.1 w2 (HE.out.fr (Fr.trans (HX.out.2.mono (fun _ e => e.elim)) h2 (fun _ _ e => e)) (fun _ hk => Nat.le_of_eq (new_foot hk).symm)).same
 have HT := Px.hid hTX
 clear hTX
 go_wp2_with fail
 refine (read_any s lim HI.out.1 HI.out.2.1 w1.heap.size _ _ _ WX HX.out.1 rfl (new_inv HI.out.2.1) HT.out m _ HI.out.2.2.2).mono ?_
 intro r w2 hpost
 unfold BegPost at hpost
 obtain ⟨rfl, F', ⟨zs, zo, hz, rfl⟩, hf, hfr⟩ := hpost
 have HF := Px.hid (HE.out.fr (Fr.trans (HX.out.2.mono (fun _ e => e.elim)) hf (fun _ _ e => e)) (fun _ hk => Nat.le_of_eq (new_foot hk).symm))
 have c5 := hz.cells.2.2.2.2.1
 have HZ := Px.hid (And.intro hz True.intro)
 clear hz hf hfr
 go_wp2_with fail
 refine (dwant_no _ y.at_ s lim _ _ _ _ HZ.out.1 e HW.out).mono ?_
 rintro r w3 ⟨rfl, rfl⟩
 unfold panics
 go_wp2
 refine leaves_cons (f := 36) (args := #[.pointer (some ⟨w.heap.size + 1, 0, none⟩), .pointer (some ⟨w.heap.size + 1 + 1, 0, none⟩), .pointer (some ⟨w.heap.size + 1 + 1 + 1, 0, none⟩)]) (by simp) (by simp [go_sem]) ?_
 refine (catch_flt (w.heap.size + 1) (w.heap.size + 1 + 1) (w.heap.size + 1 + 1 + 1) e _ _ _ [] _ (cellOf HF.out.v0 0 rfl) (cellOf HF.out.v1 0 rfl) (cellOf HF.out.v2 0 rfl) (freeOf HF.out.v0 0) (freeOf HF.out.v1 0) (freeOf HF.out.v2 0) (ltOf HF.out.v0) (ltOf HF.out.v1) (ltOf HF.out.v2) (by omega) (by omega) (by omega)).mono ?_
 rintro r u' w3 ⟨rfl, rfl, rfl⟩
 have hS := ((((HF.out.same.setCell (p := ⟨w.heap.size + 1, 0, none⟩) (.inr (by simp only; omega)) (.slice none 0 0)).setCell (p := ⟨w.heap.size + 1 + 1, 0, none⟩) (.inr (by simp only; omega)) (.int .i64 (e : D7.Flt).1)).setCell (p := ⟨w.heap.size + 1 + 1 + 1, 0, none⟩) (.inr (by simp only; omega)) (.int .i64 (e : D7.Flt).2)).alloc (.cells #[.int .i64 (e : D7.Flt).1, .int .i64 (e : D7.Flt).2] 78 (0, 0))).drew
 have HS := Px.hid hS
 have c0 := cellOf HF.out.v0 0 rfl
 have c1 := cellOf HF.out.v1 0 rfl
 have c2 := cellOf HF.out.v2 0 rfl
 have l0 := ltOf HF.out.v0
 have l1 := ltOf HF.out.v1
 have l2 := ltOf HF.out.v2
 clear hS
 simp [Leaves, settle, results, Tryd.results22, go_sem, c0, c1, c2, l0, l1, l2]
 exact HS.out
set_option maxRecDepth 100000 in
set_option maxHeartbeats 1000000 in
theorem decode_rest (s : Bytes) (lim : Lim) (hs : s.length ≤ 140737488355327) (hm : lim.may = true) (w : World) (hT : ∀ w2, Same w w2 → Tabs w2) (m : Nat) (y : D7.Dx) (hrun : D7.run s lim m = some (.ok y)) (hle : y.at_ < s.length) (c : Nat) (hw : D7.want s lim y.at_ = .ok c) :
  Calls Tryd.prog 22 #[S s, limV lim] w fun r w' => r = .returned (.tuple #[.slice none 0 0, .int .i64 (((y.at_ : Int), (9 : Int)) : D7.Flt).1, .int .i64 (((y.at_ : Int), (9 : Int)) : D7.Flt).2]) ∧ Same w w' := by
 have hmf : ∀ (fn : Fn) (first cap : Array Value) (w : World), (Instr.makeFunc fn first cap).run Tryd.prog w = .ok (.func fn first cap) w := fun _ _ _ _ => rfl
 have HI := Px.hid (And.intro hs (And.intro hm (And.intro hT hrun)))
 clear hs hT hrun
 have hsz : (ByteArray.mk s.toArray).size = s.length := size_S s
 have hle' : (y.at_ : Int) < (s.length : Int) := by omega
 have HW := Px.hid hw
 clear hle hw
 unfold limV
 go_enter_defers Tryd.func22, Tryd.ntmps22
 go_upto_region 1 with fail
 rw [show ((((w.alloc (.cells #[.int .i64 lim.d, .int .i64 lim.i, .int .i64 lim.b, .int .i64 lim.r] 23 (0, 0))).alloc (.cells #[.slice none 0 0] 50 (0, 0))).alloc (.cells #[.int .i64 0] 3 (0, 0))).alloc (.cells #[.int .i64 0] 28 (0, 0))) = World.dec w lim from rfl]
 have HD := Px.hid (dec_at w lim)
 have a0 := cellOf HD.out.lim 0 rfl
 have a1 := cellOf HD.out.lim 1 rfl
 have a2 := cellOf HD.out.lim 2 rfl
 have a3 := cellOf HD.out.lim 3 rfl
 go_wp2_with fail
 refine (derMay_any lim _).mono ?_
 rintro r w1 ⟨rfl, hsm⟩
 have HE := Px.hid (HD.out.keep hsm)
 clear a0 a1 a2 a3 hsm
 have a0 := cellOf HE.out.lim 0 rfl
 have a1 := cellOf HE.out.lim 1 rfl
 have a2 := cellOf HE.out.lim 2 rfl
 have a3 := cellOf HE.out.lim 3 rfl
 rw [hm]
 go_upto_region 5 with fail
 rw [show w1.alloc (.cells #[S s, .int .i64 lim.d, .int .i64 lim.i, .int .i64 lim.b, .int .i64 lim.r, .int .i64 0, .slice none 0 0, .slice none 0 0] 83 (0, 0)) = w1.alloc (.cells (drCells s lim 0 (.slice none 0 0) (.slice none 0 0)) 83 (0, 0)) from rfl]
 obtain ⟨WX, hWX⟩ : ∃ WX, WX = w1.alloc (.cells (drCells s lim 0 (.slice none 0 0) (.slice none 0 0)) 83 (0, 0)) := ⟨_, rfl⟩
 rw [← hWX]
 have HX := Px.hid (show DrRep WX w1.heap.size s lim ⟨0, [], []⟩ (.slice none 0 0) (.slice none 0 0) ∧ Same w1 WX from by rw [hWX]; exact ⟨new_dr w1 s lim, (Same.refl w1).alloc _⟩)
 clear hWX a0 a1 a2 a3
 have hTX : ∀ w2, Fr (dfoot w1.heap.size (.slice none 0 0) (.slice none 0 0)) WX w2 → Tabs w2 := fun w2 h2 =>
  HI.out.2.2.1 w2 (HE.out.fr (Fr.trans (HX.out.2.mono (fun _ e => e.elim)) h2 (fun _ _ e => e)) (fun _ hk => Nat.le_of_eq (new_foot hk).symm)).same
 have HT := Px.hid hTX
 clear hTX
 go_wp2_with fail
 refine (read_any s lim HI.out.1 HI.out.2.1 w1.heap.size _ _ _ WX HX.out.1 rfl (new_inv HI.out.2.1) HT.out m _ HI.out.2.2.2).mono ?_
 intro r w2 hpost
 unfold BegPost at hpost
 obtain ⟨rfl, F', ⟨zs, zo, hz, rfl⟩, hf, hfr⟩ := hpost
 have HF := Px.hid (HE.out.fr (Fr.trans (HX.out.2.mono (fun _ e => e.elim)) hf (fun _ _ e => e)) (fun _ hk => Nat.le_of_eq (new_foot hk).symm))
 have c5 := hz.cells.2.2.2.2.1
 have HZ := Px.hid (And.intro hz True.intro)
 clear hz hf hfr
 go_wp2_with fail
 refine (dwant_yes _ y.at_ s lim _ _ _ _ HZ.out.1 c HW.out).mono ?_
 rintro r w3 ⟨rfl, rfl⟩
 go_wp2
 refine leaves_cons (f := 36) (args := #[.pointer (some ⟨w.heap.size + 1, 0, none⟩), .pointer (some ⟨w.heap.size + 1 + 1, 0, none⟩), .pointer (some ⟨w.heap.size + 1 + 1 + 1, 0, none⟩)]) (by simp) (by simp [go_sem]) ?_
 refine (catch_flt (w.heap.size + 1) (w.heap.size + 1 + 1) (w.heap.size + 1 + 1 + 1) ((y.at_ : Int), (9 : Int)) _ _ _ [] _ (cellOf HF.out.v0 0 rfl) (cellOf HF.out.v1 0 rfl) (cellOf HF.out.v2 0 rfl) (freeOf HF.out.v0 0) (freeOf HF.out.v1 0) (freeOf HF.out.v2 0) (ltOf HF.out.v0) (ltOf HF.out.v1) (ltOf HF.out.v2) (by omega) (by omega) (by omega)).mono ?_
 rintro r u' w3 ⟨rfl, rfl, rfl⟩
 have hS := ((((HF.out.same.setCell (p := ⟨w.heap.size + 1, 0, none⟩) (.inr (by simp only; omega)) (.slice none 0 0)).setCell (p := ⟨w.heap.size + 1 + 1, 0, none⟩) (.inr (by simp only; omega)) (.int .i64 (((y.at_ : Int), (9 : Int)) : D7.Flt).1)).setCell (p := ⟨w.heap.size + 1 + 1 + 1, 0, none⟩) (.inr (by simp only; omega)) (.int .i64 (((y.at_ : Int), (9 : Int)) : D7.Flt).2)).alloc (.cells #[.int .i64 (((y.at_ : Int), (9 : Int)) : D7.Flt).1, .int .i64 (((y.at_ : Int), (9 : Int)) : D7.Flt).2] 78 (0, 0))).drew
 have HS := Px.hid hS
 have c0 := cellOf HF.out.v0 0 rfl
 have c1 := cellOf HF.out.v1 0 rfl
 have c2 := cellOf HF.out.v2 0 rfl
 have l0 := ltOf HF.out.v0
 have l1 := ltOf HF.out.v1
 have l2 := ltOf HF.out.v2
 clear hS
 simp [Leaves, settle, results, Tryd.results22, go_sem, c0, c1, c2, l0, l1, l2]
 exact HS.out
end Go.Proofs.YtddiabaagpmkgaaDoor

/-! The program's cbor.Decode and the reference's Decode of layer 17: both hand back the same, at any bytes and any limits. -/
namespace Go.Proofs.YtddiabaagpmkgaaDoor
open Go.RowKit Go.Px Go.Px.R7

theorem want_err {s : Bytes} {lim : Lim} {x y : St} {p : Nat} (h : R7.want s lim x p = (false, y)) : y.err ≠ 0 := by
 unfold R7.want at h
 split at h
 ·simp at h
 ·split at h <;> (simp only [Prod.mk.injEq, true_and] at h; subst h; simp [fault])
/-- How the reading goes, in the program's words and in the reference's. -/
def Went (s : Bytes) (lim : Lim) (d : List Atom × Int × Int) : Prop :=
 (∃ m e, D7.run s lim m = some (.error e) ∧ d = ([], e.1, e.2)) ∨
 (∃ m y, D7.run s lim m = some (.ok y) ∧ ¬ y.at_ < s.length ∧ d = (y.out, 0, 0)) ∨
 (∃ m y e, D7.run s lim m = some (.ok y) ∧ y.at_ < s.length ∧ D7.want s lim y.at_ = .error e ∧ d = ([], e.1, e.2)) ∨
 (∃ m y c, D7.run s lim m = some (.ok y) ∧ y.at_ < s.length ∧ D7.want s lim y.at_ = .ok c ∧ d = ([], (y.at_ : Int), 9))
theorem went_any (s : Bytes) (lim : Lim) (hm : lim.may = true) : Went s lim (list (R7.read s lim), (R7.read s lim).place, (R7.read s lim).err) := by
 have hrun := D7.run_ref s lim hm
 have hgood := start_good s lim hm
 have hsim := item_sim (s := s) hm lim.d.toNat R7.start 0 _ hgood.sim hgood.out
 have hmay := Cf.may_of hm
 have hok := D7.item_eq s lim hm lim.d.toNat R7.start 0 [] ⟨Nat.zero_le _, by omega, rfl, by show ((0 : Nat) : Int) ≤ lim.i; omega⟩ (by show ((0 + lim.d.toNat : Nat) : Int) = lim.d; omega)
 unfold R7.read
 cases hr : R7.item s lim lim.d.toNat R7.start 0 with
 | mk o y =>
  rw [hr] at hrun hsim hok
  cases o with
  | none =>
   obtain ⟨m, hm2⟩ := hrun
   have hne : ¬ y.err = 0 := hsim.xerr
   refine Or.inl ⟨m, _, hm2, ?_⟩
   simp only
   rw [list_bad hne]
   rfl
  | some q =>
   obtain ⟨m, hm2⟩ := hrun
   obtain ⟨i1, _⟩ := hsim
   obtain ⟨o1, _, _⟩ := hok
   have he := i1.err
   have hp : y.place = 0 := i1.place
   simp only
   by_cases hlt : q < s.length
   ·rw [if_pos hlt]
    cases hw : R7.want s lim y q with
    | mk b z =>
     cases b
     ·refine Or.inr (.inr (.inl ⟨m, _, _, hm2, hlt, D7.want_bad hw o1.ps o1.pb, ?_⟩))
      simp only
      rw [list_bad (want_err hw)]
      rfl
     ·refine Or.inr (.inr (.inr ⟨m, _, _, hm2, hlt, (D7.want_ok hw o1.taken).1, ?_⟩))
      simp only
      rw [list_bad (show ¬ (fault z (q : Int) 9).err = 0 by simp [fault])]
      rfl
   ·rw [if_neg hlt]
    refine Or.inr (.inl ⟨m, _, hm2, hlt, ?_⟩)
    rw [list_ok he, hp, he]

/-- What a decoding hands back: a slice of its own, a place, an error. -/
def Gives (w : World) (d : List Atom × Int × Int) (r : Ending) (w' : World) : Prop :=
 ∃ vo, r = .returned (.tuple #[vo, .int .i64 d.2.1, .int .i64 d.2.2]) ∧ Owns w' 62 3 cAtom vo d.1 ∧ Same w w' ∧ ∀ g, vo.ownBlock = some g → w.heap.size ≤ g
theorem gives_nil {w w' : World} {r : Ending} {p e : Int} (hr : r = .returned (.tuple #[.slice none 0 0, .int .i64 p, .int .i64 e])) (hs : Same w w') : Gives w ([], p, e) r w' :=
 ⟨_, hr, owns_nil _ _ _ _, hs, fun g hg => by simp [Value.ownBlock] at hg⟩
theorem decode_any (s : Bytes) (lim : Lim) (hs : s.length ≤ 140737488355327) (w : World) (hT : Tabs w) :
  Calls Tryd.prog 22 #[S s, limV lim] w (Gives w (R7.decode s lim)) := by
 have hT2 : ∀ w2, Same w w2 → Tabs w2 := fun w2 h => hT.same h
 cases hm : lim.may
 ·rw [R7.decode_no hm]
  exact (Go.Proofs.YtddiabaagpmkgaaDoor.decode_no s lim hm w).mono fun r w' ⟨h1, h2⟩ => gives_nil h1 h2
 ·rw [R7.decode_yes hm]
  rcases went_any s lim hm with ⟨m, e, h1, h2⟩ | ⟨m, y, h1, h2, h3⟩ | ⟨m, y, e, h1, h2, h3, h4⟩ | ⟨m, y, c, h1, h2, h3, h4⟩
  ·rw [h2]
   exact (decode_err s lim hs hm w hT2 m e h1).mono fun r w' ⟨a, b⟩ => gives_nil a b
  ·rw [h3]
   exact (decode_ok s lim hs hm w hT2 m y h1 h2).mono fun r w' h => h
  ·rw [h4]
   exact (decode_want s lim hs hm w hT2 m y h1 h2 e h3).mono fun r w' ⟨a, b⟩ => gives_nil a b
  ·rw [h4]
   exact (decode_rest s lim hs hm w hT2 m y h1 h2 c h3).mono fun r w' ⟨a, b⟩ => gives_nil a b

set_option maxRecDepth 100000 in
set_option maxHeartbeats 1000000 in
theorem refdecode_any (s : Bytes) (lim : Lim) (hs : s.length ≤ 140737488355327) (w : World) :
  Calls Tryd.prog 24 #[S s, limV lim] w (Gives w (R7.decode s lim)) := by
 have HS := Px.hid hs
 clear hs
 unfold limV
 have HL := Px.hid (LimIn.boxed w lim)
 go_enter Tryd.func24, Tryd.ntmps24
 obtain ⟨c0, c1, c2, c3⟩ := HL.out.cells
 go_wp2_with fail
 refine (refMay_any lim _).mono ?_
 rintro e w1 ⟨rfl, hsm⟩
 have HL := Px.hid (HL.out.same hsm)
 clear hsm c0 c1 c2 c3
 obtain ⟨c0, c1, c2, c3⟩ := HL.out.cells
 cases hm : lim.may
 ·have HR := Px.hid (R7.decode_no (s := s) hm)
  clear hm
  go_wp2
  go_ret3
  rw [HR.out]
  exact gives_nil rfl HL.out.1
 ·have HR := Px.hid (And.intro (R7.decode_yes (s := s) hm) hm)
  clear hm
  go_wp2_with fail
  refine (read17_any s lim _ HR.out.2 HS.out).mono ?_
  rintro e w2 ⟨v, rfl, hv, hsm, hvf⟩
  have HV := Px.hid (And.intro hv (And.intro (HL.out.1.trans hsm) (fun g hg => Nat.le_trans HL.out.1.size (hvf g hg))))
  clear hv hsm hvf c0 c1 c2 c3
  obtain ⟨x, hx⟩ : ∃ x, x = R7.read s lim := ⟨_, rfl⟩
  rw [← hx] at HR HV ⊢
  clear hx
  unfold rdV
  go_wp2_with fail
  go_quiet (fail)
  go_wp2
  go_ret3
  rw [HR.out.1]
  exact ⟨v, rfl, (HV.out.1.alloc _).drewN nq, (HV.out.2.1.alloc _).drewN nq, HV.out.2.2⟩
end Go.Proofs.YtddiabaagpmkgaaDoor
