/-
  The walk over the program's read (package der).
-/
import Derived.Test.YtceffhkgnifmeaaDoorDmV
import Derived.Deep.LoopGhost
namespace Go.Proofs.YtceffhkgnifmeaaDoor
open Go.RowKit Go.Px

theorem Fresh.self {w : World} {F : Nat → Prop} : Fresh w F F := Fresh.refl _ _
set_option maxRecDepth 100000 in
set_option maxHeartbeats 4000000 in
theorem read_any (s : Bytes) (lim : Lim) (hs : s.length ≤ 140737488355327) (hm : lim.may = true) (b : Nat) (x : D5.Dx) (vs vo : Value) (w : World) (h : DrRep w b s lim x vs vo) (hinv : RInv s lim x) (hT : ∀ w2, Fr (dfoot b vs vo) w w2 → Tabs w2) (m : Nat) (res : Except D5.Flt D5.Dx) (hrun : D5.after s lim (D5.beginD s lim x) m = some res) :
    Calls Tryd.prog 30 #[.pointer (some ⟨b, 0, none⟩)] w fun r w' => BegPost w b s lim (dfoot b vs vo) res r w' := by
  obtain ⟨_, m2, _, m4, m5, m6, _, _⟩ := may_parts hm
  have hbeg := begin_any s lim hs b x vs vo w h (by have := hinv.bound; omega) (hinv.ok hm) hT
  have hnext : ∀ y, D5.beginD s lim x = .ok y → RInv s lim y := fun y => hinv.begin hm
  have hbound : ∀ y : D5.Dx, RInv s lim y → y.at_ ≤ 262144 := fun y hy => by have := hy.bound; omega
  have HH := Px.hid (And.intro hbeg (And.intro hnext (And.intro hrun (And.intro hT (And.intro hs (And.intro hm (And.intro m5 (And.intro m6 (And.intro hbound m2)))))))))
  clear hbeg hnext hrun hT hs hm m5 m6 hbound m2 m4 hinv h
  go_enter Tryd.func30, Tryd.ntmps30
  go_wp2_with fail
  refine HH.out.1.mono ?_
  intro r w1 hpost
  have hrun := HH.out.2.2.1
  unfold BegPost at hpost
  cases hb : D5.beginD s lim x with
  | error e =>
    rw [hb] at hpost hrun
    obtain ⟨rfl, hf⟩ := hpost
    simp only [D5.after, Option.some.injEq] at hrun
    have HE := Px.hid (And.intro hf hrun)
    clear hf hrun hb
    unfold panics
    go_wp2
    rw [← HE.out.2]
    exact ⟨rfl, rfl, HE.out.1⟩
  | ok y =>
    rw [hb] at hpost hrun
    obtain ⟨rfl, F1, hat, hf, hn⟩ := hpost
    simp only [D5.after] at hrun
    have HE := Px.hid (And.intro hat (And.intro hf (And.intro hn (And.intro hrun (HH.out.2.1 y hb)))))
    clear hat hf hn hrun hb
    go_wp2_with fail
    go_loopg [2] m (fun gk _ wr => ∃ z F', D5.loopN s lim gk z = some res ∧ DrAt wr b s lim z F' ∧ RInv s lim z ∧ Fr (dfoot b vs vo) w wr ∧ Fresh w (dfoot b vs vo) F')
    case atStart => exact ⟨_, _, HE.out.2.2.2.1, HE.out.1, HE.out.2.2.2.2, HE.out.2.1, HE.out.2.2.1⟩
    case round =>
      clear HE
      obtain ⟨z, F', hrun, ⟨zs, zo, hz, rfl⟩, hinv, hfr, hfs⟩ := hrel
      obtain ⟨g', rfl⟩ : ∃ g', gk = g' + 1 := by
        cases gk with
        | zero => cases hrun
        | succ g => exact ⟨g, rfl⟩
      unfold D5.loopN at hrun
      obtain ⟨_, _, _, _, c5, c6, _⟩ := hz.cells
      obtain ⟨a, cap, hv⟩ := hz.stackLen
      rcases hzs : z.stack with _ | ⟨f, rest⟩
      · rw [hzs] at hrun
        rw [hv, hzs] at c6
        simp only [Option.some.injEq] at hrun
        have HK := Px.hid (And.intro hz (And.intro hfr (And.intro hfs hrun)))
        clear hz hfr hfs hrun hzs hv hinv c5
        go_wp2
        refine bodyPost_ret (results_none rfl _ _ _) rfl ?_
        rw [← HK.out.2.2.2]
        exact ⟨rfl, _, ⟨_, _, HK.out.1, rfl⟩, HK.out.2.1, HK.out.2.2.1⟩
      · obtain ⟨g, cap', hv', hc1, hc2, k0, k1, k2, k3, k4, kf⟩ := hz.top hzs
        subst hv'
        rw [hzs] at hrun
        simp only at hrun
        have hsl : rest.length ≤ 1000 := by have := hinv.sl; have := HH.out.2.2.2.2.2.2.2.2.2; rw [hzs] at *; simp at *; omega
        unfold maxLen at hc2
        have f6 := hz.free 6
        have hb6 : b < wr.heap.size := hz.lt
        have hgl : g < wr.heap.size := by have := hz.footLt g (.inr (.inl rfl)); exact this
        have HK := Px.hid (And.intro hz (And.intro hfr (And.intro hfs (And.intro hrun (And.intro hinv hzs)))))
        clear hz hfr hfs hrun hzs hv hinv c5 kf
        go_upto_region 2 with fail
        go_region
        obtain ⟨WX, hWX⟩ : ∃ WX, WX = (wr.alloc (.cells #[.int .u8 f.tag.toNat, .int .i64 (f.at_ : Nat), .int .i64 (f.end_ : Nat), .int .i64 (f.no : Nat), .string ⟨f.last.toArray⟩] 91 (0, 0))).drew := ⟨_, rfl⟩
        rw [← hWX]
        have HX := Px.hid (show DrRep WX b s lim z (.slice (some ⟨g, 0, none⟩) (rest.length + 1) cap') zo ∧ Fr (dfoot b vs vo) w WX ∧ WX.heap[wr.heap.size]? = some (.cells #[.int .u8 f.tag.toNat, .int .i64 (f.at_ : Nat), .int .i64 (f.end_ : Nat), .int .i64 (f.no : Nat), .string ⟨f.last.toArray⟩] 91 (0, 0)) ∧ wr.heap.size < WX.heap.size from by
          rw [hWX]
          exact ⟨(HK.out.1.alloc _).drewN 1, (HK.out.2.1.alloc _).drew, heap_alloc_new wr _, by show _ < (wr.alloc _).heap.size; simp⟩)
        have a1 : WX.cell? ⟨wr.heap.size, 1, none⟩ = some (.int .i64 (f.at_ : Nat)) := cellOf HX.out.2.2.1 1 rfl
        have a2 : WX.cell? ⟨wr.heap.size, 2, none⟩ = some (.int .i64 (f.end_ : Nat)) := cellOf HX.out.2.2.1 2 rfl
        have hab : ¬ dfoot b (.slice (some ⟨g, 0, none⟩) (rest.length + 1) cap') zo wr.heap.size := fun e => by have := HK.out.1.footLt _ e; omega
        have HA := Px.hid hab
        have HXW := Px.hid (show Fr (dfoot b (.slice (some ⟨g, 0, none⟩) (rest.length + 1) cap') zo) wr WX from by rw [hWX]; exact ((Fr.refl _ wr).alloc _).drew)
        clear hWX c6 f6 k0 k1 k2 k3 k4 hab
        have c5 := HX.out.1.cells.2.2.2.2.1
        go_upto_region 3 with fail
        go_region
        obtain ⟨WX0, hWX0⟩ : ∃ W, W = WX := ⟨_, rfl⟩
        have HX := Px.hid (show DrRep WX.drew b s lim z (.slice (some ⟨g, 0, none⟩) (rest.length + 1) cap') zo ∧ Fr (dfoot b vs vo) w WX.drew ∧ WX.drew.heap[wr.heap.size]? = some (.cells #[.int .u8 f.tag.toNat, .int .i64 (f.at_ : Nat), .int .i64 (f.end_ : Nat), .int .i64 (f.no : Nat), .string ⟨f.last.toArray⟩] 91 (0, 0)) ∧ wr.heap.size < WX.drew.heap.size from
          ⟨HX.out.1.drewN 1, HX.out.2.1.drew, HX.out.2.2.1, HX.out.2.2.2⟩)
        have HXW := Px.hid (show Fr (dfoot b (.slice (some ⟨g, 0, none⟩) (rest.length + 1) cap') zo) wr WX.drew from HXW.out.drew)
        clear hWX0 a1 a2 c5
        obtain ⟨WX, hWX⟩ : ∃ W, W = WX.drew := ⟨_, rfl⟩
        rw [← hWX] at HX HXW ⊢
        clear hWX
        have a1 : WX.cell? ⟨wr.heap.size, 1, none⟩ = some (.int .i64 (f.at_ : Nat)) := cellOf HX.out.2.2.1 1 rfl
        by_cases hl : z.at_ < f.end_
        · have hl' : (z.at_ : Int) < f.end_ := by omega
          have hbg := begin_any s lim HH.out.2.2.2.2.1 b z _ zo WX HX.out.1 (HH.out.2.2.2.2.2.2.2.2.1 z HK.out.2.2.2.2.1) (HK.out.2.2.2.2.1.ok HH.out.2.2.2.2.2.1) (fun w2 h2 => HH.out.2.2.2.1 w2 (HX.out.2.1.step HK.out.2.2.1 h2))
          have hrun2 := HK.out.2.2.2.1
          rw [if_pos hl] at hrun2
          have HB := Px.hid (And.intro hbg (And.intro hrun2 (fun y hy => HK.out.2.2.2.2.1.begin HH.out.2.2.2.2.2.1 (y := y) hy)))
          clear hbg hrun2 hl a1
          go_wp2_with fail
          refine HB.out.1.mono ?_
          intro r w3 hpost
          have hrun3 := HB.out.2.1
          unfold BegPost at hpost
          cases hbz : D5.beginD s lim z with
          | error e =>
            rw [hbz] at hpost hrun3
            obtain ⟨rfl, hf3⟩ := hpost
            simp only [Option.some.injEq] at hrun3
            have HE := Px.hid (And.intro (HX.out.2.1.step HK.out.2.2.1 hf3) hrun3)
            clear hf3 hrun3 hbz
            unfold panics
            go_wp2
            rw [← HE.out.2]
            exact ⟨rfl, rfl, HE.out.1⟩
          | ok y3 =>
            rw [hbz] at hpost hrun3
            obtain ⟨rfl, F3, hat3, hf3, hn3⟩ := hpost
            simp only at hrun3
            have HE := Px.hid (And.intro hat3 (And.intro (HX.out.2.1.step HK.out.2.2.1 hf3) (And.intro (Fresh.trans HK.out.2.2.1 HX.out.2.1.size hn3) (And.intro hrun3 (HB.out.2.2 y3 hbz)))))
            clear hat3 hf3 hn3 hrun3 hbz
            go_wp2
            go_roundg g'
            case measure => omega
            case rel => exact ⟨_, _, HE.out.2.2.2.1, HE.out.1, HE.out.2.2.2.2, HE.out.2.1, HE.out.2.2.1⟩
        · have hl' : ¬ (z.at_ : Int) < f.end_ := by omega
          have c6 : WX.cell? ⟨b, 6, none⟩ = some (.slice (some ⟨g, 0, none⟩) (rest.length + 1) cap') := HX.out.1.cells.2.2.2.2.2.1
          have f6 := HX.out.1.free 6
          have hrun2 := HK.out.2.2.2.1
          rw [if_neg hl] at hrun2
          have HR := Px.hid hrun2
          clear hrun2 hl
          go_upto_region 5 with fail
          go_region
          obtain ⟨WY, hWY⟩ : ∃ WY, WY = (WX.setCell ⟨b, 6, none⟩ (.slice (some ⟨g, 0, none⟩) rest.length cap')).drew := ⟨_, rfl⟩
          rw [← hWY]
          have hba : wr.heap.size ≠ b := fun e => HA.out (.inl e)
          have HY := Px.hid (show DrRep WY b s lim { z with stack := rest } (.slice (some ⟨g, 0, none⟩) rest.length cap') zo ∧ Fr (dfoot b vs vo) w WY ∧ WY.heap[wr.heap.size]? = some (.cells #[.int .u8 f.tag.toNat, .int .i64 (f.at_ : Nat), .int .i64 (f.end_ : Nat), .int .i64 (f.no : Nat), .string ⟨f.last.toArray⟩] 91 (0, 0)) ∧ Fr (dfoot b (.slice (some ⟨g, 0, none⟩) (rest.length + 1) cap') zo) wr WY from by
            have q0 : Fr (fun k => k = b) WX WY := by rw [hWY]; exact ((Fr.refl (fun k => k = b) WX).setCell (p := ⟨b, 6, none⟩) (.inl rfl) _).drew
            have q1 : Fr (dfoot b (.slice (some ⟨g, 0, none⟩) (rest.length + 1) cap') zo) WX WY := q0.mono (fun k e => .inl e)
            refine ⟨by rw [hWY]; exact (HX.out.1.pop HK.out.2.2.2.2.2).drewN 1, HX.out.2.1.step HK.out.2.2.1 q1, (q0.block _ HX.out.2.2.2 hba).trans HX.out.2.2.1, Fr.trans HXW.out q1 (fun _ _ e => e)⟩)
          have b1 : WY.cell? ⟨wr.heap.size, 1, none⟩ = some (.int .i64 (f.at_ : Nat)) := cellOf HY.out.2.2.1 1 rfl
          have hpf := HK.out.2.2.2.2.1
          have hfa : f.at_ ≤ z.at_ := (hpf.each f (by rw [HK.out.2.2.2.2.2]; simp)).1
          have hinv2 : RInv s lim { z with stack := rest } := by
            refine ⟨fun f' hf' => hpf.each f' (by rw [HK.out.2.2.2.2.2]; exact List.mem_cons_of_mem _ hf'), ?_, hpf.ol, hpf.here, hpf.bound, hpf.kids⟩
            have := hpf.sl
            rw [HK.out.2.2.2.2.2] at this
            simp only [List.length_cons] at this
            show (rest.length : Int) ≤ lim.d
            omega
          have hen := dended_any b f.at_ s lim { z with stack := rest } _ WY ⟨_, _, HY.out.1, rfl⟩ hfa hpf.here hsl
          have HE := Px.hid (And.intro hen (And.intro hinv2 hfa))
          clear hen hinv2 hpf hfa hWY c6 f6 a1 hba
          go_wp2_with fail
          refine HE.out.1.mono ?_
          intro r w3 hpost
          have hrun3 := HR.out
          unfold EndPost at hpost
          cases hbz : D5.ended s { z with stack := rest } f.at_ with
          | error e =>
            rw [hbz] at hpost hrun3
            obtain ⟨rfl, hf3⟩ := hpost
            simp only [Option.some.injEq] at hrun3
            have HZ := Px.hid (And.intro (HY.out.2.1.step HK.out.2.2.1 hf3) hrun3)
            clear hf3 hrun3 hbz
            unfold panics
            go_wp2
            rw [← HZ.out.2]
            exact ⟨rfl, rfl, HZ.out.1⟩
          | ok y3 =>
            rw [hbz] at hpost hrun3
            obtain ⟨rfl, hat3, hf3⟩ := hpost
            simp only at hrun3
            have HZ := Px.hid (And.intro hat3 (And.intro (HY.out.2.1.step HK.out.2.2.1 hf3) (And.intro HK.out.2.2.1 (And.intro hrun3 (HE.out.2.1.ended hbz)))))
            clear hat3 hf3 hrun3 hbz
            go_wp2
            go_roundg g'
            case measure => omega
            case rel => exact ⟨_, _, HZ.out.2.2.2.1, HZ.out.1, HZ.out.2.2.2.2, HZ.out.2.1, HZ.out.2.2.1⟩
end Go.Proofs.YtceffhkgnifmeaaDoor
