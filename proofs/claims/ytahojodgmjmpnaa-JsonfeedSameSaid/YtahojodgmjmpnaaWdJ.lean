/-
  How jsonfeed's text lies in memory; the walk over text.escaped.
-/
import Derived.Test.YtahojodgmjmpnaaWcJ
namespace Go.Proofs.Ytahojodgmjmpnaa
open Go.RowKit Go.Px

def txtCells (t : J6.Txt) (vt : Value) : Array Value := #[.int .i64 (t.mode : Nat), vt, .int .i32 (t.code : Nat), .int .i64 (t.count : Nat), .int .i32 (t.high : Nat), .int .u8 t.least.toNat, .int .u8 t.most.toNat]
structure TxtAt (w : World) (b : Nat) (t : J6.Txt) (vt : Value) : Prop where
  blk : w.heap[b]? = some (.cells (txtCells t vt) 89 (0, 0))
  text : Owns w 5 1 cByte vt t.out
  tb : Apart vt.ownBlock (some b)
theorem TxtAt.set {w : World} {b : Nat} {t : J6.Txt} {vt : Value} (h : TxtAt w b t vt) (i : Nat) (v : Value) (t' : J6.Txt) (hc : (txtCells t vt).setIfInBounds i v = txtCells t' vt) (ho : t'.out = t.out) : TxtAt (w.setCell ⟨b, i, none⟩ v) b t' vt :=
  ⟨by rw [heap_setCell_same w b i _ _ v h.blk, hc], by rw [ho]; exact h.text.setCell (p := ⟨b, i, none⟩) h.tb.ne v, h.tb⟩
/-- What a step of a text leaves. -/
def TxtPost (w : World) (b : Nat) (vt : Value) (res : J6.Res × J6.Txt) (e : Ending) (w' : World) : Prop :=
  e = .returned (resV res.1) ∧ ∃ vt', TxtAt w' b res.2 vt' ∧ Fr (nfoot b vt) w w' ∧ Fresh w (nfoot b vt) (nfoot b vt')
theorem news_at (w : World) (o : Obj) (n : Nat) (h : w.heap.size = n) : (w.alloc o).heap[n]? = some o := by
  subst h
  exact heap_alloc_new _ o
/-- The text has grown, and is stored. -/
theorem TxtAt.put {w w1 : World} {b : Nat} {t : J6.Txt} {vt v' : Value} {l : Bytes} (h : TxtAt w b t vt) (hG : Grown w vt l v' w1) :
    w1.heap[b]? = some (.cells (txtCells t vt) 89 (0, 0)) ∧ TxtAt (w1.setCell ⟨b, 1, none⟩ v') b { t with out := l } v' ∧ Fr (nfoot b vt) w (w1.setCell ⟨b, 1, none⟩ v') ∧ Fresh w (nfoot b vt) (nfoot b v') := by
  obtain ⟨k1, k2, k3, k4, k5⟩ := put_at1 h.blk h.tb hG
  refine ⟨k1, ⟨?_, k2, k3⟩, k4, k5⟩
  rw [heap_setCell_same _ b 1 _ _ _ k1]
  rfl
theorem Fr.post {w w1 : World} {b : Nat} {t : J6.Txt} {vt v' : Value} {w2 : World} (hf : Fr (nfoot b vt) w w1) (h : TxtAt w2 b t v') (k : Fr (nfoot b vt) w1 w2) (n : Fresh w1 (nfoot b vt) (nfoot b v')) :
    ∃ vt', TxtAt w2 b t vt' ∧ Fr (nfoot b vt) w w2 ∧ Fresh w (nfoot b vt) (nfoot b vt') :=
  ⟨v', h, hf.trans k (fun _ _ x => x), Fresh.trans (Fresh.refl w _) hf.size n⟩

set_option maxRecDepth 100000 in
set_option maxHeartbeats 8000000 in
theorem text_escaped (b : Nat) (t : J6.Txt) (vt : Value) (c : UInt8) (hl : t.out.length ≤ 1000000) (w : World) (h : TxtAt w b t vt) :
    Calls Try.prog 94 #[.pointer (some ⟨b, 0, none⟩), .int .u8 c.toNat] w (TxtPost w b vt (J6.escaped t c.toNat)) := by
  obtain ⟨z, hz⟩ : ∃ z, z = c.toNat := ⟨_, rfl⟩
  rw [← hz]
  clear hz
  have c0 : w.cell? ⟨b, 0, none⟩ = some (.int .i64 (t.mode : Nat)) := cellOf h.blk 0 rfl
  have f0 : w.frozen? ⟨b, 0, none⟩ = false := freeOf h.blk 0
  have h1 := h.set 0 (.int .i64 0) { t with mode := 0 } rfl rfl
  have hf1 := Fr.setCell (Fr.refl (nfoot b vt) w) (p := ⟨b, 0, none⟩) (.inl (.inl rfl)) (.int .i64 0)
  obtain ⟨va, vc, hv, _⟩ := h.text.len
  subst hv
  have H1 := Px.hid (And.intro h1 hf1)
  by_cases hs : z = 34 ∨ z = 92 ∨ z = 47 ∨ z = 98 ∨ z = 102 ∨ z = 110 ∨ z = 114 ∨ z = 116
  · obtain ⟨i0, hi0, hz0, hz1, hz2⟩ := info_parts Try.infoU8
    have c1 : w.cell? ⟨b, 1, none⟩ = some (.slice va t.out.length vc) := cellOf h.blk 1 rfl
    have HO := Px.hid h1.text
    have HR : ∃ d : UInt8, J6.escaped t z = (.takes, { t with mode := 0, out := t.out ++ [d] }) ∧ ((z = 34 ∧ d = 34) ∨ (z = 92 ∧ d = 92) ∨ (z = 47 ∧ d = 47) ∨ (z = 98 ∧ d = 8) ∨ (z = 102 ∧ d = 12) ∨ (z = 110 ∧ d = 10) ∨ (z = 114 ∧ d = 13) ∨ (z = 116 ∧ d = 9)) := by
      rcases hs with rfl | rfl | rfl | rfl | rfl | rfl | rfl | rfl
      · exact ⟨34, rfl, by decide⟩
      · exact ⟨92, rfl, by decide⟩
      · exact ⟨47, rfl, by decide⟩
      · exact ⟨8, rfl, by decide⟩
      · exact ⟨12, rfl, by decide⟩
      · exact ⟨10, rfl, by decide⟩
      · exact ⟨13, rfl, by decide⟩
      · exact ⟨9, rfl, by decide⟩
    obtain ⟨d, hd, hdd⟩ := HR
    have HR := Px.hid hd
    clear hd hs h h1 hf1
    rcases hdd with ⟨rfl, rfl⟩ | ⟨rfl, rfl⟩ | ⟨rfl, rfl⟩ | ⟨rfl, rfl⟩ | ⟨rfl, rfl⟩ | ⟨rfl, rfl⟩ | ⟨rfl, rfl⟩ | ⟨rfl, rfl⟩
    · go_enter Try.func94, Try.ntmps94
      go_wp2_with (at_builtin; go_must (refine wpList_append_lies _ rfl _ _ _ rfl 0 5 i0 _ 1 1 Try.underlying60 hi0 hz0 hz1 hz2 rfl (by omega) (.slice va t.out.length vc) t.out.length (t.out.flatMap cByte) rfl (Owns.alloc HO.out _) ⟨w.heap.size, 0, none⟩ 1 1 [.int .u8 34] rfl rfl (World.news_of_block (cs := #[.int .u8 34]) (t := 5) (fr := (0, 0)) (news_at _ _ _ (by simp))) (by simp [Value.oneCell']) (by omega) (by unfold maxLen; omega) (by omega) (by omega) (w.heap.size + 1) (by simp) ?_))
      intro gg cap w1 hown1 hgrow hat hlt
      obtain ⟨k1, k2, k3, k4⟩ := H1.out.1.put (grown_put (L := [34]) rfl rfl hown1 (grown_alloc1 hgrow) (hat.imp id (fun e => by simp; omega)))
      have d1 : w1.cell? ⟨b, 1, none⟩ = some (.slice va t.out.length vc) := cellOf k1 1 rfl
      have e1 : w1.frozen? ⟨b, 1, none⟩ = false := freeOf k1 1
      have HK := Px.hid (And.intro k2 (And.intro k3 k4))
      clear k1 k2 k3 k4 hown1 hgrow hat
      go_wp2
      go_ret
      rw [HR.out]
      exact ⟨rfl, Fr.post H1.out.2 HK.out.1 HK.out.2.1 HK.out.2.2⟩
    · go_enter Try.func94, Try.ntmps94
      go_wp2_with (at_builtin; go_must (refine wpList_append_lies _ rfl _ _ _ rfl 0 5 i0 _ 1 1 Try.underlying60 hi0 hz0 hz1 hz2 rfl (by omega) (.slice va t.out.length vc) t.out.length (t.out.flatMap cByte) rfl (Owns.alloc HO.out _) ⟨w.heap.size, 0, none⟩ 1 1 [.int .u8 92] rfl rfl (World.news_of_block (cs := #[.int .u8 92]) (t := 5) (fr := (0, 0)) (news_at _ _ _ (by simp))) (by simp [Value.oneCell']) (by omega) (by unfold maxLen; omega) (by omega) (by omega) (w.heap.size + 1) (by simp) ?_))
      intro gg cap w1 hown1 hgrow hat hlt
      obtain ⟨k1, k2, k3, k4⟩ := H1.out.1.put (grown_put (L := [92]) rfl rfl hown1 (grown_alloc1 hgrow) (hat.imp id (fun e => by simp; omega)))
      have d1 : w1.cell? ⟨b, 1, none⟩ = some (.slice va t.out.length vc) := cellOf k1 1 rfl
      have e1 : w1.frozen? ⟨b, 1, none⟩ = false := freeOf k1 1
      have HK := Px.hid (And.intro k2 (And.intro k3 k4))
      clear k1 k2 k3 k4 hown1 hgrow hat
      go_wp2
      go_ret
      rw [HR.out]
      exact ⟨rfl, Fr.post H1.out.2 HK.out.1 HK.out.2.1 HK.out.2.2⟩
    · go_enter Try.func94, Try.ntmps94
      go_wp2_with (at_builtin; go_must (refine wpList_append_lies _ rfl _ _ _ rfl 0 5 i0 _ 1 1 Try.underlying60 hi0 hz0 hz1 hz2 rfl (by omega) (.slice va t.out.length vc) t.out.length (t.out.flatMap cByte) rfl (Owns.alloc HO.out _) ⟨w.heap.size, 0, none⟩ 1 1 [.int .u8 47] rfl rfl (World.news_of_block (cs := #[.int .u8 47]) (t := 5) (fr := (0, 0)) (news_at _ _ _ (by simp))) (by simp [Value.oneCell']) (by omega) (by unfold maxLen; omega) (by omega) (by omega) (w.heap.size + 1) (by simp) ?_))
      intro gg cap w1 hown1 hgrow hat hlt
      obtain ⟨k1, k2, k3, k4⟩ := H1.out.1.put (grown_put (L := [47]) rfl rfl hown1 (grown_alloc1 hgrow) (hat.imp id (fun e => by simp; omega)))
      have d1 : w1.cell? ⟨b, 1, none⟩ = some (.slice va t.out.length vc) := cellOf k1 1 rfl
      have e1 : w1.frozen? ⟨b, 1, none⟩ = false := freeOf k1 1
      have HK := Px.hid (And.intro k2 (And.intro k3 k4))
      clear k1 k2 k3 k4 hown1 hgrow hat
      go_wp2
      go_ret
      rw [HR.out]
      exact ⟨rfl, Fr.post H1.out.2 HK.out.1 HK.out.2.1 HK.out.2.2⟩
    · go_enter Try.func94, Try.ntmps94
      go_wp2_with (at_builtin; go_must (refine wpList_append_lies _ rfl _ _ _ rfl 0 5 i0 _ 1 1 Try.underlying60 hi0 hz0 hz1 hz2 rfl (by omega) (.slice va t.out.length vc) t.out.length (t.out.flatMap cByte) rfl (Owns.alloc HO.out _) ⟨w.heap.size, 0, none⟩ 1 1 [.int .u8 8] rfl rfl (World.news_of_block (cs := #[.int .u8 8]) (t := 5) (fr := (0, 0)) (news_at _ _ _ (by simp))) (by simp [Value.oneCell']) (by omega) (by unfold maxLen; omega) (by omega) (by omega) (w.heap.size + 1) (by simp) ?_))
      intro gg cap w1 hown1 hgrow hat hlt
      obtain ⟨k1, k2, k3, k4⟩ := H1.out.1.put (grown_put (L := [8]) rfl rfl hown1 (grown_alloc1 hgrow) (hat.imp id (fun e => by simp; omega)))
      have d1 : w1.cell? ⟨b, 1, none⟩ = some (.slice va t.out.length vc) := cellOf k1 1 rfl
      have e1 : w1.frozen? ⟨b, 1, none⟩ = false := freeOf k1 1
      have HK := Px.hid (And.intro k2 (And.intro k3 k4))
      clear k1 k2 k3 k4 hown1 hgrow hat
      go_wp2
      go_ret
      rw [HR.out]
      exact ⟨rfl, Fr.post H1.out.2 HK.out.1 HK.out.2.1 HK.out.2.2⟩
    · go_enter Try.func94, Try.ntmps94
      go_wp2_with (at_builtin; go_must (refine wpList_append_lies _ rfl _ _ _ rfl 0 5 i0 _ 1 1 Try.underlying60 hi0 hz0 hz1 hz2 rfl (by omega) (.slice va t.out.length vc) t.out.length (t.out.flatMap cByte) rfl (Owns.alloc HO.out _) ⟨w.heap.size, 0, none⟩ 1 1 [.int .u8 12] rfl rfl (World.news_of_block (cs := #[.int .u8 12]) (t := 5) (fr := (0, 0)) (news_at _ _ _ (by simp))) (by simp [Value.oneCell']) (by omega) (by unfold maxLen; omega) (by omega) (by omega) (w.heap.size + 1) (by simp) ?_))
      intro gg cap w1 hown1 hgrow hat hlt
      obtain ⟨k1, k2, k3, k4⟩ := H1.out.1.put (grown_put (L := [12]) rfl rfl hown1 (grown_alloc1 hgrow) (hat.imp id (fun e => by simp; omega)))
      have d1 : w1.cell? ⟨b, 1, none⟩ = some (.slice va t.out.length vc) := cellOf k1 1 rfl
      have e1 : w1.frozen? ⟨b, 1, none⟩ = false := freeOf k1 1
      have HK := Px.hid (And.intro k2 (And.intro k3 k4))
      clear k1 k2 k3 k4 hown1 hgrow hat
      go_wp2
      go_ret
      rw [HR.out]
      exact ⟨rfl, Fr.post H1.out.2 HK.out.1 HK.out.2.1 HK.out.2.2⟩
    · go_enter Try.func94, Try.ntmps94
      go_wp2_with (at_builtin; go_must (refine wpList_append_lies _ rfl _ _ _ rfl 0 5 i0 _ 1 1 Try.underlying60 hi0 hz0 hz1 hz2 rfl (by omega) (.slice va t.out.length vc) t.out.length (t.out.flatMap cByte) rfl (Owns.alloc HO.out _) ⟨w.heap.size, 0, none⟩ 1 1 [.int .u8 10] rfl rfl (World.news_of_block (cs := #[.int .u8 10]) (t := 5) (fr := (0, 0)) (news_at _ _ _ (by simp))) (by simp [Value.oneCell']) (by omega) (by unfold maxLen; omega) (by omega) (by omega) (w.heap.size + 1) (by simp) ?_))
      intro gg cap w1 hown1 hgrow hat hlt
      obtain ⟨k1, k2, k3, k4⟩ := H1.out.1.put (grown_put (L := [10]) rfl rfl hown1 (grown_alloc1 hgrow) (hat.imp id (fun e => by simp; omega)))
      have d1 : w1.cell? ⟨b, 1, none⟩ = some (.slice va t.out.length vc) := cellOf k1 1 rfl
      have e1 : w1.frozen? ⟨b, 1, none⟩ = false := freeOf k1 1
      have HK := Px.hid (And.intro k2 (And.intro k3 k4))
      clear k1 k2 k3 k4 hown1 hgrow hat
      go_wp2
      go_ret
      rw [HR.out]
      exact ⟨rfl, Fr.post H1.out.2 HK.out.1 HK.out.2.1 HK.out.2.2⟩
    · go_enter Try.func94, Try.ntmps94
      go_wp2_with (at_builtin; go_must (refine wpList_append_lies _ rfl _ _ _ rfl 0 5 i0 _ 1 1 Try.underlying60 hi0 hz0 hz1 hz2 rfl (by omega) (.slice va t.out.length vc) t.out.length (t.out.flatMap cByte) rfl (Owns.alloc HO.out _) ⟨w.heap.size, 0, none⟩ 1 1 [.int .u8 13] rfl rfl (World.news_of_block (cs := #[.int .u8 13]) (t := 5) (fr := (0, 0)) (news_at _ _ _ (by simp))) (by simp [Value.oneCell']) (by omega) (by unfold maxLen; omega) (by omega) (by omega) (w.heap.size + 1) (by simp) ?_))
      intro gg cap w1 hown1 hgrow hat hlt
      obtain ⟨k1, k2, k3, k4⟩ := H1.out.1.put (grown_put (L := [13]) rfl rfl hown1 (grown_alloc1 hgrow) (hat.imp id (fun e => by simp; omega)))
      have d1 : w1.cell? ⟨b, 1, none⟩ = some (.slice va t.out.length vc) := cellOf k1 1 rfl
      have e1 : w1.frozen? ⟨b, 1, none⟩ = false := freeOf k1 1
      have HK := Px.hid (And.intro k2 (And.intro k3 k4))
      clear k1 k2 k3 k4 hown1 hgrow hat
      go_wp2
      go_ret
      rw [HR.out]
      exact ⟨rfl, Fr.post H1.out.2 HK.out.1 HK.out.2.1 HK.out.2.2⟩
    · go_enter Try.func94, Try.ntmps94
      go_wp2_with (at_builtin; go_must (refine wpList_append_lies _ rfl _ _ _ rfl 0 5 i0 _ 1 1 Try.underlying60 hi0 hz0 hz1 hz2 rfl (by omega) (.slice va t.out.length vc) t.out.length (t.out.flatMap cByte) rfl (Owns.alloc HO.out _) ⟨w.heap.size, 0, none⟩ 1 1 [.int .u8 9] rfl rfl (World.news_of_block (cs := #[.int .u8 9]) (t := 5) (fr := (0, 0)) (news_at _ _ _ (by simp))) (by simp [Value.oneCell']) (by omega) (by unfold maxLen; omega) (by omega) (by omega) (w.heap.size + 1) (by simp) ?_))
      intro gg cap w1 hown1 hgrow hat hlt
      obtain ⟨k1, k2, k3, k4⟩ := H1.out.1.put (grown_put (L := [9]) rfl rfl hown1 (grown_alloc1 hgrow) (hat.imp id (fun e => by simp; omega)))
      have d1 : w1.cell? ⟨b, 1, none⟩ = some (.slice va t.out.length vc) := cellOf k1 1 rfl
      have e1 : w1.frozen? ⟨b, 1, none⟩ = false := freeOf k1 1
      have HK := Px.hid (And.intro k2 (And.intro k3 k4))
      clear k1 k2 k3 k4 hown1 hgrow hat
      go_wp2
      go_ret
      rw [HR.out]
      exact ⟨rfl, Fr.post H1.out.2 HK.out.1 HK.out.2.1 HK.out.2.2⟩
  · by_cases hu : z = 117
    · subst hu
      have c2 : w.cell? ⟨b, 2, none⟩ = some (.int .i32 (t.code : Nat)) := cellOf h.blk 2 rfl
      have f2 : w.frozen? ⟨b, 2, none⟩ = false := freeOf h.blk 2
      have c3 : w.cell? ⟨b, 3, none⟩ = some (.int .i64 (t.count : Nat)) := cellOf h.blk 3 rfl
      have f3 : w.frozen? ⟨b, 3, none⟩ = false := freeOf h.blk 3
      have h2 := ((h1.set 0 (.int .i64 2) { t with mode := 2 } rfl rfl).set 2 (.int .i32 0) { t with mode := 2, code := 0 } rfl rfl).set 3 (.int .i64 4) { t with mode := 2, code := 0, count := 4 } rfl rfl
      have hf2 := ((hf1.setCell (p := ⟨b, 0, none⟩) (.inl (.inl rfl)) (.int .i64 2)).setCell (p := ⟨b, 2, none⟩) (.inl (.inl rfl)) (.int .i32 0)).setCell (p := ⟨b, 3, none⟩) (.inl (.inl rfl)) (.int .i64 4)
      have H2 := Px.hid (And.intro h2 hf2)
      clear hs h h1 hf1 h2 hf2
      go_enter Try.func94, Try.ntmps94
      go_wp2
      go_ret
      exact ⟨rfl, _, H2.out.1, H2.out.2, Fresh.refl _ _⟩
    · have HR := Px.hid (show J6.escaped t z = (.refuses, { t with mode := 0 }) from by
        have hn : R6.letter z = none := by
          unfold R6.letter
          simp only [beq_iff_eq]
          rw [if_neg (by omega), if_neg (by omega), if_neg (by omega), if_neg (by omega), if_neg (by omega), if_neg (by omega), if_neg (by omega), if_neg (by omega)]
        unfold J6.escaped
        rw [hn]
        simp [hu])
      have e1 : ((z : Int) == 34) = false := by simp; omega
      have e2 : ((z : Int) == 92) = false := by simp; omega
      have e3 : ((z : Int) == 47) = false := by simp; omega
      have e4 : ((z : Int) == 98) = false := by simp; omega
      have e5 : ((z : Int) == 102) = false := by simp; omega
      have e6 : ((z : Int) == 110) = false := by simp; omega
      have e7 : ((z : Int) == 114) = false := by simp; omega
      have e8 : ((z : Int) == 116) = false := by simp; omega
      have e9 : ((z : Int) == 117) = false := by simp; omega
      clear hs hu h h1 hf1
      go_enter Try.func94, Try.ntmps94
      go_wp2
      go_ret
      rw [HR.out]
      exact ⟨rfl, _, H1.out.1, H1.out.2, Fresh.refl _ _⟩
end Go.Proofs.Ytahojodgmjmpnaa
