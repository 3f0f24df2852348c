/-
  The walks over jsonfeed's word and number: take.
-/
import Derived.Test.YtahojodgmjmpnaaStrJ
namespace Go.Proofs.Ytahojodgmjmpnaa
open Go.RowKit Go.Px

/-- What a token makes of a byte, as a number. -/
def resV : J6.Res → Value
  | .takes => .int .i64 0
  | .ends => .int .i64 1
  | .refuses => .int .i64 2
  | .ahead => .int .i64 3
def WordAt (w : World) (b : Nat) (r : Bytes) : Prop := w.heap[b]? = some (.cells #[S r] 109 (0, 0))
theorem eqlE_S (l : List UInt8) (w : World) : (binOp .eql 9 (S l) (.string { data := #[] })).run Try.prog w = .ok (.bool l.isEmpty) w := by
  unfold binOp
  cases l with
  | nil => simp [Op.stringOp]
  | cons x r => simp [Op.stringOp]

set_option maxRecDepth 100000 in
set_option maxHeartbeats 4000000 in
theorem word_take (b : Nat) (x : UInt8) (r : Bytes) (c : UInt8) (w : World) (h : WordAt w b (x :: r)) :
    Calls Try.prog 96 #[.pointer (some ⟨b, 0, none⟩), .int .u8 c.toNat] w fun e w' => e = .returned (resV (J6.wordTake (x :: r) c).1) ∧ WordAt w' b (J6.wordTake (x :: r) c).2 ∧ Fr (fun k => k = b) w w' := by
  obtain ⟨l, hl⟩ : ∃ l, l = x :: r := ⟨_, rfl⟩
  have hn : l.length = r.length + 1 := by rw [hl]; rfl
  have hx : l.getD 0 0 = x := by rw [hl]; rfl
  have hd : l.drop 1 = r := by rw [hl]; rfl
  obtain ⟨y, hy⟩ : ∃ y, y = x.toNat := ⟨_, rfl⟩
  obtain ⟨z, hz⟩ : ∃ z, z = c.toNat := ⟨_, rfl⟩
  have hix : ∀ w, (Instr.index 9 (S l) (.int .i64 0)).run Try.prog w = .ok (.int .u8 (y : Nat)) w := fun w => by rw [hy, ← hx]; exact idx_S l 0 (by omega) w
  have hsl : ∀ w, (Instr.slice 9 (S l) (some (.int .i64 1)) none none).run Try.prog w = .ok (S r) w := fun w => by rw [← hd]; exact from_S l 1 (by omega) w
  have heq := eqlE_S r
  have c0 : w.cell? ⟨b, 0, none⟩ = some (S l) := by rw [hl]; exact cellOf h 0 rfl
  have f0 : w.frozen? ⟨b, 0, none⟩ = false := freeOf h 0
  have HW := Px.hid (show WordAt (w.setCell ⟨b, 0, none⟩ (S r)) b r from by unfold WordAt; rw [heap_setCell_same w b 0 _ _ _ h]; rfl)
  have HF := Px.hid (Fr.setCell (Fr.refl (fun k => k = b) w) (p := ⟨b, 0, none⟩) (.inl rfl) (S r))
  have H := Px.hid h
  rw [← hz]
  by_cases hc : c = x
  · have hyz : z = y := by rw [hz, hy, hc]
    have HR := Px.hid (show J6.wordTake (x :: r) c = if r.isEmpty then (.ends, r) else (.takes, r) from by unfold J6.wordTake; rw [hc]; simp)
    subst hyz
    clear hx hd hl hn hy hz hc h
    by_cases he : r.isEmpty = true
    · have HR := Px.hid (HR.out.trans (if_pos he))
      go_enter Try.func96, Try.ntmps96
      go_wp2
      go_ret
      rw [HR.out]
      exact ⟨rfl, HW.out, HF.out⟩
    · have HR := Px.hid (HR.out.trans (if_neg he))
      have he : r.isEmpty = false := by simpa using he
      go_enter Try.func96, Try.ntmps96
      go_wp2
      go_ret
      rw [HR.out]
      exact ⟨rfl, HW.out, HF.out⟩
  · have hyz : ((z : Int) != (y : Int)) = true := by
      rw [hz, hy]
      simp only [bne_iff_ne, ne_eq, Int.natCast_inj]
      exact fun e => hc (UInt8.toNat_inj.1 e)
    have HR := Px.hid (show J6.wordTake (x :: r) c = (.refuses, x :: r) from if_pos (by simpa using hc))
    clear hx hd hl hn hy hz hc h
    go_enter Try.func96, Try.ntmps96
    go_wp2
    go_ret
    rw [HR.out]
    exact ⟨rfl, H.out, Fr.refl _ w⟩

/-- The blocks of a number, of a string: its own, its text's. -/
def nfoot (b : Nat) (v : Value) (k : Nat) : Prop := k = b ∨ v.ownBlock = some k
/-- The text at hand has grown, and is stored. -/
theorem put_at1 {w w1 : World} {b T : Nat} {cs : Array Value} {v v' : Value} {l : Bytes} (hb : w.heap[b]? = some (.cells cs T (0, 0))) (hap : Apart v.ownBlock (some b)) (hG : Grown w v l v' w1) :
    w1.heap[b]? = some (.cells cs T (0, 0)) ∧ Owns (w1.setCell ⟨b, 1, none⟩ v') 5 1 cByte v' l ∧ Apart v'.ownBlock (some b) ∧ Fr (nfoot b v) w (w1.setCell ⟨b, 1, none⟩ v') ∧ Fresh w (nfoot b v) (nfoot b v') := by
  obtain ⟨h1, h2, h3⟩ := hG
  have hlt := ltOf hb
  have hap' : Apart v'.ownBlock (some b) := fun k hk e => by
    simp only [Option.some.injEq] at e
    subst e
    rcases h3 b hk with x | x
    · exact hap b x rfl
    · omega
  refine ⟨(h2.block b hlt (fun x => hap b x rfl)).trans hb, h1.setCell (p := ⟨b, 1, none⟩) hap'.ne v', hap', (h2.mono (fun k hk => .inr hk)).setCell (p := ⟨b, 1, none⟩) (.inl (.inl rfl)) v', ?_⟩
  rintro k (rfl | hk)
  · exact .inl (.inl rfl)
  · rcases h3 k hk with x | x
    · exact .inl (.inr x)
    · exact .inr x
theorem new_set (w : World) (p : Addr) (v : Value) (o : Obj) : ((w.setCell p v).alloc o).heap[w.heap.size]? = some o := by
  have e : (w.setCell p v).heap.size = w.heap.size := by simp [World.setCell]
  rw [← e]
  exact heap_alloc_new _ o
structure NumAt (w : World) (b q : Nat) (t : Bytes) (vt : Value) : Prop where
  blk : w.heap[b]? = some (.cells #[.int .i64 (q : Nat), vt] 62 (0, 0))
  text : Owns w 5 1 cByte vt t
  tb : Apart vt.ownBlock (some b)
def numOf (q : Nat) (t : Bytes) (c : UInt8) : Option Nat → J6.Res × Nat × Bytes
  | some k => (.takes, k, t ++ [c])
  | none => if R6.numEnd q then (.ahead, q, t) else (.refuses, q, t)
theorem numTake_of (q : Nat) (t : Bytes) (c : UInt8) : J6.numTake q t c = numOf q t c (R6.numNext q c.toNat) := by
  unfold J6.numTake numOf
  cases R6.numNext q c.toNat <;> rfl

set_option maxRecDepth 100000 in
set_option maxHeartbeats 4000000 in
theorem num_take (b q : Nat) (t : Bytes) (vt : Value) (c : UInt8) (hq : q ≤ 8) (hl : t.length ≤ 1000000) (w : World) (h : NumAt w b q t vt) :
    Calls Try.prog 58 #[.pointer (some ⟨b, 0, none⟩), .int .u8 c.toNat] w fun e w' => e = .returned (resV (J6.numTake q t c).1) ∧ ∃ vt', NumAt w' b (J6.numTake q t c).2.1 (J6.numTake q t c).2.2 vt' ∧ Fr (nfoot b vt) w w' ∧ Fresh w (nfoot b vt) (nfoot b vt') := by
  have c0 : w.cell? ⟨b, 0, none⟩ = some (.int .i64 (q : Nat)) := cellOf h.blk 0 rfl
  have f0 : w.frozen? ⟨b, 0, none⟩ = false := freeOf h.blk 0
  have hN := num_next b q c.toNat hq w c0
  have hE := num_whole b q hq w c0
  obtain ⟨o, ho⟩ : ∃ o, R6.numNext q c.toNat = o := ⟨_, rfl⟩
  rw [ho] at hN
  have HR := Px.hid (show J6.numTake q t c = numOf q t c o from by rw [numTake_of, ho])
  obtain ⟨va, vc, hv, _⟩ := h.text.len
  subst hv
  cases o with
  | some k =>
    have hk : (0 : Int) ≤ (k : Int) := by omega
    have c1 : w.cell? ⟨b, 1, none⟩ = some (.slice va t.length vc) := cellOf h.blk 1 rfl
    have hb2 : (w.setCell ⟨b, 0, none⟩ (.int .i64 (k : Nat))).heap[b]? = some (.cells #[.int .i64 (k : Nat), .slice va t.length vc] 62 (0, 0)) := by rw [heap_setCell_same w b 0 _ _ _ h.blk]; rfl
    have HB := Px.hid hb2
    have HO := Px.hid (h.text.setCell (p := ⟨b, 0, none⟩) h.tb.ne (.int .i64 (k : Nat)))
    have HF := Px.hid (Fr.setCell (Fr.refl (nfoot b (.slice va t.length vc)) w) (p := ⟨b, 0, none⟩) (.inl (.inl rfl)) (.int .i64 (k : Nat)))
    have HC := Px.hid (And.intro h.tb (And.intro (show [Value.int .u8 (c.toNat : Nat)] = [c].flatMap cByte from rfl) hE))
    have HNX := Px.hid hN
    clear hN hE h hb2 ho hq
    obtain ⟨i0, hi0, hz0, hz1, hz2⟩ := info_parts Try.infoU8
    go_enter Try.func58, Try.ntmps58
    go_wp2_with fail
    refine HNX.out.mono ?_
    rintro e w' ⟨rfl, rfl⟩
    unfold nextV
    go_wp2_with (at_builtin; go_must (refine wpList_append_lies _ rfl _ _ _ rfl 0 5 i0 _ 1 1 Try.underlying60 hi0 hz0 hz1 hz2 rfl (by omega) (.slice va t.length vc) t.length (t.flatMap cByte) rfl (Owns.alloc HO.out _) ⟨w.heap.size, 0, none⟩ 1 1 [.int .u8 (c.toNat : Nat)] rfl rfl (World.news_of_block (cs := #[.int .u8 (c.toNat : Nat)]) (t := 5) (fr := (0, 0)) (new_set w _ _ _)) (by simp [Value.oneCell']) (by omega) (by unfold maxLen; omega) (by omega) (by omega) (w.heap.size + 1) (by simp) ?_))
    intro gg cap w1 hown1 hgrow hat hlt
    obtain ⟨k1, k2, k3, k4, k5⟩ := put_at1 HB.out HC.out.1 (grown_put HC.out.2.1 rfl hown1 (grown_alloc1 hgrow) (hat.imp id (fun e => by simp; omega)))
    have d1 : w1.cell? ⟨b, 1, none⟩ = some (.slice va t.length vc) := cellOf k1 1 rfl
    have e1 : w1.frozen? ⟨b, 1, none⟩ = false := freeOf k1 1
    have HK := Px.hid (And.intro k1 (And.intro k2 (And.intro k3 (And.intro k4 k5))))
    clear k1 k2 k3 k4 k5 hown1 hgrow hat
    go_wp2
    go_ret
    rw [HR.out]
    refine ⟨rfl, _, ⟨?_, HK.out.2.1, HK.out.2.2.1⟩, HF.out.trans HK.out.2.2.2.1 (fun _ _ x => x), ?_⟩
    · rw [heap_setCell_same _ b 1 _ _ _ HK.out.1]; rfl
    · exact Fresh.trans (Fresh.refl w _) HF.out.size HK.out.2.2.2.2
  | none =>
    have H := Px.hid (And.intro h (And.intro hN hE))
    clear hN hE h ho hq
    cases hee : R6.numEnd q with
    | true =>
      rw [hee] at H
      have HE := Px.hid hee
      clear hee
      go_enter Try.func58, Try.ntmps58
      go_wp2_with fail
      refine H.out.2.1.mono ?_
      rintro e w' ⟨rfl, rfl⟩
      unfold nextV
      go_wp2_with fail
      refine H.out.2.2.mono ?_
      rintro e w' ⟨rfl, rfl⟩
      go_wp2
      go_ret
      rw [HR.out, show numOf q t c none = (.ahead, q, t) from if_pos HE.out]
      exact ⟨rfl, _, H.out.1, Fr.refl _ _, Fresh.refl _ _⟩
    | false =>
      rw [hee] at H
      have HE := Px.hid hee
      clear hee
      go_enter Try.func58, Try.ntmps58
      go_wp2_with fail
      refine H.out.2.1.mono ?_
      rintro e w' ⟨rfl, rfl⟩
      unfold nextV
      go_wp2_with fail
      refine H.out.2.2.mono ?_
      rintro e w' ⟨rfl, rfl⟩
      go_wp2
      go_ret
      rw [HR.out, show numOf q t c none = (.refuses, q, t) from if_neg (by rw [HE.out]; decide)]
      exact ⟨rfl, _, H.out.1, Fr.refl _ _, Fresh.refl _ _⟩
end Go.Proofs.Ytahojodgmjmpnaa
