/-
 Several texts in one: The walk over cose.protect; what a list that was decoded is. The walk over cose.named.
-/
import Derived.Test.YtddiabaagpmkgaaDoorCB
import Derived.Test.YtddiabaagpmkgaaDoorCX
import Derived.Test.YtddiabaagpmkgaaDoorCC
import Derived.Test.YtddiabaagpmkgaaDoorCD
import Derived.Deep.RegionWith
/-! The walk over cose.protect; what a list that was decoded is. -/
namespace Go.Px.Co
open E7 (At Wf encB)
/-- A list that was decoded. -/
structure Dec (L : List Atom) : Prop where
 at0 : At L 0 L.length
 len : L.length ≤ 4096
 wf : Wf L
 bytes : (encB L).length ≤ 262144
 all : ∀ a ∈ L, E7.right a = true
theorem dec_of {s : Bytes} {lim : Lim} (h : (R7.decode s lim).2.2 = 0) : Dec (R7.decode s lim).1 ∧ s = encB (R7.decode s lim).1 := by
 obtain ⟨hm, _, hit, hwf, hbs, hlen, hsl, _⟩ := E7.decode_sound h
 obtain ⟨m1, m2, m3⟩ := may_most hm
 have e1 : most.d = 32 := rfl
 have e2 : most.i = 4096 := rfl
 have e3 : most.b = 262144 := rfl
 exact ⟨⟨whole (d := lim.d.toNat) (by omega) hit, by omega, hwf, by rw [← hbs]; omega, E7.ItF.all hit⟩, hbs⟩
theorem Dec.pos {L : List Atom} (h : Dec L) : 0 < L.length := by
 have := h.at0.lt
 omega
theorem Dec.num {L : List Atom} (h : Dec L) {i : Nat} (hi : i < L.length) : L[i].num < 18446744073709551616 := (h.wf _ (List.getElem_mem hi)).1
theorem getD_eq {L : List Atom} {i : Nat} (hi : i < L.length) : L.getD i za = L[i] := by
 rw [List.getD_eq_getElem?_getD, List.getElem?_eq_getElem hi]
 rfl
end Go.Px.Co
namespace Go.Proofs.YtddiabaagpmkgaaDoor
open Go.RowKit Go.Px Go.Px.E7 Go.Px.Co
set_option maxRecDepth 100000 in
set_option maxHeartbeats 2000000 in
theorem protect_bad (a : Atom) (lim : Lim) (w : World) (hk : ¬ a.kind = 2) :
  Calls Tryd.prog 53 #[.agg #[.int .i64 a.kind, .int .u64 (a.num : Nat), S a.text], limV lim] w fun e w' => e = .returned (.tuple #[.slice none 0 0, .int .i64 9]) ∧ Same w w' := by
 unfold limV
 go_enter Tryd.func53, Tryd.ntmps53
 go_wp2
 go_ret2
 exact ⟨rfl, Fr.alloc (Fr.alloc (Fr.refl _ w) _) _⟩
set_option maxRecDepth 100000 in
set_option maxHeartbeats 4000000 in
theorem protect_ok (a : Atom) (lim : Lim) (w : World) (hk : a.kind = 2) (ht : a.text.length ≤ 140737488355327) (hT : Tabs w) :
  Calls Tryd.prog 53 #[.agg #[.int .i64 a.kind, .int .u64 (a.num : Nat), S a.text], limV lim] w fun e w' => ∃ vo, e = .returned (.tuple #[vo, .int .i64 (protect a.text lim).2]) ∧ PrsO w w' vo (protect a.text lim).1 := by
 obtain ⟨k, n, t⟩ := a
 simp only at hk ht ⊢
 subst hk
 have HT := Px.hid (And.intro ht hT)
 clear ht hT
 have HS := Px.hid (show Same w ((w.alloc (.cells #[.int .i64 2, .int .u64 (n : Nat), S t] 62)).alloc (.cells #[.int .i64 lim.d, .int .i64 lim.i, .int .i64 lim.b, .int .i64 lim.r] 23)) from Fr.alloc (Fr.alloc (Fr.refl _ w) _) _)
 by_cases h0 : t = []
 ·have HP := Px.hid (show protect t lim = ([], 0) by unfold protect; rw [if_pos h0])
  subst h0
  unfold limV
  go_enter Tryd.func53, Tryd.ntmps53
  go_wp2
  go_ret2
  rw [HP.out]
  exact ⟨_, rfl, owns_nil _ _ _ _, HS.out, nofun⟩
 ·have HP := Px.hid (show protect t lim = if (R7.decode t lim).2.2 ≠ 0 then ([], (R7.decode t lim).2.2) else if ((R7.decode t lim).1.getD 0 za).kind ≠ 5 ∨ ((R7.decode t lim).1.getD 0 za).num = 0 then ([], 9) else (pairsF (R7.decode t lim).1 ((R7.decode t lim).1.getD 0 za).num 1, 0) by
   unfold protect
   rw [if_neg h0])
  have hte : t.isEmpty = false := by simpa using h0
  have HD := Px.hid (decode_any t lim HT.out.1 _ (HT.out.2.same HS.out))
  unfold limV at HD ⊢
  go_enter Tryd.func53, Tryd.ntmps53
  go_wp2_with fail
  refine HD.out.mono ?_
  intro e w1 hg
  obtain ⟨va, vc, rfl, ho, hs⟩ := hg.len
  have HS1 := Px.hid (HS.out.trans hs)
  clear HD HS hg hs
  obtain ⟨d, hd⟩ : ∃ d, d = R7.decode t lim := ⟨_, rfl⟩
  have HDe := Px.hid (fun h : d.2.2 = 0 => show Dec d.1 by rw [hd] at h ⊢; exact (dec_of h).1)
  rw [← hd] at HP ho ⊢
  clear hd
  have HO := Px.hid ho
  clear ho
  obtain ⟨L, pl, er⟩ := d
  simp only at HP HO HDe ⊢
  by_cases he : er = 0
  ·subst he
   have hdec := HDe.out rfl
   have hpos := hdec.pos
   have hl := hdec.len
   obtain ⟨xb, xo, xc, hve, hxb, hcx⟩ := (HO.out.lies cAtom_len).cell 0 L[0] (by simp [hpos])
   simp only [Value.slice.injEq, true_and] at hve
   obtain ⟨rfl, rfl⟩ := hve
   have x0 := hcx 0 _ rfl
   have x1 := hcx 1 _ rfl
   rw [← Nat.add_assoc] at x0 x1
   rw [Nat.zero_mul, Nat.add_zero] at x0 x1
   have hp0 : L.getD 0 za = L[0] := getD_eq hpos
   rw [hp0, if_neg (by simp)] at HP
   obtain ⟨x, hx⟩ : ∃ x, x = L[0] := ⟨_, rfl⟩
   rw [← hx] at x0 x1 HP hp0
   have HX := Px.hid (And.intro hdec hp0)
   have hposz : (0 : Int) < (L.length : Int) := by omega
   clear hcx hx hp0 hdec HDe
   by_cases h5 : x.kind = 5
   ·rw [h5] at x0
    by_cases hn : x.num = 0
    ·rw [hn] at x1
     have HE := Px.hid (show protect t lim = ([], 9) by rw [HP.out, if_pos (.inr hn)])
     clear h5 hn HP
     go_wp2
     go_ret2
     rw [HE.out]
     exact ⟨_, rfl, owns_nil _ _ _ _, HS1.out, nofun⟩
    ·have hnz : ((x.num : Int) == 0) = false := by simpa using hn
     have HE := Px.hid (show protect t lim = (pairsF L x.num 1, 0) by rw [HP.out, if_neg (by rintro (h | h); exact h h5; exact hn h)])
     have hpr := map_prs HX.out.1.at0 (by rw [HX.out.2]; exact h5)
     rw [HX.out.2] at hpr
     have HPR := Px.hid hpr
     clear h5 hn HP hpr
     go_wp2_with fail
     refine (cpairs_any _ L 0 x.num _ (HO.out.lies cAtom_len) hl hpos (by rw [HX.out.2]) (Nat.le_trans HPR.out.2 hl) HPR.out.1).mono ?_
     rintro e w2 ⟨vo, rfl, hp⟩
     have HP2 := Px.hid hp
     clear hp
     go_wp2
     go_ret2
     rw [HE.out]
     exact ⟨_, rfl, HP2.out.own, HS1.out.trans HP2.out.same, fun g e => Nat.le_trans HS1.out.size (HP2.out.new g e)⟩
   ·have h5z : ¬ x.kind = 5 := h5
    have HE := Px.hid (show protect t lim = ([], 9) by rw [HP.out, if_pos (.inl h5)])
    clear HP h5
    go_wp2
    go_ret2
    rw [HE.out]
    exact ⟨_, rfl, owns_nil _ _ _ _, HS1.out, nofun⟩
  ·have HE := Px.hid (show protect t lim = ([], er) by rw [HP.out, if_pos he])
   clear HP
   go_wp2
   go_ret2
   rw [HE.out]
   exact ⟨_, rfl, owns_nil _ _ _ _, HS1.out, nofun⟩
end Go.Proofs.YtddiabaagpmkgaaDoor

/-! The walk over cose.named. -/
namespace Go.Px
open Go.RowKit
/-- A block that is known whole. -/
def Blk (w : World) (b : Nat) (cs : Array Value) (T : TypeId) : Prop := w.heap[b]? = some (.cells cs T (0, 0))
section
variable {w : World} {b : Nat} {cs : Array Value} {T : TypeId}
theorem Blk.cell (h : Blk w b cs T) (i : Nat) {v : Value} (hv : cs[i]? = some v) : w.cell? ⟨b, i, none⟩ = some v := cellOf h i hv
theorem Blk.free (h : Blk w b cs T) (i : Nat) : w.frozen? ⟨b, i, none⟩ = false := freeOf h i
theorem Blk.lt (h : Blk w b cs T) : b < w.heap.size := ltOf h
theorem Blk.alloc (h : Blk w b cs T) (o : Obj) : Blk (w.alloc o) b cs T := (heap_alloc_old w o h.lt).trans h
theorem Blk.drew (h : Blk w b cs T) : Blk w.drew b cs T := h
theorem Blk.other (h : Blk w b cs T) {p : Addr} (u : Value) (hne : ¬ b = p.block) : Blk (w.setCell p u) b cs T := (heap_setCell_other w p b u hne).trans h
theorem Blk.set (h : Blk w b cs T) (o : Nat) (u : Value) : Blk (w.setCell ⟨b, o, none⟩ u) b (cs.setIfInBounds o u) T := heap_setCell_same w b o cs T u h
theorem Blk.fr {F : Nat → Prop} {w' : World} (h : Blk w b cs T) (hf : Fr F w w') (hn : ¬ F b) : Blk w' b cs T := (hf.block b h.lt hn).trans h
theorem blk_new (w : World) (cs : Array Value) (T : TypeId) : Blk (w.alloc (.cells cs T (0, 0))) w.heap.size cs T := heap_alloc_new w _
end
theorem blk3 {w : World} {b : Nat} {T : TypeId} {a0 a1 a2 : Value} (h : Blk w b #[a0, a1, a2] T) : w.cell? ⟨b, 0, none⟩ = some a0 ∧ w.cell? ⟨b, 1, none⟩ = some a1 ∧ w.cell? ⟨b, 2, none⟩ = some a2 ∧ w.frozen? ⟨b, 0, none⟩ = false ∧ w.frozen? ⟨b, 1, none⟩ = false ∧ w.frozen? ⟨b, 2, none⟩ = false :=
 ⟨h.cell 0 rfl, h.cell 1 rfl, h.cell 2 rfl, h.free 0, h.free 1, h.free 2⟩
theorem blk9 {w : World} {b : Nat} {T : TypeId} {a0 a1 a2 a3 a4 a5 a6 a7 a8 : Value} (h : Blk w b #[a0, a1, a2, a3, a4, a5, a6, a7, a8] T) : w.cell? ⟨b, 0, none⟩ = some a0 ∧ w.cell? ⟨b, 1, none⟩ = some a1 ∧ w.cell? ⟨b, 2, none⟩ = some a2 ∧ w.cell? ⟨b, 3, none⟩ = some a3 ∧ w.cell? ⟨b, 4, none⟩ = some a4 ∧ w.cell? ⟨b, 5, none⟩ = some a5 ∧ w.cell? ⟨b, 6, none⟩ = some a6 ∧ w.cell? ⟨b, 7, none⟩ = some a7 ∧ w.cell? ⟨b, 8, none⟩ = some a8 ∧ w.frozen? ⟨b, 0, none⟩ = false ∧ w.frozen? ⟨b, 1, none⟩ = false ∧ w.frozen? ⟨b, 2, none⟩ = false ∧ w.frozen? ⟨b, 3, none⟩ = false ∧ w.frozen? ⟨b, 4, none⟩ = false ∧ w.frozen? ⟨b, 5, none⟩ = false ∧ w.frozen? ⟨b, 6, none⟩ = false ∧ w.frozen? ⟨b, 7, none⟩ = false ∧ w.frozen? ⟨b, 8, none⟩ = false :=
 ⟨h.cell 0 rfl, h.cell 1 rfl, h.cell 2 rfl, h.cell 3 rfl, h.cell 4 rfl, h.cell 5 rfl, h.cell 6 rfl, h.cell 7 rfl, h.cell 8 rfl, h.free 0, h.free 1, h.free 2, h.free 3, h.free 4, h.free 5, h.free 6, h.free 7, h.free 8⟩
end Go.Px
namespace Go.Px.Co
/-- What the headers name: a row, a name, an iv. -/
inductive Nmd where
 | bad (e : Int)
 | ok (r : Row) (name iv : Bytes)
def nameM (mac : Bool) (h : Hdr) : Nmd :=
 match find h 1 with
 | none => .bad 9
 | some v =>
  if v.kind ≠ 0 then .bad 11
  else match row mac v.num with
   | none => .bad 11
   | some r =>
    if badName (find h 4) = true then .bad 9
    else if mac = true then .ok r (nameOf (find h 4)) []
    else match find h 5 with
     | none => .bad 9
     | some v => if v.kind ≠ 2 ∨ v.text.length ≠ r.iv then .bad 9 else .ok r (nameOf (find h 4)) v.text
theorem find_mem {h : Hdr} {n : Nat} {v : Atom} (e : find h n = some v) : ∃ p ∈ h, p.2 = v := by
 unfold find at e
 cases hf : h.find? (fun p => p.1 == ⟨0, n, []⟩) with
 | none => rw [hf] at e; cases e
 | some p =>
  rw [hf] at e
  exact ⟨p, List.mem_of_find?_eq_some hf, Option.some.inj e⟩
def Nmd.err : Nmd → Int
 | .bad e => e
 | .ok _ _ _ => 0
end Go.Px.Co
namespace Go.Proofs.YtddiabaagpmkgaaDoor
open Go.RowKit Go.Px Go.Px.E7 Go.Px.Co
def cRec (r : Rec) : List Value := [.int .i64 r.way, .int .i64 r.size, .int .i64 r.kind, S r.name, S r.key, S r.salt, .int .i64 r.rounds, S r.iv, S r.loose]
def envC (x : Env) (vto : Value) : Array Value := #[.int .i64 x.fmt, .int .i64 x.alg, vto, S x.header, S x.loose, S x.aad, S x.iv, S x.cipher, S x.tag]
def EnvB (w : World) (b : Nat) (x : Env) (vto : Value) : Prop := Blk w b (envC x vto) 27
theorem Lies.fr {α : Type} {w w' : World} {sz : Nat} {c : α → List Value} {v : Value} {l : List α} {F : Nat → Prop} (h : Lies w sz c v l) (hs : Fr F w w') (hn : ∀ k, v.ownBlock = some k → ¬ F k) : Lies w' sz c v l :=
 ⟨h.slice, fun j x hj => by
  obtain ⟨b, off, cap, h1, h2, h3⟩ := h.cell j x hj
  refine ⟨b, off, cap, h1, Nat.lt_of_lt_of_le h2 hs.size, fun i u hu => ?_⟩
  exact (hs.cell (p := ⟨b, off + (j * sz + i), none⟩) h2 (hn b (by rw [h1]; rfl))).trans (h3 i u hu)⟩
theorem blk_new_set (w : World) (p : Addr) (u : Value) (cs : Array Value) (T : TypeId) : Blk ((w.setCell p u).alloc (.cells cs T (0, 0))) w.heap.size cs T := by
 have e : (w.setCell p u).heap.size = w.heap.size := by simp [World.setCell]
 rw [← e]
 exact blk_new _ _ _
/-- The call's blocks, while the headers are asked. -/
structure NmS (w wx : World) (b : Nat) (x : Env) (vto : Value) (b6 g9 b10 : Nat) (a6 : Atom) (aa bb cc : Int) (rc : Rec) : Prop where
 fr : Fr (fun j => j = b) w wx
 env : EnvB wx b x vto
 b4 : Blk wx w.heap.size #[.int .i64 0, .int .i64 0, .int .i64 0] 67
 b6 : Blk wx b6 #[.int .i64 a6.kind, .int .u64 (a6.num : Nat), S a6.text] 62
 b9 : Blk wx g9 #[.int .i64 aa, .int .i64 bb, .int .i64 cc] 67
 b10 : Blk wx b10 (cRec rc).toArray 59
theorem NmS.same {w wx wy : World} {b : Nat} {x : Env} {vto : Value} {b6 g9 b10 : Nat} {a6 : Atom} {aa bb cc : Int} {rc : Rec} (h : NmS w wx b x vto b6 g9 b10 a6 aa bb cc rc) (hs : Same wx wy) : NmS w wy b x vto b6 g9 b10 a6 aa bb cc rc :=
 ⟨h.fr.trans hs (fun _ _ x => x.elim), Blk.fr h.env hs (fun x => x), h.b4.fr hs (fun x => x), h.b6.fr hs (fun x => x), h.b9.fr hs (fun x => x), h.b10.fr hs (fun x => x)⟩
theorem NmS.put6 {w wx : World} {b : Nat} {x : Env} {vto : Value} {b6 g9 b10 : Nat} {a6 a : Atom} {aa bb cc : Int} {rc : Rec} (h : NmS w wx b x vto b6 g9 b10 a6 aa bb cc rc) (n1 : b < w.heap.size) (n2 : w.heap.size < b6) (n3 : b6 < g9) (n4 : g9 < b10) :
  NmS w (((wx.setCell ⟨b6, 0, none⟩ (.int .i64 a.kind)).setCell ⟨b6, 1, none⟩ (.int .u64 (a.num : Nat))).setCell ⟨b6, 2, none⟩ (S a.text)) b x vto b6 g9 b10 a aa bb cc rc := by
 have o : ∀ {k : Nat} {cs : Array Value} {T : TypeId}, ¬ k = b6 → Blk wx k cs T → Blk (((wx.setCell ⟨b6, 0, none⟩ (.int .i64 a.kind)).setCell ⟨b6, 1, none⟩ (.int .u64 (a.num : Nat))).setCell ⟨b6, 2, none⟩ (S a.text)) k cs T := fun hne hk => ((hk.other _ hne).other _ hne).other _ hne
 have z := ((h.b6.set 0 (.int .i64 a.kind)).set 1 (.int .u64 (a.num : Nat))).set 2 (S a.text)
 exact ⟨((h.fr.setCell (.inr (by show _ ≤ b6; omega)) _).setCell (.inr (by show _ ≤ b6; omega)) _).setCell (.inr (by show _ ≤ b6; omega)) _, o (by omega) h.env, o (by omega) h.b4, by simpa using z, o (by omega) h.b9, o (by omega) h.b10⟩
theorem NmS.name {w wx : World} {b : Nat} {x : Env} {vto : Value} {b6 g9 b10 : Nat} {a6 : Atom} {aa bb cc : Int} {rc : Rec} (h : NmS w wx b x vto b6 g9 b10 a6 aa bb cc rc) (nm : Bytes) (n1 : b < w.heap.size) (n2 : w.heap.size < b6) (n3 : b6 < g9) (n4 : g9 < b10) :
  NmS w (wx.setCell ⟨b10, 3, none⟩ (S nm)) b x vto b6 g9 b10 a6 aa bb cc { rc with name := nm } := by
 have o : ∀ {k : Nat} {cs : Array Value} {T : TypeId}, ¬ k = b10 → Blk wx k cs T → Blk (wx.setCell ⟨b10, 3, none⟩ (S nm)) k cs T := fun hne hk => hk.other _ hne
 have z := h.b10.set 3 (S nm)
 exact ⟨h.fr.setCell (.inr (by show _ ≤ b10; omega)) _, o (by omega) h.env, o (by omega) h.b4, o (by omega) h.b6, o (by omega) h.b9, by simpa [cRec] using z⟩
/-- What is told of what the headers name. -/
def NamedP (b : Nat) (x : Env) (m : Nmd) (e : Ending) (w w' : World) : Prop :=
 ∃ k i t : Int, e = .returned (.tuple #[.agg #[.int .i64 k, .int .i64 i, .int .i64 t], .int .i64 m.err]) ∧ Fr (fun j => j = b) w w' ∧
  ∀ r name iv, m = .ok r name iv → i = (r.iv : Nat) ∧ t = (r.tag : Nat) ∧ ∃ g, w.heap.size ≤ g ∧ EnvB w' b { x with alg := r.alg, iv := if x.fmt = 6 then x.iv else iv } (.slice (some ⟨g, 0, none⟩) 1 1) ∧ Blk w' g (cRec (direct name)).toArray 59
def AlgAt (mac : Bool) (n : Nat) (wp : World) (t7 t8 t9 : Value) (wx : World) : Prop :=
 ∃ (k a b c : Int) (g : Nat), t8 = .int .i64 k ∧ t7 = .bool (row mac n).isSome ∧ t9 = .pointer (some ⟨g, 0, none⟩) ∧ (∀ r, row mac n = some r → k = r.alg ∧ a = (r.key : Int) ∧ b = (r.iv : Int) ∧ c = (r.tag : Int)) ∧ Same wp wx ∧ wp.heap.size ≤ g ∧ Blk wx g #[.int .i64 a, .int .i64 b, .int .i64 c] 67
theorem named_err {b : Nat} {x : Env} {m : Nmd} {er k i t : Int} {w w' : World} (h : m = .bad er) (hf : Fr (fun j => j = b) w w') : NamedP b x m (.returned (.tuple #[.agg #[.int .i64 k, .int .i64 i, .int .i64 t], .int .i64 er])) w w' := by
 subst h
 exact ⟨k, i, t, rfl, hf, nofun⟩
set_option maxRecDepth 100000 in
set_option maxHeartbeats 40000000 in
theorem named_any (b : Nat) (x : Env) (vto vh : Value) (mac : Bool) (h : Hdr) (w : World) (hx : EnvB w b x vto) (hfm : x.fmt = fmtOf mac) (hh : Lies w 7 cPair vh h) (hhb : vh.ownBlock ≠ some b) (hl : h.length ≤ 10000) (hn : ∀ p ∈ h, p.2.num < 18446744073709551616) :
  Calls Tryd.prog 40 #[.pointer (some ⟨b, 0, none⟩), vh] w fun e w' => NamedP b x (nameM mac h) e w w' := by
 obtain ⟨ha, hc, rfl, _, _⟩ := hh.slice
 have HG := Px.hid (show ∀ (n : Nat) (W : World), Fr (fun j => j = b) w W → Calls Tryd.prog 58 #[.slice ha h.length hc, .int .u64 (n : Nat)] W fun e w' => e = .returned (fndV (Co.find h n)) ∧ Same W w' from fun n W hW => get_any _ h n W (Lies.fr hh hW (fun k e x => hhb (by rw [← show k = b from x]; exact e))) hl)
 have HN := Px.hid hn
 have HX := Px.hid hx
 clear hh hn hx hhb
 have HM := Px.hid (show nameM mac h = match Co.find h 1 with
  | none => .bad 9
  | some v => if v.kind ≠ 0 then .bad 11 else match row mac v.num with
   | none => .bad 11
   | some r => if badName (Co.find h 4) = true then .bad 9 else if mac = true then .ok r (nameOf (Co.find h 4)) [] else match Co.find h 5 with
    | none => .bad 9
    | some v => if v.kind ≠ 2 ∨ v.text.length ≠ r.iv then .bad 9 else .ok r (nameOf (Co.find h 4)) v.text from rfl)
 go_enter Tryd.func40, Tryd.ntmps40
 go_wp2_with fail
 refine (HG.out 1 _ (Fr.alloc (Fr.refl _ w) _)).mono ?_
 rintro e w1 ⟨rfl, hs⟩
 have HS := Px.hid (show Same w w1 from Fr.trans (Fr.alloc (Fr.refl _ w) _) hs (fun _ _ x => x))
 have h4 := Blk.fr (blk_new w #[.int .i64 0, .int .i64 0, .int .i64 0] 67) hs (fun x => x)
 have H4 := Px.hid h4
 have hxl := HX.out.lt
 have hwl : w.heap.size < w1.heap.size := h4.lt
 obtain ⟨s0, s1, s2, g0, g1, g2⟩ := blk3 h4
 clear hs h4
 obtain ⟨o1, ho1⟩ : ∃ o, o = Co.find h 1 := ⟨_, rfl⟩
 rw [← ho1] at HM ⊢
 have HO1 := Px.hid ho1
 clear ho1
 cases o1 with
 | none =>
  rw [show fndV none = .tuple #[.agg #[.int .i64 0, .int .u64 0, S []], .bool false] from rfl]
  go_wp2
  refine bodyPost_ret (v := .tuple #[.agg #[.int .i64 0, .int .i64 0, .int .i64 0], .int .i64 9]) (by simp [results, Tryd.results40, go_sem, *]) rfl (named_err HM.out ?_)
  repeat' first
   | exact HS.out.fr _
   | refine Fr.drew ?_
   | refine Fr.alloc ?_ _
   | refine Fr.setCell ?_ (.inr (by simp)) _
 | some v =>
  rw [show fndV (some v) = .tuple #[.agg #[.int .i64 v.kind, .int .u64 (v.num : Nat), S v.text], .bool true] from rfl]
  by_cases hk : v.kind = 0
  ·obtain ⟨k, n, t⟩ := v
   simp only at hk
   subst hk
   have hnb : n < 18446744073709551616 := by
    obtain ⟨p, hp, e⟩ := find_mem HO1.out.symm
    have := HN.out p hp
    rw [e] at this
    exact this
   have HR := Px.hid (fun W => alg_any mac n W hnb)
   have HM2 := Px.hid (show nameM mac h = match row mac n with
    | none => .bad 11
    | some r => if badName (Co.find h 4) = true then .bad 9 else if mac = true then .ok r (nameOf (Co.find h 4)) [] else match Co.find h 5 with
     | none => .bad 9
     | some v => if v.kind ≠ 2 ∨ v.text.length ≠ r.iv then .bad 9 else .ok r (nameOf (Co.find h 4)) v.text from HM.out)
   clear HM HN HO1
   go_upto_region 6 with fail
   obtain ⟨wp, hwp⟩ : ∃ wp : World, wp = w1.alloc (.cells #[.int .i64 0, .int .u64 (n : Nat), S t] 62) := ⟨_, rfl⟩
   rw [← hwp]
   have hsp : Same w wp := by rw [hwp]; exact Fr.alloc HS.out _
   have h6 : Blk wp w1.heap.size #[.int .i64 0, .int .u64 (n : Nat), S t] 62 := by rw [hwp]; exact blk_new w1 _ _
   have h4 : Blk wp w.heap.size #[.int .i64 0, .int .i64 0, .int .i64 0] 67 := by rw [hwp]; exact Blk.alloc H4.out _
   have hxp : EnvB wp b x vto := Blk.fr HX.out hsp (fun x => x)
   obtain ⟨c0, c1, c2, c3, c4, c5, c6, c7, c8, d0, d1, d2, d3, d4, d5, d6, d7, d8⟩ := blk9 hxp
   rw [hfm] at c0
   obtain ⟨k0, k1, k2, l0, l1, l2⟩ := blk3 h6
   have HP := Px.hid (And.intro hsp (And.intro h6 (And.intro h4 hxp)))
   have hbl : b < wp.heap.size := hxp.lt
   have h6l : w1.heap.size < wp.heap.size := h6.lt
   clear hwp hsp h6 h4 hxp s0 s1 s2 g0 g1 g2 H4 HS
   go_cut [7, 8, 9] (fun t7 t8 t9 wx => AlgAt mac n wp t7 t8 t9 wx)
   case first =>
    go_region_with (go_at_call 59; refine (HR.out _).mono ?_; rintro e wa ⟨k, aa, bb, cc, rfl, hr, hs⟩; have HA := Px.hid (And.intro hr hs); try (have hz : Blk wa wp.heap.size #[.int .i64 0, .int .i64 0, .int .i64 0] 67 := (by first | exact Blk.fr (blk_new wp.drew #[.int .i64 0, .int .i64 0, .int .i64 0] 67) hs (fun x => x) | exact Blk.fr (Blk.drew (blk_new wp #[.int .i64 0, .int .i64 0, .int .i64 0] 67)) hs (fun x => x)); have HZ := Px.hid hz; obtain ⟨z0, z1, z2, y0, y1, y2⟩ := blk3 hz; have hzl := hz.lt; clear hz); clear hr hs)
    all_goals
     go_wp2_with fail
     go_meet
     first
      | exact ⟨k, aa, bb, cc, wp.heap.size, rfl, rfl, rfl, HA.out.1, Fr.setCell (Fr.setCell (Fr.setCell (Same.trans (Fr.alloc (Fr.drew (Fr.refl _ wp)) _) HA.out.2) (.inr (Nat.le_refl _)) _) (.inr (Nat.le_refl _)) _) (.inr (Nat.le_refl _)) _, Nat.le_refl _, by have z := ((HZ.out.set 0 (.int .i64 aa)).set 1 (.int .i64 bb)).set 2 (.int .i64 cc); simpa using z⟩
      | exact ⟨k, aa, bb, cc, wa.heap.size, rfl, rfl, rfl, HA.out.1, Fr.alloc (Same.trans (Fr.drew (Fr.refl _ wp)) HA.out.2) _, HA.out.2.size, blk_new wa _ _⟩
   case rest =>
    obtain ⟨k, aa, bb, cc, g9, rfl, rfl, rfl, hrow, hsw, hg9, hb9⟩ := hcut
    obtain ⟨hsp, h6, h4, hxp⟩ := HP.out
    have HS := Px.hid (And.intro (hsp.trans hsw) (And.intro (h6.fr hsw (fun x => x)) (And.intro (h4.fr hsw (fun x => x)) (And.intro (Blk.fr hxp hsw (fun x => x)) hb9))))
    have n9 : g9 < wc.heap.size := hb9.lt
    have n69 : w1.heap.size < g9 := by omega
    clear hsp h6 h4 hxp hsw hb9 c0 c1 c2 c3 c4 c5 c6 c7 c8 d0 d1 d2 d3 d4 d5 d6 d7 d8 k0 k1 k2 l0 l1 l2 HP HR
    obtain ⟨hfr, h6, h4, hxp, hb9⟩ := HS.out
    obtain ⟨c0, c1, c2, c3, c4, c5, c6, c7, c8, d0, d1, d2, d3, d4, d5, d6, d7, d8⟩ := blk9 hxp
    obtain ⟨s0, s1, s2, g0, g1, g2⟩ := blk3 h4
    obtain ⟨z0, z1, z2, y0, y1, y2⟩ := blk3 hb9
    obtain ⟨k0, k1, k2, l0, l1, l2⟩ := blk3 h6
    have hbc : b < wc.heap.size := hxp.lt
    have h6l2 : w1.heap.size < wc.heap.size := h6.lt
    clear hfr h6 h4 hxp hb9
    obtain ⟨o, ho⟩ : ∃ o, o = row mac n := ⟨_, rfl⟩
    rw [← ho] at hrow HM2 ⊢
    clear ho
    cases o with
    | none =>
     have HE : Hid (nameM mac h = .bad 11) := Px.hid HM2.out
     clear HM2
     go_wp2
     refine bodyPost_ret (v := .tuple #[.agg #[.int .i64 aa, .int .i64 bb, .int .i64 cc], .int .i64 11]) (by simp [results, Tryd.results40, go_sem, *]) rfl (named_err HE.out ?_)
     repeat' first
      | exact HS.out.1.fr _
      | refine Fr.drew ?_
      | refine Fr.alloc ?_ _
      | refine Fr.setCell ?_ (.inr (by simp)) _
    | some r =>
     obtain ⟨rfl, rfl, rfl, rfl⟩ := hrow r rfl
     have HM : Hid (nameM mac h = if badName (Co.find h 4) = true then .bad 9 else if mac = true then .ok r (nameOf (Co.find h 4)) [] else match Co.find h 5 with
      | none => .bad 9
      | some v => if v.kind ≠ 2 ∨ v.text.length ≠ r.iv then .bad 9 else .ok r (nameOf (Co.find h 4)) v.text) := Px.hid HM2.out
     clear HM2 hrow
     obtain ⟨wd, rfl⟩ : ∃ wd : World, wd = wc := ⟨_, rfl⟩
     obtain ⟨o4, ho4⟩ : ∃ o4, o4 = Co.find h 4 := ⟨_, rfl⟩
     rw [← ho4] at HM
     have HO4 := Px.hid ho4
     clear ho4
     go_upto_region 11 with fail
     have hne : ¬ b = w.heap.size := by omega
     go_cut [7] (fun t7 wx => t7 = .bool o4.isSome ∧ NmS w wx b { x with alg := r.alg } vto w1.heap.size g9 wd.heap.size (o4.getD za) (r.key : Int) (r.iv : Int) (r.tag : Int) (direct []))
     case first =>
      go_wp2_with fail
      refine (HG.out 4 _ (Fr.alloc (Fr.setCell (F := fun j => j = b) (p := ⟨b, 1, none⟩) (HS.out.1.fr _) (.inl rfl) _) _)).mono ?_
      rintro e w2 ⟨rfl, hs⟩
      have hN : NmS w w2 b { x with alg := r.alg } vto w1.heap.size g9 wd.heap.size ⟨0, n, t⟩ (r.key : Int) (r.iv : Int) (r.tag : Int) (direct []) := by
       obtain ⟨q1, q2, q3, q4, q5⟩ := HS.out
       refine NmS.same ⟨Fr.alloc (Fr.setCell (F := fun j => j = b) (p := ⟨b, 1, none⟩) (q1.fr _) (.inl rfl) _) _, ?_, (q3.other _ (by show ¬ _ = b; omega)).alloc _, (q2.other _ (by show ¬ _ = b; omega)).alloc _, (q5.other _ (by show ¬ _ = b; omega)).alloc _, blk_new_set wd _ _ _ _⟩ hs
       have z := (Blk.set q4 1 (.int .i64 r.alg)).alloc (.cells (cRec (direct [])).toArray 59 (0, 0))
       simpa [envC, EnvB] using z
      have HN := Px.hid hN
      obtain ⟨k0, k1, k2, l0, l1, l2⟩ := blk3 hN.b6
      clear hN hs c0 c1 c2 c3 c4 c5 c6 c7 c8 d0 d1 d2 d3 d4 d5 d6 d7 d8 s0 s1 s2 g0 g1 g2 z0 z1 z2 y0 y1 y2 HS
      rw [← HO4.out]
      clear HO4 HM HG
      cases o4 with
      | none =>
       rw [show fndV none = .tuple #[.agg #[.int .i64 0, .int .u64 0, S []], .bool false] from rfl]
       go_wp2_with fail
       go_meet
       exact ⟨rfl, HN.out.put6 (a := za) (by omega) (by omega) (by omega) (by omega)⟩
      | some a =>
       rw [show fndV (some a) = .tuple #[.agg #[.int .i64 a.kind, .int .u64 (a.num : Nat), S a.text], .bool true] from rfl]
       go_wp2_with fail
       go_meet
       exact ⟨rfl, HN.out.put6 (a := a) (by omega) (by omega) (by omega) (by omega)⟩
     case rest =>
      obtain ⟨rfl, hN⟩ := hcut
      have HN := Px.hid hN
      clear hN c0 c1 c2 c3 c4 c5 c6 c7 c8 d0 d1 d2 d3 d4 d5 d6 d7 d8 s0 s1 s2 g0 g1 g2 z0 z1 z2 y0 y1 y2 k0 k1 k2 l0 l1 l2 HS
      obtain ⟨k0, k1, k2, l0, l1, l2⟩ := blk3 HN.out.b6
      obtain ⟨s0, s1, s2, g0, g1, g2⟩ := blk3 HN.out.b4
      obtain ⟨z0, z1, z2, y0, y1, y2⟩ := blk3 HN.out.b9
      obtain ⟨c0, c1, c2, c3, c4, c5, c6, c7, c8, d0, d1, d2, d3, d4, d5, d6, d7, d8⟩ := blk9 (show Blk wc wd.heap.size #[.int .i64 1, .int .i64 0, .int .i64 0, S [], S [], S [], .int .i64 0, S [], S []] 59 from HN.out.b10)
      have n10 : wd.heap.size < wc.heap.size := HN.out.b10.lt
      have n9' : g9 < wc.heap.size := by omega
      have n6' : w1.heap.size < wc.heap.size := by omega
      have n4' : w.heap.size < wc.heap.size := by omega
      go_upto_if 47 with fail
      go_cut [] (fun wx => badName o4 = false ∧ NmS w wx b { x with alg := r.alg } vto w1.heap.size g9 wd.heap.size (o4.getD za) (r.key : Int) (r.iv : Int) (r.tag : Int) (direct (nameOf o4)))
      case first =>
       cases o4 with
       | none =>
        go_wp2_with fail
        go_meet
        exact ⟨rfl, HN.out⟩
       | some a =>
        obtain ⟨ak, an, at'⟩ := a
        by_cases hk2 : ak = 2
        ·subst hk2
         by_cases ht0 : at' = []
         ·subst ht0
          have HE := Px.hid (show nameM mac h = .bad 9 by rw [HM.out, if_pos (by rfl)])
          go_wp2
          refine bodyPost_ret (v := .tuple #[.agg #[.int .i64 (r.key : Nat), .int .i64 (r.iv : Nat), .int .i64 (r.tag : Nat)], .int .i64 9]) (by simp [results, Tryd.results40, go_sem, *]) rfl (named_err HE.out ?_)
          repeat' first
           | exact HN.out.fr
           | refine Fr.drew ?_
           | refine Fr.alloc ?_ _
           | refine Fr.setCell ?_ (.inr (by dsimp only; omega)) _
         ·have hte : at'.isEmpty = false := by simpa using ht0
          by_cases hlt : 128 < at'.length
          ·have hlz : (128 : Int) < (at'.length : Int) := by omega
           have HE := Px.hid (show nameM mac h = .bad 9 by rw [HM.out, if_pos (by unfold badName; simp [hlt])])
           clear hlt
           go_wp2
           refine bodyPost_ret (v := .tuple #[.agg #[.int .i64 (r.key : Nat), .int .i64 (r.iv : Nat), .int .i64 (r.tag : Nat)], .int .i64 9]) (by simp [results, Tryd.results40, go_sem, *]) rfl (named_err HE.out ?_)
           repeat' first
            | exact HN.out.fr
            | refine Fr.drew ?_
            | refine Fr.alloc ?_ _
            | refine Fr.setCell ?_ (.inr (by dsimp only; omega)) _
          ·have hlz : ¬ (128 : Int) < (at'.length : Int) := by omega
           have HE := Px.hid (show badName (some (⟨2, an, at'⟩ : Atom)) = false by unfold badName; simp [ht0]; omega)
           clear hlt
           go_wp2_with fail
           go_meet
           exact ⟨HE.out, HN.out.name at' (by omega) (by omega) (by omega) (by omega)⟩
        ·have HE := Px.hid (show nameM mac h = .bad 9 by rw [HM.out, if_pos (by unfold badName; simp [hk2])])
         have hkz : ¬ ak = 2 := hk2
         go_wp2
         refine bodyPost_ret (v := .tuple #[.agg #[.int .i64 (r.key : Nat), .int .i64 (r.iv : Nat), .int .i64 (r.tag : Nat)], .int .i64 9]) (by simp [results, Tryd.results40, go_sem, *]) rfl (named_err HE.out ?_)
         repeat' first
          | exact HN.out.fr
          | refine Fr.drew ?_
          | refine Fr.alloc ?_ _
          | refine Fr.setCell ?_ (.inr (by dsimp only; omega)) _
      case rest =>
       obtain ⟨hbn, hN⟩ := hcut
       have HN := Px.hid hN
       have HM : Hid (nameM mac h = if mac = true then .ok r (nameOf o4) [] else match Co.find h 5 with
        | none => .bad 9
        | some v => if v.kind ≠ 2 ∨ v.text.length ≠ r.iv then .bad 9 else .ok r (nameOf o4) v.text) := Px.hid (by rw [HM.out, if_neg (by rw [hbn]; decide)])
       clear hN hbn c0 c1 c2 c3 c4 c5 c6 c7 c8 d0 d1 d2 d3 d4 d5 d6 d7 d8 k0 k1 k2 l0 l1 l2 s0 s1 s2 g0 g1 g2 z0 z1 z2 y0 y1 y2 n10 n9' n6' n4'
       obtain ⟨we, rfl⟩ : ∃ we : World, we = wc := ⟨_, rfl⟩
       obtain ⟨nm, hnm⟩ : ∃ nm, nm = nameOf o4 := ⟨_, rfl⟩
       rw [← hnm] at HM HN
       obtain ⟨a6, ha6⟩ : ∃ a6, a6 = o4.getD za := ⟨_, rfl⟩
       rw [← ha6] at HN
       clear hnm ha6
       obtain ⟨c0, c1, c2, c3, c4, c5, c6, c7, c8, d0, d1, d2, d3, d4, d5, d6, d7, d8⟩ := blk9 (show Blk we wd.heap.size #[.int .i64 1, .int .i64 0, .int .i64 0, S nm, S [], S [], .int .i64 0, S [], S []] 59 from HN.out.b10)
       obtain ⟨e0, e1, e2, e3, e4, e5, e6, e7, e8, f0, f1, f2, f3, f4, f5, f6, f7, f8⟩ := blk9 (show Blk we b #[.int .i64 x.fmt, .int .i64 r.alg, vto, S x.header, S x.loose, S x.aad, S x.iv, S x.cipher, S x.tag] 27 from HN.out.env)
       have nb : b < we.heap.size := HN.out.env.lt
       have n10 : wd.heap.size < we.heap.size := HN.out.b10.lt
       have n9' : g9 < we.heap.size := HN.out.b9.lt
       have n6' : w1.heap.size < we.heap.size := HN.out.b6.lt
       have n4' : w.heap.size < we.heap.size := HN.out.b4.lt
       go_upto_region 16 with fail
       go_cut [] (fun wx => NmS w wx b { x with alg := r.alg } (.slice (some ⟨we.heap.size, 0, none⟩) 1 1) w1.heap.size g9 we.heap.size a6 (r.key : Int) (r.iv : Int) (r.tag : Int) (direct nm))
       case first =>
        go_wp2_with fail
        go_meet
        have q := HN.out
        have z := (Blk.set q.env 2 (.slice (some ⟨we.heap.size, 0, none⟩) 1 1)).alloc (.cells (cRec (direct nm)).toArray 59 (0, 0))
        refine ⟨Fr.alloc (Fr.setCell (F := fun j => j = b) (p := ⟨b, 2, none⟩) q.fr (.inl rfl) _) _, ?_, (q.b4.other _ (by show ¬ _ = b; omega)).alloc _, (q.b6.other _ (by show ¬ _ = b; omega)).alloc _, (q.b9.other _ (by show ¬ _ = b; omega)).alloc _, blk_new_set we _ _ _ _⟩
        simpa [envC, EnvB, cRec, direct] using z
       case rest =>
        have HN := Px.hid hcut
        clear hcut c0 c1 c2 c3 c4 c5 c6 c7 c8 d0 d1 d2 d3 d4 d5 d6 d7 d8 e0 e1 e2 e3 e4 e5 e6 e7 e8 f0 f1 f2 f3 f4 f5 f6 f7 f8
        obtain ⟨e0, e1, e2, e3, e4, e5, e6, e7, e8, f0, f1, f2, f3, f4, f5, f6, f7, f8⟩ := blk9 (show Blk wc b #[.int .i64 x.fmt, .int .i64 r.alg, _, S x.header, S x.loose, S x.aad, S x.iv, S x.cipher, S x.tag] 27 from HN.out.env)
        rw [hfm] at e0
        have m1 : b < wc.heap.size := HN.out.env.lt
        have m4 : w.heap.size < wc.heap.size := HN.out.b4.lt
        have m6 : w1.heap.size < wc.heap.size := HN.out.b6.lt
        have m9 : g9 < wc.heap.size := HN.out.b9.lt
        have m10 : we.heap.size < wc.heap.size := HN.out.b10.lt
        cases mac with
        | true =>
         obtain ⟨s0, s1, s2, g0, g1, g2⟩ := blk3 HN.out.b4
         obtain ⟨z0, z1, z2, y0, y1, y2⟩ := blk3 HN.out.b9
         have HE : Hid (nameM true h = .ok r nm []) := Px.hid (by rw [HM.out, if_pos rfl])
         have HI := Px.hid hfm
         rw [show fmtOf true = 6 from rfl] at e0
         clear HM HG
         go_wp2
         refine bodyPost_ret (v := .tuple #[.agg #[.int .i64 (r.key : Nat), .int .i64 (r.iv : Nat), .int .i64 (r.tag : Nat)], .int .i64 0]) (by simp [results, Tryd.results40, go_sem, *]) rfl ⟨_, _, _, by rw [HE.out]; rfl, ?_, fun r2 nm2 iv2 e => ?_⟩
         ·repeat' first
           | refine Fr.setCell ?_ (.inr (by dsimp only; omega)) _
           | refine Fr.setCell ?_ (.inl rfl) _
           | refine Fr.alloc ?_ _
           | refine Fr.drew ?_
           | exact HN.out.fr
         ·rw [HE.out] at e
          cases e
          have o : ∀ {k : Nat} {cs : Array Value} {T : TypeId}, ¬ k = w.heap.size → Blk wc k cs T → Blk (((wc.setCell ⟨w.heap.size, 0, none⟩ (.int .i64 (r.key : Nat))).setCell ⟨w.heap.size, 1, none⟩ (.int .i64 (r.iv : Nat))).setCell ⟨w.heap.size, 2, none⟩ (.int .i64 (r.tag : Nat))) k cs T := fun hne hk => ((hk.other _ hne).other _ hne).other _ hne
          refine ⟨rfl, rfl, we.heap.size, by omega, ?_, o (by omega) HN.out.b10⟩
          have z := o (by omega) HN.out.env
          rw [if_pos (by rw [HI.out]; rfl)]
          exact z
        | false =>
         rw [show fmtOf false = 5 from rfl] at e0
         have HI := Px.hid hfm
         have HM : Hid (nameM false h = match Co.find h 5 with
          | none => .bad 9
          | some v => if v.kind ≠ 2 ∨ v.text.length ≠ r.iv then .bad 9 else .ok r nm v.text) := Px.hid (by rw [HM.out, if_neg (by decide)])
         go_wp2_with fail
         refine (HG.out 5 _ HN.out.fr).mono ?_
         rintro e w5 ⟨rfl, hs⟩
         have HN := Px.hid (HN.out.same hs)
         clear hs e0 e1 e2 e3 e4 e5 e6 e7 e8 f0 f1 f2 f3 f4 f5 f6 f7 f8 m1 m4 m6 m9 m10 HG
         obtain ⟨e0, e1, e2, e3, e4, e5, e6, e7, e8, f0, f1, f2, f3, f4, f5, f6, f7, f8⟩ := blk9 (show Blk w5 b #[.int .i64 x.fmt, .int .i64 r.alg, _, S x.header, S x.loose, S x.aad, S x.iv, S x.cipher, S x.tag] 27 from HN.out.env)
         obtain ⟨k0, k1, k2, l0, l1, l2⟩ := blk3 HN.out.b6
         obtain ⟨s0, s1, s2, g0, g1, g2⟩ := blk3 HN.out.b4
         obtain ⟨z0, z1, z2, y0, y1, y2⟩ := blk3 HN.out.b9
         have m1 : b < w5.heap.size := HN.out.env.lt
         have m4 : w.heap.size < w5.heap.size := HN.out.b4.lt
         have m6 : w1.heap.size < w5.heap.size := HN.out.b6.lt
         have m9 : g9 < w5.heap.size := HN.out.b9.lt
         have m10 : we.heap.size < w5.heap.size := HN.out.b10.lt
         obtain ⟨o5, ho5⟩ : ∃ o5, o5 = Co.find h 5 := ⟨_, rfl⟩
         rw [← ho5] at HM ⊢
         clear ho5
         cases o5 with
         | none =>
          rw [show fndV none = .tuple #[.agg #[.int .i64 0, .int .u64 0, S []], .bool false] from rfl]
          have HE : Hid (nameM false h = .bad 9) := Px.hid HM.out
          go_wp2
          refine bodyPost_ret (v := .tuple #[.agg #[.int .i64 (r.key : Nat), .int .i64 (r.iv : Nat), .int .i64 (r.tag : Nat)], .int .i64 9]) (by simp [results, Tryd.results40, go_sem, *]) rfl (named_err HE.out ?_)
          repeat' first
           | refine Fr.setCell ?_ (.inr (by dsimp only; omega)) _
           | refine Fr.setCell ?_ (.inl rfl) _
           | refine Fr.alloc ?_ _
           | refine Fr.drew ?_
           | exact HN.out.fr
         | some v =>
          obtain ⟨vk, vn, vt⟩ := v
          rw [show fndV (some (⟨vk, vn, vt⟩ : Atom)) = .tuple #[.agg #[.int .i64 vk, .int .u64 (vn : Nat), S vt], .bool true] from rfl]
          have HM : Hid (nameM false h = if vk ≠ 2 ∨ vt.length ≠ r.iv then .bad 9 else .ok r nm vt) := Px.hid HM.out
          by_cases hk2 : vk = 2
          ·subst hk2
           by_cases hli : vt.length = r.iv
           ·have hlz : (vt.length : Int) = (r.iv : Int) := by omega
            have HE : Hid (nameM false h = .ok r nm vt) := Px.hid (by rw [HM.out, if_neg (by rintro (e | e); exact e rfl; exact e hli)])
            clear hli
            go_wp2
            refine bodyPost_ret (v := .tuple #[.agg #[.int .i64 (r.key : Nat), .int .i64 (r.iv : Nat), .int .i64 (r.tag : Nat)], .int .i64 0]) (by simp [results, Tryd.results40, go_sem, *]) rfl ⟨_, _, _, by rw [HE.out]; rfl, ?_, fun r2 nm2 iv2 e => ?_⟩
            ·repeat' first
              | refine Fr.setCell ?_ (.inr (by dsimp only; omega)) _
              | refine Fr.setCell (F := fun j => j = b) (p := ⟨b, 6, none⟩) ?_ (.inl rfl) _
              | exact HN.out.fr
            ·rw [HE.out] at e
             cases e
             have z := HN.out.put6 (a := ⟨2, vn, vt⟩) (by omega) (by omega) (by omega) (by omega)
             have ze := Blk.set z.env 6 (S vt)
             have zr := z.b10.other (p := ⟨b, 6, none⟩) (S vt) (by show ¬ _ = b; omega)
             refine ⟨rfl, rfl, we.heap.size, by omega, ?_, ((zr.other _ (by show ¬ _ = w.heap.size; omega)).other _ (by show ¬ _ = w.heap.size; omega)).other _ (by show ¬ _ = w.heap.size; omega)⟩
             have zf := ((ze.other (p := ⟨w.heap.size, 0, none⟩) (.int .i64 (r.key : Nat)) (by show ¬ b = _; omega)).other (p := ⟨w.heap.size, 1, none⟩) (.int .i64 (r.iv : Nat)) (by show ¬ b = _; omega)).other (p := ⟨w.heap.size, 2, none⟩) (.int .i64 (r.tag : Nat)) (by show ¬ b = _; omega)
             rw [if_neg (by rw [HI.out]; decide)]
             simpa [envC, EnvB] using zf
           ·have hlz : ¬ (vt.length : Int) = (r.iv : Int) := by omega
            have HE : Hid (nameM false h = .bad 9) := Px.hid (by rw [HM.out, if_pos (.inr hli)])
            clear hli
            go_wp2
            refine bodyPost_ret (v := .tuple #[.agg #[.int .i64 (r.key : Nat), .int .i64 (r.iv : Nat), .int .i64 (r.tag : Nat)], .int .i64 9]) (by simp [results, Tryd.results40, go_sem, *]) rfl (named_err HE.out ?_)
            repeat' first
             | refine Fr.setCell ?_ (.inr (by dsimp only; omega)) _
             | refine Fr.setCell ?_ (.inl rfl) _
             | refine Fr.alloc ?_ _
             | refine Fr.drew ?_
             | exact HN.out.fr
          ·have hkz : ¬ vk = 2 := hk2
           have HE : Hid (nameM false h = .bad 9) := Px.hid (by rw [HM.out, if_pos (.inl hk2)])
           go_wp2
           refine bodyPost_ret (v := .tuple #[.agg #[.int .i64 (r.key : Nat), .int .i64 (r.iv : Nat), .int .i64 (r.tag : Nat)], .int .i64 9]) (by simp [results, Tryd.results40, go_sem, *]) rfl (named_err HE.out ?_)
           repeat' first
            | refine Fr.setCell ?_ (.inr (by dsimp only; omega)) _
            | refine Fr.setCell ?_ (.inl rfl) _
            | refine Fr.alloc ?_ _
            | refine Fr.drew ?_
            | exact HN.out.fr
  ·have HE := Px.hid (show nameM mac h = .bad 11 by rw [HM.out]; show (if v.kind ≠ 0 then _ else _) = _; rw [if_pos hk])
   have hkz : ¬ v.kind = 0 := hk
   go_wp2
   refine bodyPost_ret (v := .tuple #[.agg #[.int .i64 0, .int .i64 0, .int .i64 0], .int .i64 11]) (by simp [results, Tryd.results40, go_sem, *]) rfl (named_err HE.out ?_)
   repeat' first
    | exact HS.out.fr _
    | refine Fr.drew ?_
    | refine Fr.alloc ?_ _
    | refine Fr.setCell ?_ (.inr (by simp)) _
end Go.Proofs.YtddiabaagpmkgaaDoor
