/-
  The reference's element, whole (layer 15).
-/
import Derived.Test.YtceffhkgnifmeaaDoorRiV
namespace Go.Proofs.YtceffhkgnifmeaaDoor
open Go.RowKit Go.Px Go.Px.R5

theorem rlen_facts {s : Bytes} {lim : Lim} {x y z : St} {p n q : Nat} (hok : D5.Ok s lim x p) (hv : R5.want s lim x p = (true, y)) (h : R5.length s lim y (p + 1) = (some (n, q), z)) :
    q ≤ s.length ∧ (q : Int) ≤ lim.b ∧ n < 4294967296 := by
  have ht : y.taken = p + 1 := by
    rw [rwant_true_eq hv]
    unfold take
    simp only
    rw [hok.taken, Nat.max_eq_right (Nat.le_succ p)]
  have := D5.length_eq (s := s) (lim := lim) ht
  rw [h] at this
  obtain ⟨_, _, h1, h2, _, h3⟩ := this
  exact ⟨h1, h2, h3⟩
theorem elem_bad (s : Bytes) (lim : Lim) (hs : s.length ≤ 140737488355327) (hm : lim.may = true) (b p dp : Nat) (e : Option Nat) (room : Bool) (hr1 : room = false → lim.d ≤ (dp : Int)) (hr2 : room = true → ¬ lim.d ≤ (dp : Int)) (x : St) (vo : Value) (w : World) (h : RdRep w b s lim x vo) (hok : D5.Ok s lim x p) (z : St) (hh : R5.head s lim room x p e = (none, z)) :
    Calls Tryd.prog 45 #[.pointer (some ⟨b, 0, none⟩), .int .i64 (p : Nat), .int .i64 (dp : Nat), .int .i64 (endI e)] w fun r w' => r = .returned (itemV none) ∧ Did w b s lim (rfoot b vo) z w' := by
  have hmay := E5.may_of hm
  rcases rhead_bad hh with hv | ⟨y, hv, ⟨hi, rfl⟩ | ⟨hi, ⟨ht, rfl⟩ | ⟨ht, ⟨hin, hrm, rfl⟩ | ⟨hrm, hl | ⟨n, q, u, v, hl, hev, hlt, rfl⟩⟩⟩⟩⟩
  · exact el_want s lim hs hm b p dp _ x vo w h hok z hv
  · exact el_full s lim hs hm b p dp _ x vo w h hok y hv hi
  · exact el_tag s lim hs hm b p dp _ x vo w h hok y hv hi ht
  · exact el_deep s lim hs hm b p dp _ x vo w h hok y hv hi ht hin (hr1 hrm)
  · cases hin : inner (s.getD p 0).toNat with
    | true => exact el_len_t s lim hs hm b p dp _ x vo w h hok y hv hi ht hin (hr2 (hrm hin)) z hl
    | false => exact el_len_f s lim hs hm b p dp _ x vo w h hok y hv hi ht hin z hl
  · subst hev
    obtain ⟨f1, f2, f3⟩ := rlen_facts hok hv hl
    cases hin : inner (s.getD p 0).toNat with
    | true => exact el_end_t s lim hs hm b p dp _ x vo w h hok y hv hi ht hin (hr2 (hrm hin)) n q u hl ⟨by omega, f3⟩ (show (0 : Int) ≤ (v : Int) by omega) (show (v : Int) < (q : Int) + n by omega)
    | false => exact el_end_f s lim hs hm b p dp _ x vo w h hok y hv hi ht hin n q u hl ⟨by omega, f3⟩ (show (0 : Int) ≤ (v : Int) by omega) (show (v : Int) < (q : Int) + n by omega)
theorem end_ok {e : Option Nat} {n q : Nat} (he : ∀ v, e = some v → q + n ≤ v) : ¬ 0 ≤ endI e ∨ (0 ≤ endI e ∧ ¬ endI e < (q : Int) + n) := by
  cases e with
  | none => left; show ¬ (0 : Int) ≤ -1; omega
  | some v => right; have := he v rfl; show (0 : Int) ≤ (v : Int) ∧ ¬ (v : Int) < (q : Int) + n; constructor <;> omega
theorem elem_leaf (s : Bytes) (lim : Lim) (hs : s.length ≤ 140737488355327) (hm : lim.may = true) (b p dp : Nat) (e : Option Nat) (room : Bool) (x : St) (vo : Value) (w : World) (h : RdRep w b s lim x vo) (hok : D5.Ok s lim x p) (n q : Nat) (z : St) (hh : R5.head s lim room x p e = (some (n, q), z)) (hin : inner (s.getD p 0).toNat = false) :
    Calls Tryd.prog 45 #[.pointer (some ⟨b, 0, none⟩), .int .i64 (p : Nat), .int .i64 (dp : Nat), .int .i64 (endI e)] w fun r w' => r = .returned (itemV (R5.leaf s lim z (s.getD p 0) p q n).1) ∧ Did w b s lim (rfoot b vo) (R5.leaf s lim z (s.getD p 0) p q n).2 w' := by
  have hmay := E5.may_of hm
  obtain ⟨y, hv, hi, ht, _, hl, he⟩ := rhead_ok hh
  obtain ⟨f1, f2, f3⟩ := rlen_facts hok hv hl
  have hE := end_ok he
  unfold R5.leaf
  cases ha : (if n = 0 then (true, z) else R5.want s lim z (q + n - 1)) with
  | mk bv u =>
    cases bv with
    | false => exact el_all s lim hs hm b p dp _ x vo w h hok y hv hi ht hin n q z hl ⟨by omega, f3, f1⟩ hE u ha
    | true =>
      simp only
      cases hbd : R5.body (s.getD p 0).toNat ((s.take (q + n)).drop q) with
      | false =>
        rw [if_neg (by simp)]
        exact el_body s lim hs hm b p dp _ x vo w h hok y hv hi ht hin n q z hl ⟨by omega, f3, f1⟩ hE u ha hbd
      | true =>
        rw [if_pos rfl]
        exact el_leaf s lim hs hm b p dp _ x vo w h hok y hv hi ht hin n q z hl ⟨by omega, f3, f1⟩ hE u ha hbd
theorem elem_any (s : Bytes) (lim : Lim) (hs : s.length ≤ 140737488355327) (hm : lim.may = true) : ∀ d, ElemC s lim d := by
  intro d
  induction d with
  | zero =>
    intro b p dp x e F w hat hok hfr hdl hev
    obtain ⟨vo, h, rfl⟩ := hat
    unfold R5.elem
    cases hh : R5.head s lim false x p e with
    | mk o z =>
      cases o with
      | none => exact elem_bad s lim hs hm b p dp e false (fun _ => by omega) (fun e => by cases e) x vo w h hok z hh
      | some v =>
        obtain ⟨n, q⟩ := v
        obtain ⟨_, _, _, _, hrm, _⟩ := rhead_ok hh
        exact elem_leaf s lim hs hm b p dp e false x vo w h hok n q z hh (by
          cases hin : inner (s.getD p 0).toNat with
          | false => rfl
          | true => exact absurd (hrm hin) (by decide))
  | succ d ih =>
    intro b p dp x e F w hat hok hfr hdl hev
    obtain ⟨vo, h, rfl⟩ := hat
    unfold R5.elem
    cases hh : R5.head s lim true x p e with
    | mk o z =>
      cases o with
      | none => exact elem_bad s lim hs hm b p dp e true (fun e => by cases e) (fun _ => by omega) x vo w h hok z hh
      | some v =>
        obtain ⟨n, q⟩ := v
        simp only
        cases hin : inner (s.getD p 0).toNat with
        | false =>
          rw [if_neg (by simp)]
          exact elem_leaf s lim hs hm b p dp e true x vo w h hok n q z hh hin
        | true =>
          rw [if_pos rfl]
          have hmay := E5.may_of hm
          obtain ⟨y, hv, hi, ht, _, hl, he⟩ := rhead_ok hh
          obtain ⟨f1, f2, f3⟩ := rlen_facts hok hv hl
          obtain ⟨h2, h3, h4, h5, h7, h8, h9, h10⟩ := E5.head_facts hok hh
          exact el_inner s lim hs hm b p dp _ x vo w h hok y hv hi ht hin (by omega) n q z hl ⟨by omega, f3, f1⟩ (end_ok he) d (inside_any s lim hs hm d ih) (by omega) (by rw [h2]; exact hfr) ⟨h3, h4, by rw [h2], by rw [h2]; show (x.out.length : Int) ≤ lim.i; omega⟩ (by rw [h2]; exact h7)
end Go.Proofs.YtceffhkgnifmeaaDoor
