/-
  The program's der.Decode at any bytes and any limits: it hands back what the reference's does.
-/
import Derived.Test.YtceffhkgnifmeaaDoorDyV
import Derived.Test.YtceffhkgnifmeaaDoorE5U
namespace Go.Proofs.YtceffhkgnifmeaaDoor
open Go.RowKit Go.Px Go.Px.R5

/-- How the reading goes, in the program's words and in the reference's. -/
def Went (s : Bytes) (lim : Lim) (d : List Px.Node × Int × Int) : Prop :=
  (∃ m e, D5.run s lim m = some (.error e) ∧ d = ([], e.1, e.2)) ∨
  (∃ m y, D5.run s lim m = some (.ok y) ∧ ¬ y.at_ < s.length ∧ d = (y.out, 0, 0)) ∨
  (∃ m y e, D5.run s lim m = some (.ok y) ∧ y.at_ < s.length ∧ D5.want s lim y.at_ = .error e ∧ d = ([], e.1, e.2)) ∨
  (∃ m y c, D5.run s lim m = some (.ok y) ∧ y.at_ < s.length ∧ D5.want s lim y.at_ = .ok c ∧ d = ([], (y.at_ : Int), 9))
theorem list_bad5 {x : St} (h : ¬ x.err = 0) : R5.list x = [] := by
  unfold R5.list
  rw [if_neg (by simpa using h)]
theorem list_ok5 {x : St} (h : x.err = 0) : R5.list x = x.out := by
  unfold R5.list
  rw [if_pos (by simpa using h)]
theorem went_any (s : Bytes) (lim : Lim) (hm : lim.may = true) : Went s lim (R5.list (R5.read s lim), (R5.read s lim).place, (R5.read s lim).err) := by
  have hrun := D5.run_ref s lim hm
  have hok := E5.start_ok (s := s) hm
  unfold R5.read
  cases hr : R5.elem s lim lim.d.toNat R5.start 0 none with
  | mk o y =>
    rw [hr] at hrun
    cases o with
    | none =>
      obtain ⟨m, hm2⟩ := hrun
      have hne : ¬ y.err = 0 := E5.elem_err _ _ _ _ _ _ _ hr
      refine Or.inl ⟨m, _, hm2, ?_⟩
      simp only
      rw [list_bad5 hne]
      rfl
    | some q =>
      obtain ⟨_, _, m, hm2⟩ := hrun
      obtain ⟨l, h2⟩ := E5.elem_sound s lim lim.d.toNat R5.start y 0 q none hok hr
      have he : y.err = 0 := h2.err
      have hp : y.place = 0 := h2.place
      simp only
      by_cases hlt : q < s.length
      · rw [if_pos hlt]
        cases hw : R5.want s lim y q with
        | mk b z =>
          cases b
          · refine Or.inr (.inr (.inl ⟨m, _, _, hm2, hlt, D5.want_bad hw, ?_⟩))
            simp only
            rw [list_bad5 (E5.want_err hw)]
            rfl
          · refine Or.inr (.inr (.inr ⟨m, _, _, hm2, hlt, (D5.want_ok hw (Nat.le_of_eq h2.ok.taken)).1, ?_⟩))
            simp only
            rw [list_bad5 (show ¬ (fault z (q : Int) 9).err = 0 by simp [fault])]
            rfl
      · rw [if_neg hlt]
        refine Or.inr (.inl ⟨m, _, hm2, hlt, ?_⟩)
        rw [list_ok5 he, hp, he]
/-- What a decoding hands back: a slice of its own, a place, an error. -/
def Gives (w : World) (d : List Px.Node × Int × Int) (r : Ending) (w' : World) : Prop :=
  ∃ vo, r = .returned (.tuple #[vo, .int .i64 d.2.1, .int .i64 d.2.2]) ∧ Owns w' 63 3 cNode vo d.1 ∧ Same w w' ∧ ∀ g, vo.ownBlock = some g → w.heap.size ≤ g
theorem gives_nil {w w' : World} {r : Ending} {p e : Int} (hr : r = .returned (.tuple #[.slice none 0 0, .int .i64 p, .int .i64 e])) (hs : Same w w') : Gives w ([], p, e) r w' :=
  ⟨_, hr, owns_nil _ _ _ _, hs, fun g hg => by simp [Value.ownBlock] at hg⟩
theorem decode_any (s : Bytes) (lim : Lim) (hs : s.length ≤ 140737488355327) (w : World) (hT : Tabs w) :
    Calls Tryd.prog 14 #[S s, limV lim] w (Gives w (R5.decode s lim)) := by
  have hT2 : ∀ w2, Same w w2 → Tabs w2 := fun w2 h => hT.same h
  cases hm : lim.may
  · rw [E5.decode_no hm]
    exact (Go.Proofs.YtceffhkgnifmeaaDoor.decode_no s lim hm w).mono fun r w' ⟨h1, h2⟩ => gives_nil h1 h2
  · rw [E5.decode_yes hm]
    rcases went_any s lim hm with ⟨m, e, h1, h2⟩ | ⟨m, y, h1, h2, h3⟩ | ⟨m, y, e, h1, h2, h3, h4⟩ | ⟨m, y, c, h1, h2, h3, h4⟩
    · rw [h2]
      exact (decode_err s lim hs hm w hT2 m e h1).mono fun r w' ⟨a, b⟩ => gives_nil a b
    · rw [h3]
      exact (decode_ok s lim hs hm w hT2 m y h1 h2).mono fun r w' h => h
    · rw [h4]
      exact (decode_want s lim hs hm w hT2 m y h1 h2 e h3).mono fun r w' ⟨a, b⟩ => gives_nil a b
    · rw [h4]
      exact (decode_rest s lim hs hm w hT2 m y h1 h2 c h3).mono fun r w' ⟨a, b⟩ => gives_nil a b
end Go.Proofs.YtceffhkgnifmeaaDoor
