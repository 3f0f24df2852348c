/-
  Several texts in one: The walk over the reference's escape, layer 16 (printed by gen_ze.py). The walk over the reference's sign, layer 16; places behind signs and escapes. The walk over the reference's text, layer 16.
-/
import Derived.Test.YtahojodgmjmpnaaSE
import Derived.Test.YtahojodgmjmpnaaJgM
import Derived.Test.YtahojodgmjmpnaaSF
import Derived.Lib.AppendStr
/-! The walk over the reference's escape, layer 16 (printed by gen_ze.py). -/
namespace Go.Proofs.Ytahojodgmjmpnaa
open Go.RowKit Go.Px

end Go.Proofs.Ytahojodgmjmpnaa

/-! The walk over the reference's sign, layer 16; places behind signs and escapes. -/
namespace Go.Proofs.Ytahojodgmjmpnaa
open Go.RowKit Go.Px

theorem signN_succ (s : Bytes) (lim : Lim) (p m : Nat) (x : R6.St) (q : Nat) : R6.signN s lim p (m + 1) x q = match R6.want s lim x q with
    | (false, y) => (none, y)
    | (true, y) =>
      if R6.utf ((s.take (q + 1)).drop p) == ((s.take (q + 1)).drop p).length then (some (q + 1), y)
      else if !R6.begins ((s.take (q + 1)).drop p) then (none, R6.fault y q 9)
      else R6.signN s lim p m y (q + 1) := rfl
theorem sign_gt (s : Bytes) (lim : Lim) (p : Nat) : ∀ (m : Nat) (x : R6.St) (q r : Nat), (R6.signN s lim p m x q).1 = some r → q < r
  | 0, _, _, _, h => by cases h
  | m + 1, x, q, r, h => by
    rw [signN_succ] at h
    obtain ⟨⟨c, z⟩, hres⟩ : ∃ r, R6.want s lim x q = r := ⟨_, rfl⟩
    rw [hres] at h
    cases c with
    | false => cases h
    | true =>
      simp only at h
      split at h
      · have e : q + 1 = r := Option.some.inj h
        omega
      · split at h
        · cases h
        · have := sign_gt s lim p m z (q + 1) r h
          omega
end Go.Proofs.Ytahojodgmjmpnaa

/-! The walk over the reference's text, layer 16. -/
namespace Go.Proofs.Ytahojodgmjmpnaa
open Go.RowKit Go.Px

theorem wrap1 (p : Nat) (hp : p ≤ 140737488355327) : IntKind.i64.wrap ((p : Int) + 1) = (p : Int) + 1 := IntWalk.i64_in _ ⟨by omega, by omega⟩
/-- A row of bytes that is newer than a world, as one of the call's own. -/
theorem owns0 {w : World} {base : Nat} {v : Value} {l : Bytes} (h : w.ownsRow base 5 1 v l.length (l.flatMap cByte)) : Owns w 5 1 cByte v l := by
  refine ⟨h.1, ?_⟩
  rcases h.2 with x | ⟨g, cap, cur, h1, _, h3⟩
  · exact .inl x
  · exact .inr ⟨g, cap, cur, h1, Nat.zero_le _, h3⟩
theorem row_keep {w w' : World} {base : Nat} {v : Value} {n : Nat} {xs : List Value} (h : w.ownsRow base 5 1 v n xs) (hk : ∀ k, v.ownBlock = some k → w'.heap[k]? = w.heap[k]?) : w'.ownsRow base 5 1 v n xs := by
  refine ⟨h.1, ?_⟩
  rcases h.2 with x | ⟨g, cap, cur, rfl, h2, h3, h4⟩
  · exact .inl x
  · exact .inr ⟨g, cap, cur, rfl, h2, (hk g rfl).trans h3, h4⟩
/-- The reader and the text that is read, side by side. -/
structure TextAt (w0 w : World) (b : Nat) (s : Bytes) (lim : Lim) (y : R6.St) (vo v : Value) (out : Bytes) : Prop where
  x : X6 w b s lim y vo
  fr : Fr (It b) w0 w
  row : w.ownsRow w0.heap.size 5 1 v out.length (out.flatMap cByte)
  nb : b < w0.heap.size
  vb : ∀ k, vo.ownBlock = some k → k < w0.heap.size
section
variable {w0 w w' : World} {b : Nat} {s : Bytes} {lim : Lim} {y z : R6.St} {vo v v' : Value} {out out' : Bytes}
theorem TextAt.step (h : TextAt w0 w b s lim y vo v out) (hx : X6 w' b s lim z vo) (hf : Fr (It b) w w') : TextAt w0 w' b s lim z vo v out :=
  ⟨hx, It.trans h.fr hf, row_keep h.row fun k hk => hf.block k (World.ownsRow.lt h.row k hk).2 (fun e => by
    have h1 := (World.ownsRow.lt h.row k hk).1
    have h2 := h.nb
    have e : k = b := e
    omega), h.nb, h.vb⟩
theorem TextAt.grow (h : TextAt w0 w b s lim y vo v out) (hr : w'.ownsRow w0.heap.size 5 1 v' out'.length (out'.flatMap cByte)) (hg : w.grownBy w' v.ownBlock) : TextAt w0 w' b s lim y vo v' out' := by
  have hne : ∀ k, k < w0.heap.size → v.ownBlock ≠ some k := fun k hk e => by have := (World.ownsRow.lt h.row k e).1; omega
  have hb : w'.heap[b]? = w.heap[b]? := hg.block b h.x.lt (fun e => hne b h.nb e.symm)
  refine ⟨⟨h.x.rd.keep hb, h.x.out.keep fun k hk => hg.block k (h.x.out.lt hk) (fun e => hne k (h.vb k hk) e.symm), h.x.ob⟩, ?_, hr, h.nb, h.vb⟩
  have hf : Fr (fun k => v.ownBlock = some k) w w' := (Fr.refl _ w).grown hg (fun k e => .inl e)
  exact h.fr.trans hf (fun k hk e => (hne k hk e).elim)
end
theorem row_len {w : World} {base : Nat} {v : Value} {l : Bytes} (h : w.ownsRow base 5 1 v l.length (l.flatMap cByte)) : ∃ a cap, v = .slice a l.length cap := by
  obtain ⟨a, cap, hv, _⟩ := (owns0 h).len
  exact ⟨a, cap, hv⟩

end Go.Proofs.Ytahojodgmjmpnaa
