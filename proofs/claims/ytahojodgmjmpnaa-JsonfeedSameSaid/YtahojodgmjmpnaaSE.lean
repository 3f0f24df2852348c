/-
  Several texts in one: The walks over the references' reader (layer 15's within layer 16's): Take, fault, Want (turned from XRdV). How such a reader lies in memory. The walks over the reference's reader of layer 16: Want, fault, blank, digit, hex, is, pass, four, word. The walks over the reference's reader of layer 16: pass, four, word. The walks over the reference's Sign and escape, layer 16 (printed by gen_zd.py).
-/
import Derived.Test.YtahojodgmjmpnaaStrJ
import Derived.Test.YtahojodgmjmpnaaR6M
import Derived.Deep.RegionWith
import Derived.Test.YtahojodgmjmpnaaYcJ
import Derived.Test.YtahojodgmjmpnaaWnJ
import Derived.Test.YtahojodgmjmpnaaYlJ
/-! The walks over the references' reader (layer 15's within layer 16's): Take, fault, Want (turned from XRdV). How such a reader lies in memory. -/
namespace Go.Proofs.Ytahojodgmjmpnaa
open Go.RowKit Go.Px Go.Px.R5

/-- Only this block changes. -/
def It (b : Nat) (k : Nat) : Prop := k = b
theorem It.set {b i : Nat} {w : World} (v : Value) : Fr (It b) w (w.setCell ⟨b, i, none⟩ v) := (Fr.refl (It b) w).setCell (p := ⟨b, i, none⟩) (.inl rfl) v
/-- The first eleven cells of a reader. -/
def rdCells (s : Bytes) (lim : Lim) (x : St) (vn : Value) (tl : List Value) : Array Value :=
  (S s :: .int .i64 lim.d :: .int .i64 lim.i :: .int .i64 lim.b :: .int .i64 lim.r :: vn :: .int .i64 x.err :: .int .i64 x.place :: .int .i64 (x.taken : Nat) :: .int .i64 (x.frames : Nat) :: .bool x.ended :: tl).toArray
structure Rd (w : World) (b T : Nat) (s : Bytes) (lim : Lim) (x : St) (vn : Value) (tl : List Value) : Prop where
  blk : w.heap[b]? = some (.cells (rdCells s lim x vn tl) T (0, 0))
section
variable {w w' : World} {b T : Nat} {s : Bytes} {lim : Lim} {x : St} {vn : Value} {tl : List Value}
theorem Rd.cells (h : Rd w b T s lim x vn tl) :
    w.cell? ⟨b, 0, none⟩ = some (S s) ∧ w.cell? ⟨b, 1, none⟩ = some (.int .i64 lim.d) ∧ w.cell? ⟨b, 2, none⟩ = some (.int .i64 lim.i) ∧ w.cell? ⟨b, 3, none⟩ = some (.int .i64 lim.b) ∧
    w.cell? ⟨b, 6, none⟩ = some (.int .i64 x.err) ∧ w.cell? ⟨b, 7, none⟩ = some (.int .i64 x.place) ∧ w.cell? ⟨b, 8, none⟩ = some (.int .i64 (x.taken : Nat)) ∧ w.cell? ⟨b, 9, none⟩ = some (.int .i64 (x.frames : Nat)) ∧ w.cell? ⟨b, 10, none⟩ = some (.bool x.ended) :=
  ⟨cellOf h.blk 0 (by simp [rdCells]), cellOf h.blk 1 (by simp [rdCells]), cellOf h.blk 2 (by simp [rdCells]), cellOf h.blk 3 (by simp [rdCells]), cellOf h.blk 6 (by simp [rdCells]), cellOf h.blk 7 (by simp [rdCells]),
   cellOf h.blk 8 (by simp [rdCells]), cellOf h.blk 9 (by simp [rdCells]), cellOf h.blk 10 (by simp [rdCells])⟩
theorem Rd.free (h : Rd w b T s lim x vn tl) (i : Nat) : w.frozen? ⟨b, i, none⟩ = false := freeOf h.blk i
theorem Rd.lt (h : Rd w b T s lim x vn tl) : b < w.heap.size := ltOf h.blk
theorem Rd.keep (h : Rd w b T s lim x vn tl) (hk : w'.heap[b]? = w.heap[b]?) : Rd w' b T s lim x vn tl := ⟨hk.trans h.blk⟩
theorem Rd.fr {F : Nat → Prop} (h : Rd w b T s lim x vn tl) (hf : Fr F w w') (hb : ¬ F b) : Rd w' b T s lim x vn tl := h.keep (hf.block b h.lt hb)
theorem Rd.same (h : Rd w b T s lim x vn tl) (hs : Same w w') : Rd w' b T s lim x vn tl := h.fr hs (fun x => x)
theorem Rd.alloc (h : Rd w b T s lim x vn tl) (o : Obj) : Rd (w.alloc o) b T s lim x vn tl := h.keep (Below.heap_alloc w o b h.lt)
theorem Rd.drew (h : Rd w b T s lim x vn tl) : Rd w.drew b T s lim x vn tl := ⟨h.blk⟩
theorem Rd.drewN (h : Rd w b T s lim x vn tl) (n : Nat) : Rd (w.drewN n) b T s lim x vn tl := ⟨h.blk⟩
theorem Rd.set (h : Rd w b T s lim x vn tl) (i : Nat) (v : Value) (y : St) (vn' : Value) (tl' : List Value) (hc : (rdCells s lim x vn tl).setIfInBounds i v = rdCells s lim y vn' tl') : Rd (w.setCell ⟨b, i, none⟩ v) b T s lim y vn' tl' :=
  ⟨by rw [heap_setCell_same w b i _ _ v h.blk, hc]⟩
end

end Go.Proofs.Ytahojodgmjmpnaa

/-! The walks over the reference's reader of layer 16: Want, fault, blank, digit, hex, is, pass, four, word. -/
namespace Go.Proofs.Ytahojodgmjmpnaa
open Go.RowKit Go.Px

/-- How a reader of layer 16 lies in memory. -/
structure X6 (w : World) (b : Nat) (s : Bytes) (lim : Lim) (x : R6.St) (vo : Value) : Prop where
  rd : Rd w b 76 s lim x.r (.slice none 0 0) [vo]
  out : Owns w 64 3 cVal vo x.out
  ob : Apart vo.ownBlock (some b)
/-- A text and limits that may be. -/
structure Ctx (s : Bytes) (lim : Lim) : Prop where
  len : s.length ≤ 140737488355327
  may : lim.may = true
section
variable {w w' : World} {b : Nat} {s : Bytes} {lim : Lim} {x : R6.St} {vo : Value}
theorem X6.fr (h : X6 w b s lim x vo) {r' : R5.St} (hr : Rd w' b 76 s lim r' (.slice none 0 0) [vo]) (hf : Fr (It b) w w') : X6 w' b s lim { x with r := r' } vo :=
  ⟨hr, h.out.fr hf (fun k hk e => h.ob k hk (by rw [show k = b from e])), h.ob⟩
theorem X6.same (h : X6 w b s lim x vo) (hs : Same w w') : X6 w' b s lim x vo := ⟨h.rd.same hs, Owns.same h.out hs, h.ob⟩
theorem X6.drewN (h : X6 w b s lim x vo) (n : Nat) : X6 (w.drewN n) b s lim x vo := ⟨h.rd.drewN n, h.out.drewN n, h.ob⟩
theorem X6.alloc (h : X6 w b s lim x vo) (o : Obj) : X6 (w.alloc o) b s lim x vo := ⟨h.rd.alloc o, h.out.alloc o, h.ob⟩
theorem X6.lt (h : X6 w b s lim x vo) : b < w.heap.size := h.rd.lt
theorem X6.c0 (h : X6 w b s lim x vo) : w.cell? ⟨b, 0, none⟩ = some (S s) := h.rd.cells.1
end
theorem Ctx.b {s : Bytes} {lim : Lim} (h : Ctx s lim) : 1 ≤ lim.b ∧ lim.b ≤ 262144 := by
  have hm := h.may
  unfold Lim.may at hm
  simp only [Bool.and_eq_true, decide_eq_true_eq] at hm
  omega
theorem idx6 (s : Bytes) (p : Nat) (hp : p < s.length) (w : World) : (Instr.index 9 (S s) (.int .i64 (p : Int))).run Try.prog w = .ok (.int .u8 (R6.at_ s p : Nat)) w := idx_S s p hp w
theorem at_lt (s : Bytes) (p : Nat) : R6.at_ s p < 256 := UInt8.toNat_lt _
end Go.Proofs.Ytahojodgmjmpnaa

/-! The walks over the reference's reader of layer 16: pass, four, word. -/
namespace Go.Proofs.Ytahojodgmjmpnaa
open Go.RowKit Go.Px

theorem It.trans {b : Nat} {w w1 w2 : World} (h : Fr (It b) w w1) (k : Fr (It b) w1 w2) : Fr (It b) w w2 := Fr.trans h k fun _ _ x => x
end Go.Proofs.Ytahojodgmjmpnaa

/-! The walks over the reference's Sign and escape, layer 16 (printed by gen_zd.py). -/
namespace Go.Proofs.Ytahojodgmjmpnaa
open Go.RowKit Go.Px

end Go.Proofs.Ytahojodgmjmpnaa
