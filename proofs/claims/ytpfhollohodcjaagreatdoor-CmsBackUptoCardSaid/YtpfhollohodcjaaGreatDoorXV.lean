/-
  Several texts in one: The reading of layer 23 as plain functions on a list of elements, a place and a stack of counts. No program is named here. What is read by layer 23 is one tree alone (plain law). No program is named here.
-/
import Derived.Test.YtpfhollohodcjaaGreatDoorXJ
import Derived.Test.YtpfhollohodcjaaGreatDoorXA
/-! The reading of layer 23 as plain functions on a list of elements, a place and a stack of counts. No program is named here. -/
namespace Go.Px.Cm
open E5 Co
/-- A place, and how many elements are left of each one that is gone through, the innermost first. -/
structure Cu where
  at_ : Nat
  left : List Nat
def nz : Node := ⟨0, 0, []⟩
abbrev P (α : Type) := Cu → Except Int (α × Cu)
section
variable {α β : Type}
def ret (a : α) : P α := fun c => .ok (a, c)
def fail (e : Int) : P α := fun _ => .error e
def bnd (p : P α) (f : α → P β) : P β := fun c => match p c with
  | .error e => .error e
  | .ok (a, c') => f a c'
variable (l : List Node)
/-- The tag of the next element; 0: none is left. -/
def peek (c : Cu) : Nat := match c.left with
  | (_ + 1) :: _ => (l.getD c.at_ nz).tag.toNat
  | _ => 0
def bar (b : Cu → Bool) (e : Int) (p : P α) : P α := fun c => if b c then .error e else p c
def take (t : Nat) : P Bytes := fun c => if peek l c = t then .ok ((l.getD c.at_ nz).body, ⟨c.at_ + 1, dec c.left⟩) else .error 9
/-- Out of an element: nothing may be left. -/
def out (v : α) (c : Cu) : Except Int (α × Cu) := match c.left with
  | (_ + 1) :: _ => .error 9
  | _ => .ok (v, ⟨c.at_, c.left.tail⟩)
def inn (t : Nat) (f : P α) : P α := fun c => match take l t c with
  | .error e => .error e
  | .ok (_, c1) => match f ⟨c1.at_, (l.getD c.at_ nz).kids.toNat :: c1.left⟩ with
    | .error e => .error e
    | .ok (v, c2) => out v c2
end
/-! The types -/
def rsaT : Bytes := [0x2a, 0x86, 0x48, 0x86, 0xf7, 0x0d]
def sealedT : Bytes := rsaT ++ [1, 9, 16, 1, 23]
def dataT : Bytes := rsaT ++ [1, 7, 1]
def derivT : Bytes := rsaT ++ [1, 5, 12]
def digestT : Bytes := rsaT ++ [2]
def lockT : Bytes := rsaT ++ [1, 9, 16, 3, 9]
def besideT : Bytes := rsaT ++ [1, 9, 4]
def cipherT : Bytes := [0x60, 0x86, 0x48, 1, 0x65, 3, 4, 1]
section
variable (l : List Node)
def kind (tbl : List Bytes) : P Nat := bnd (take l 6) fun s => match tbl.findIdx? (fun t => t == s) with
  | some i => ret i
  | none => fail 11
def version (v : Bytes) : P Unit := bnd (take l 2) fun s => if s = v then ret () else fail 11
def octs (a b m : Nat) : P Bytes := bnd (take l 4) fun s => if a ≤ s.length ∧ s.length ≤ b ∧ s.length % m = 0 then ret s else fail 9
/-- A recipient whose key is sealed. -/
def wrapT : List Bytes := [cipherT ++ [5], cipherT ++ [25], cipherT ++ [45]]
def nameP : P Bytes := bnd (octs l 1 128 1) fun s => bar (fun c => peek l c != 0) 11 (ret s)
def wrapped : P Rec := bnd (version l [4]) fun _ => bnd (inn l 0x30 (nameP l)) fun nm => bnd (inn l 0x30 (kind l wrapT)) fun i => bnd (octs l 24 1032 8) fun k => ret ⟨2, 16 + 8 * i, 0, nm, k, [], 0, [], []⟩
/-- A number as bytes, the greatest first. -/
def num (s : Bytes) : Nat := s.foldl (fun a c => a * 256 + c.toNat) 0
def rounds (lim : Lim) : P Nat := bnd (take l 2) fun s =>
  if 128 ≤ (s.getD 0 0).toNat ∨ s = [0] then fail 9
  else if 8 < s.length ∨ lim.r < num s then fail 10
  else ret (num s)
def hashT : List Bytes := [digestT ++ [9], digestT ++ [10], digestT ++ [11]]
def hashP : P Nat := bnd (kind l hashT) fun i => bnd (take l 5) fun _ => ret i
def derivP (lim : Lim) : P (Bytes × Nat × Nat) := bnd (octs l 8 1000 1) fun salt => bnd (rounds l lim) fun n => bar (fun c => peek l c == 0 || peek l c == 2) 11 (bnd (inn l 0x30 (hashP l)) fun i => ret (salt, n, i))
def derived (lim : Lim) : P (Bytes × Nat × Nat) := bnd (kind l [derivT]) fun _ => inn l 0x30 (derivP l lim)
def lockTs : List Bytes := [cipherT ++ [2], cipherT ++ [22], cipherT ++ [42]]
def lockQ : P (Nat × Bytes) := bnd (kind l lockTs) fun j => bnd (octs l 16 16 1) fun iv => ret (j, iv)
def lockP : P (Nat × Bytes) := bnd (kind l [lockT]) fun _ => inn l 0x30 (lockQ l)
def password (lim : Lim) : P Rec := bnd (version l [0]) fun _ => bnd (inn l 0xa0 (derived l lim)) fun d => bnd (inn l 0x30 (lockP l)) fun j => bnd (octs l 32 272 16) fun k =>
  ret ⟨3, 16 + 8 * j.1, 256 + 128 * d.2.2, [], k, d.1, d.2.1, j.2, []⟩
def recip (lim : Lim) : P Rec := fun c =>
  if peek l c = 0xa2 then inn l 0xa2 (wrapped l) c
  else if peek l c = 0xa3 then inn l 0xa3 (password l lim) c
  else if peek l c = 0x30 ∨ peek l c = 0xa1 ∨ peek l c = 0xa4 then .error 11
  else .error 9
def recipN (lim : Lim) : Nat → P (List Rec)
  | 0 => ret []
  | m + 1 => bnd (recip l lim) fun r => bnd (recipN lim m) fun rs => ret (r :: rs)
def recips (lim : Lim) : P (List Rec) := fun c =>
  if c.left.headD 0 = 0 then .error 9
  else if 8 < c.left.headD 0 then .error 10
  else recipN l lim (c.left.headD 0) c
/-! What is sealed -/
def tagged (n : Nat) (ccm : Bool) : Bool := if ccm then decide (4 ≤ n) && decide (n ≤ 16) && n % 2 == 0 && n != 12 else decide (13 ≤ n) && decide (n ≤ 16)
def sizeP (iv : Bytes) (ccm : Bool) : P (Bytes × Nat) := bnd (take l 2) fun s => if s.length = 1 ∧ tagged (s.getD 0 0).toNat ccm = true then ret (iv, (s.getD 0 0).toNat) else fail 9
def params (ccm : Bool) : P (Bytes × Nat) := bnd (octs l (if ccm then 7 else 1) (if ccm then 13 else 1024) 1) fun iv c => if peek l c = 2 then sizeP l iv ccm c else .ok ((iv, 12), c)
def sixT : List Bytes := [cipherT ++ [6], cipherT ++ [26], cipherT ++ [46], cipherT ++ [7], cipherT ++ [27], cipherT ++ [47]]
def algsL : List Int := [1, 2, 3, 201, 202, 203]
def cipherP : P (Nat × Bytes × Nat) := bnd (kind l sixT) fun i => bnd (inn l 0x30 (params l (decide (2 < i)))) fun p => ret (i, p)
def textP (i : Nat) (iv : Bytes) : P Bytes := bnd (take l 0x80) fun s => if 70000 < s.length ∨ (65536 ≤ s.length ∧ 2 < i ∧ iv.length = 13) then fail 10 else ret s
def contentQ : P ((Nat × Bytes × Nat) × Bytes) := bnd (kind l [dataT]) fun _ => bnd (inn l 0x30 (cipherP l)) fun a => bar (fun c => peek l c == 0) 11 (bnd (textP l a.1 a.2.1) fun s => ret (a, s))
def content : P ((Nat × Bytes × Nat) × Bytes) := inn l 0x30 (contentQ l)
/-! What is authenticated beside -/
def nx (p : Nat) : Nat := p + ((E5.behind (l.drop p) [] 0 0).1.getD 0)
def anyN : Nat → P Unit
  | 0 => ret ()
  | m + 1 => fun c => anyN m ⟨nx l c.at_, dec c.left⟩
def valsP : P Unit := bar (fun c => peek l c == 0) 9 fun c => anyN l (c.left.headD 0) c
def attrQ : P Unit := bnd (take l 6) fun _ => inn l 0x31 (valsP l)
def attrN : Nat → P Unit
  | 0 => ret ()
  | m + 1 => bnd (inn l 0x30 (attrQ l)) fun _ => attrN m
def attrP : P Unit := fun c => attrN l (c.left.headD 0) c
/-- What Encode tells of a list. -/
noncomputable def encOf (x : List Node) : Bytes × Int := open Classical in if h : ∃ r, Enc x r then h.choose else ([], 9)
theorem encOf_eq {x : List Node} {r : Bytes × Int} (h : Enc x r) : encOf x = r := by
  unfold encOf
  rw [dif_pos ⟨r, h⟩]
  exact Enc.det (Exists.choose_spec (⟨r, h⟩ : ∃ r, Enc x r)) h
/-- The attributes' text: a set. -/
def setOf : List Node → List Node
  | [] => []
  | a :: r => ⟨0x31, a.kids, a.body⟩ :: r
noncomputable def attrT (x : List Node) : Except Int Bytes :=
  if (encOf (setOf x)).2 ≠ 0 then .error 9
  else if 70000 < (encOf (setOf x)).1.length then .error 10
  else .ok (encOf (setOf x)).1
noncomputable def attrs : P Bytes := fun c =>
  if (l.getD c.at_ nz).kids = 0 then .error 9
  else match inn l 0xa1 (attrP l) c with
    | .error e => .error e
    | .ok (_, c') => match attrT ((l.take c'.at_).drop c.at_) with
      | .error e => .error e
      | .ok s => .ok (s, c')
noncomputable def beside : P Bytes := fun c => if peek l c = 0xa1 then attrs l c else .ok ([], c)
def envOf (rs : List Rec) (a : (Nat × Bytes × Nat) × Bytes) (h t : Bytes) : Env := ⟨1, algsL.getD a.1.1 0, rs, h, [], [], a.1.2.1, a.2, t⟩
noncomputable def body (lim : Lim) : P Env := bnd (version l [0]) fun _ => bar (fun c => peek l c == 0xa0) 11 (bnd (inn l 0x31 (recips l lim)) fun rs => bnd (content l) fun a => bnd (beside l) fun h =>
  bnd (octs l a.1.2.2 a.1.2.2 1) fun t => bar (fun c => peek l c == 0xa2) 11 (ret (envOf rs a h t)))
noncomputable def whole (lim : Lim) : P Env := inn l 0x30 (bnd (kind l [sealedT]) fun _ => inn l 0xa0 (inn l 0x30 (body l lim)))
end
noncomputable def readL (l : List Node) (lim : Lim) : Env × Int := match whole l lim ⟨0, [1]⟩ with
  | .error e => (zero, e)
  | .ok (x, _) => (x, 0)
noncomputable def read (s : Bytes) (lim : Lim) : Env × Int :=
  if (R5.decode s lim).2.2 ≠ 0 then (zero, (R5.decode s lim).2.2) else readL (R5.decode s lim).1 lim
end Go.Px.Cm

/-! What is read by layer 23 is one tree alone (plain law). No program is named here. -/
namespace Go.Px.Cm
open E5 Co
/-! Trees -/
def lf (t : UInt8) (b : Bytes) : List Node := [⟨t, -1, b⟩]
def ofT (t : UInt8) (ts : List (List Node)) : List Node := ⟨t, ts.length, []⟩ :: ts.flatten
variable {α β : Type} {l : List Node}
/-- The counts fit what comes. -/
def Fits (l : List Node) (c : Cu) : Prop := c.left ≠ [] ∧ Stk 33 c.left (l.drop c.at_)
/-- A reading takes some whole elements, of which this is known. -/
def Eats (l : List Node) (p : P α) (R : α → List (List Node) → Prop) : Prop := ∀ c v c', p c = .ok (v, c') → Fits l c → Fits l c' ∧ ∃ ts n r, R v ts ∧ c.left = (n + ts.length) :: r ∧ c'.left = n :: r ∧ l.drop c.at_ = ts.flatten ++ l.drop c'.at_ ∧ c'.at_ = c.at_ + ts.flatten.length
theorem kids_rows {R : List Node → Bytes → Bool → Prop} {set : Bool} : ∀ {n last l b o}, Kids R set n last l b o → RowsN R n l
  | 0, _, _, _, _, h => h.1
  | _ + 1, _, _, _, _, ⟨x, r, bx, _, o1, _, e, _, h1, h2, _⟩ => ⟨x, r, bx, o1, e, h1, kids_rows h2⟩
theorem stk_next {n : Nat} {r : List Nat} {l : List Node} (h : Stk 33 ((n + 1) :: r) l) : ∃ x y b o, l = x ++ y ∧ El (33 - (r.length + 1)) x b o ∧ Stk 33 (n :: r) y := by
  obtain ⟨l1, l2, rfl, ⟨x, q, b, o, rfl, h1, h2⟩, h3⟩ := h
  exact ⟨x, q ++ l2, b, o, by rw [List.append_assoc], h1, q, l2, rfl, h2, h3⟩
theorem stk_leaf {n : Nat} {r : List Nat} {a : Node} {l : List Node} (h : Stk 33 ((n + 1) :: r) (a :: l)) (hl : leaf a = true) : Stk 33 (n :: r) l := by
  obtain ⟨x, y, b, o, e, h1, h2⟩ := stk_next h
  have hx : x = [a] := by
    have hp := h1.pos
    cases x with
    | nil => simp at hp
    | cons a' x' =>
      simp only [List.cons_append, List.cons.injEq] at e
      obtain ⟨rfl, e2⟩ := e
      generalize 33 - (r.length + 1) = d at h1
      cases d with
      | zero =>
        obtain ⟨_, e3, _⟩ := h1
        simp only [List.cons.injEq] at e3
        rw [e3.2]
      | succ d =>
        rcases h1 with ⟨_, e3, _⟩ | ⟨_, _, _, e3, _, k, _⟩
        · simp only [List.cons.injEq] at e3
          rw [e3.2]
        · simp only [List.cons.injEq] at e3
          rw [← e3.1, hl] at k
          cases k
  subst hx
  simp only [List.cons_append, List.nil_append, List.cons.injEq, true_and] at e
  rw [e]
  exact h2
theorem stk_in {n : Nat} {r : List Nat} {a : Node} {l : List Node} (h : Stk 33 ((n + 1) :: r) (a :: l)) (hl : leaf a = false) : Stk 33 (count a :: n :: r) l := by
  obtain ⟨x, y, b, o, e, h1, h2⟩ := stk_next h
  have hp := h1.pos
  cases x with
  | nil => simp at hp
  | cons a' x' =>
    simp only [List.cons_append, List.cons.injEq] at e
    obtain ⟨rfl, rfl⟩ := e
    cases hd : 33 - (r.length + 1) with
    | zero =>
      rw [hd] at h1
      obtain ⟨_, e3, _, k, _⟩ := h1
      simp only [List.cons.injEq] at e3
      rw [← e3.1, hl] at k
      cases k
    | succ d =>
      rw [hd] at h1
      rcases h1 with ⟨_, e3, _, k, _⟩ | ⟨_, _, _, e3, _, _, k, _⟩
      · simp only [List.cons.injEq] at e3
        rw [← e3.1, hl] at k
        cases k
      · simp only [List.cons.injEq] at e3
        obtain ⟨rfl, rfl⟩ := e3
        refine ⟨x', y, rfl, ?_, h2⟩
        rw [List.length_cons, show 33 - (r.length + 1 + 1) = d by omega]
        exact kids_rows k
theorem stk_out {r : List Nat} {l : List Node} (h : Stk 33 (0 :: r) l) : Stk 33 r l := by
  obtain ⟨l1, l2, rfl, h1, h2⟩ := h
  have e : l1 = [] := h1
  subst e
  exact h2
theorem Eats.mono {p : P α} {R S : α → List (List Node) → Prop} (h : Eats l p R) (hs : ∀ v ts, R v ts → S v ts) : Eats l p S := fun c v c' e hl => by
  obtain ⟨hf, ts, n, r, h1, h2⟩ := h c v c' e hl
  exact ⟨hf, ts, n, r, hs _ _ h1, h2⟩
theorem eats_ret (a : α) : Eats l (ret a) (fun v ts => v = a ∧ ts = []) := fun c v c' e hl => by
  unfold ret at e
  simp only [Except.ok.injEq, Prod.mk.injEq] at e
  obtain ⟨rfl, rfl⟩ := e
  cases hc : c.left with
  | nil => exact absurd hc hl.1
  | cons n r => exact ⟨hl, [], n, r, ⟨rfl, rfl⟩, rfl, rfl, rfl, rfl⟩
theorem eats_fail (e : Int) {R : α → List (List Node) → Prop} : Eats l (fail e : P α) R := fun c v c' h _ => by cases h
theorem Eats.bnd {p : P α} {f : α → P β} {R : α → List (List Node) → Prop} {S : α → β → List (List Node) → Prop} (h1 : Eats l p R) (h2 : ∀ a, Eats l (f a) (S a)) :
    Eats l (bnd p f) (fun v ts => ∃ a t1 t2, R a t1 ∧ S a v t2 ∧ ts = t1 ++ t2) := fun c v c' e hl => by
  unfold Cm.bnd at e
  cases hp : p c with
  | error x => rw [hp] at e; cases e
  | ok q =>
    obtain ⟨a, c1⟩ := q
    rw [hp] at e
    obtain ⟨hf, t1, n, r, k1, k2, k3, k4, k5⟩ := h1 c a c1 hp hl
    obtain ⟨hf2, t2, m, r2, j1, j2, j3, j4, j5⟩ := h2 a c1 v c' e hf
    rw [k3] at j2
    simp only [List.cons.injEq] at j2
    obtain ⟨rfl, rfl⟩ := j2
    refine ⟨hf2, t1 ++ t2, m, r, ⟨a, t1, t2, k1, j1, rfl⟩, by rw [k2, List.length_append]; congr 1; omega, j3, by rw [k4, j4, List.flatten_append, List.append_assoc], by rw [j5, k5, List.flatten_append, List.length_append]; omega⟩
theorem Eats.bar {b : Cu → Bool} {e : Int} {p : P α} {R : α → List (List Node) → Prop} (h : Eats l p R) : Eats l (bar b e p) R := fun c v c' hp hl => by
  unfold Cm.bar at hp
  split at hp
  · cases hp
  · exact h c v c' hp hl
/-- The next element. -/
theorem take_at {t : Nat} {c c' : Cu} {s : Bytes} (h : take l t c = .ok (s, c')) (ht : t ≠ 0) : ∃ a n r, l.drop c.at_ = a :: l.drop (c.at_ + 1) ∧ a ∈ l ∧ l.getD c.at_ nz = a ∧ a.tag.toNat = t ∧ s = a.body ∧ c.left = (n + 1) :: r ∧ c' = ⟨c.at_ + 1, n :: r⟩ := by
  unfold take at h
  split at h
  · rename_i hp
    simp only [Except.ok.injEq, Prod.mk.injEq] at h
    obtain ⟨h1, h2⟩ := h
    unfold peek at hp
    split at hp
    · rename_i n r hl
      by_cases hlt : c.at_ < l.length
      · have hg : l.getD c.at_ nz = l[c.at_] := by simp [List.getD, hlt]
        refine ⟨l[c.at_], n, r, List.drop_eq_getElem_cons hlt, List.getElem_mem hlt, hg, by rw [← hp, hg], by rw [← h1, hg], hl, ?_⟩
        rw [← h2, hl]
        rfl
      · have hg : l.getD c.at_ nz = nz := by simp [List.getD, hlt]
        rw [hg] at hp
        exact absurd hp.symm ht
    · exact absurd hp.symm ht
  · cases h
section
variable (hr : ∀ a ∈ l, right a = true)
include hr
theorem eats_take {t : UInt8} (ht : t ≠ 0) (hi : R5.inner t.toNat = false) : Eats l (take l t.toNat) (fun s ts => ts = [lf t s] ∧ right ⟨t, -1, s⟩ = true) := fun c v c' e hl => by
  obtain ⟨a, n, r, h1, h2, _, h3, h4, h5, rfl⟩ := take_at e (fun h => ht (UInt8.toNat_inj.1 h))
  have ha := hr a h2
  have ha0 := ha
  have htg : a.tag = t := UInt8.toNat_inj.1 h3
  obtain ⟨tg, k, b⟩ := a
  simp only at htg
  subst htg
  unfold right at ha
  simp only [Bool.and_eq_true, decide_eq_true_eq, beq_iff_eq] at ha
  have hlf : leaf ⟨tg, k, b⟩ = true := by
    have := ha.1.2
    rw [hi] at this
    cases hq : leaf ⟨tg, k, b⟩ with
    | true => rfl
    | false => rw [hq] at this; cases this
  have hk : k = -1 := by
    have h6 : decide (k < 0) = true := hlf
    have h7 := ha.1.1.2
    simp only [decide_eq_true_eq] at h6 h7
    omega
  subst hk
  subst h4
  have hst := hl.2
  rw [h5, h1] at hst
  exact ⟨⟨by simp, stk_leaf hst hlf⟩, [lf tg v], n, r, ⟨rfl, ha0⟩, h5, rfl, h1, rfl⟩
/-- Within an element. -/
theorem fits_in {t : UInt8} (ht : t ≠ 0) (hi : R5.inner t.toNat = true) {c c' : Cu} {b : Bytes} (h : take l t.toNat c = .ok (b, c')) (hf : Fits l c) : Fits l ⟨c'.at_, (l.getD c.at_ nz).kids.toNat :: c'.left⟩ := by
  obtain ⟨a, n, r, h1, h2, hg, h3, h4, h5, rfl⟩ := take_at h (fun h => ht (UInt8.toNat_inj.1 h))
  rw [hg]
  have ha := hr a h2
  have htg : a.tag = t := UInt8.toNat_inj.1 h3
  subst htg
  unfold right at ha
  simp only [Bool.and_eq_true, beq_iff_eq] at ha
  have hlf : leaf a = false := by
    have := ha.1.2
    rw [hi] at this
    cases hq : leaf a with
    | false => rfl
    | true => rw [hq] at this; cases this
  have hst := hf.2
  rw [h5, h1] at hst
  exact ⟨by simp, stk_in hst hlf⟩
theorem Eats.inn {t : UInt8} {f : P α} {R : α → List (List Node) → Prop} (h : Eats l f R) (ht : t ≠ 0) (hi : R5.inner t.toNat = true) : Eats l (inn l t.toNat f) (fun v ts => ∃ us, R v us ∧ ts = [ofT t us]) := fun c v c' e hl => by
  unfold Cm.inn at e
  cases hp : take l t.toNat c with
  | error x => rw [hp] at e; cases e
  | ok q =>
    obtain ⟨s, c1⟩ := q
    rw [hp] at e
    obtain ⟨a, n, r, h1, h2, hg, h3, h4, h5, rfl⟩ := take_at hp (fun h => ht (UInt8.toNat_inj.1 h))
    simp only [hg] at e
    have ha := hr a h2
    have htg : a.tag = t := UInt8.toNat_inj.1 h3
    obtain ⟨tg, k, b⟩ := a
    simp only at htg
    subst htg
    unfold right at ha
    simp only [Bool.and_eq_true, beq_iff_eq] at ha
    have hlf : leaf ⟨tg, k, b⟩ = false := by
      have := ha.1.2
      rw [hi] at this
      cases hq : leaf ⟨tg, k, b⟩ with
      | false => rfl
      | true => rw [hq] at this; cases this
    have hb : b = [] := by
      have := ha.2
      rw [hlf, if_neg (by decide)] at this
      simpa using this
    have hk : 0 ≤ k := by
      have h6 : decide (k < 0) = false := hlf
      simp only [decide_eq_false_iff_not] at h6
      omega
    subst hb
    split at e
    · cases e
    · rename_i v2 c2 hf
      have hst := hl.2
      rw [h5, h1] at hst
      obtain ⟨hf2, us, m, r2, k1, k2, k3, k4, k5⟩ := h _ _ _ hf ⟨by simp, stk_in hst hlf⟩
      unfold out at e
      rw [k3] at e
      simp only [List.cons.injEq] at k2
      cases m with
      | succ m => cases e
      | zero =>
        simp only [Except.ok.injEq, Prod.mk.injEq, List.tail_cons] at e
        obtain ⟨rfl, rfl⟩ := e
        obtain ⟨k6, rfl⟩ := k2
        have hk7 : k = ((us.length : Nat) : Int) := by omega
        subst hk7
        have hst2 := hf2.2
        rw [k3] at hst2
        refine ⟨⟨by simp, stk_out hst2⟩, [ofT tg us], n, r, ⟨us, k1, rfl⟩, h5, rfl, ?_, ?_⟩
        · simp only at k4
          rw [h1, k4]
          simp [ofT]
        · simp only at k5
          simp only [k5, ofT, List.flatten_cons, List.flatten_nil, List.append_nil, List.length_cons]
          omega
end
end Go.Px.Cm
