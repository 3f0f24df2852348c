/-
  Several texts in one: The telling of layer 23 (plain law): the program's is the reference's. No program is named here. What is told by layer 23 is read (plain law): whatever is right, its recipients in order, can be told. No program is named here. Recipients in order (plain law of layer 23). No program is named here. The reference's reading of layer 23 as plain functions (its walk goes on behind a fault, and takes nothing more); it reads what the program's reads. No program is named here. The reference's reading of layer 23 agrees with the program's (plain law), to its recipients. No program is named here. The reference's reading of layer 23 agrees with the program's (plain law), whole. No program is named here.
-/
import Derived.Test.YtpfhollohodcjaaGreatDoorXY
/-! The telling of layer 23 (plain law): the program's is the reference's. No program is named here. -/
namespace Go.Px.Cm
open E5 Co
/-! Trees and their bytes; f: no set is out of order -/
def TE (f : Bool) (d : Nat) (u : List Node) (b : Bytes) : Prop := ∃ o, El d u b o ∧ (f = true → o = false)
def RowE (f : Bool) (d : Nat) : List (List Node) → List Bytes → Prop
  | [], bs => bs = []
  | u :: us, bs => ∃ b1 b2, bs = b1 :: b2 ∧ TE f d u b1 ∧ RowE f d us b2
def ordL : Bytes → List Bytes → Bool
  | _, [] => true
  | last, b :: r => !Op.bytesLess b last && ordL b r
section
variable {f : Bool}
theorem row_nil {d : Nat} : RowE f d [] [] := rfl
theorem row_cons {d : Nat} {u : List Node} {us : List (List Node)} {b1 : Bytes} {b2 : List Bytes} (h1 : TE f d u b1) (h2 : RowE f d us b2) : RowE f d (u :: us) (b1 :: b2) := ⟨b1, b2, rfl, h1, h2⟩
theorem row_app {d : Nat} : ∀ {us vs : List (List Node)} {b1 b2 : List Bytes}, RowE f d us b1 → RowE f d vs b2 → RowE f d (us ++ vs) (b1 ++ b2)
  | [], _, _, _, h1, h2 => by
    unfold RowE at h1
    subst h1
    exact h2
  | _ :: _, _, _, _, ⟨x, y, e, h1, h2⟩, h3 => ⟨x, y ++ _, by rw [e, List.cons_append], h1, row_app h2 h3⟩
theorem row_kids {d : Nat} {set : Bool} : ∀ {us : List (List Node)} {bs : List Bytes} (last : Bytes), RowE f d us bs → (f = true → set = true → ordL last bs = true) → ∃ o, Kids (El d) set us.length last us.flatten bs.flatten o ∧ (f = true → o = false)
  | [], bs, last, h, _ => by
    unfold RowE at h
    subst h
    exact ⟨false, ⟨rfl, rfl, rfl⟩, fun _ => rfl⟩
  | u :: us, bs, last, ⟨b1, b2, e, ⟨o1, h1, k1⟩, h2⟩, ho => by
    subst e
    obtain ⟨o2, k, k2⟩ := row_kids (set := set) b1 h2 (fun hf hs => by
      have := ho hf hs
      unfold ordL at this
      simp only [Bool.and_eq_true] at this
      exact this.2)
    refine ⟨_, ⟨u, us.flatten, b1, b2.flatten, o1, o2, rfl, rfl, h1, k, rfl⟩, fun hf => ?_⟩
    rw [k1 hf, k2 hf]
    cases hs : set with
    | false => rfl
    | true =>
      have := ho hf hs
      unfold ordL at this
      simp only [Bool.and_eq_true, Bool.not_eq_true'] at this
      rw [this.1]
      rfl
theorem te_lf {d : Nat} {t : UInt8} {b : Bytes} (h : right ⟨t, -1, b⟩ = true) : TE f d (lf t b) (wrap t b) := ⟨false, El.one h rfl, fun _ => rfl⟩
theorem right_of {t : UInt8} (h1 : R5.tagE t.toNat = 0) (h2 : R5.inner t.toNat = true) (n : Nat) : right ⟨t, n, []⟩ = true ∧ leaf ⟨t, n, []⟩ = false := by
  have hl : leaf ⟨t, n, []⟩ = false := by
    unfold leaf
    rw [decide_eq_false_iff_not]
    show ¬ ((n : Nat) : Int) < 0
    omega
  refine ⟨?_, hl⟩
  unfold right
  rw [hl, h1, h2]
  have : decide (-1 ≤ ((n : Nat) : Int)) = true := by
    rw [decide_eq_true_iff]
    omega
  show (((0 : Int) == 0) && decide (-1 ≤ ((n : Nat) : Int)) && (true == !false) && _) = true
  rw [this]
  rfl
theorem te_set {d : Nat} {t : UInt8} {us : List (List Node)} {bs : List Bytes} (h1 : R5.tagE t.toNat = 0) (h2 : R5.inner t.toNat = true) (h : RowE f d us bs) (ho : f = true → (t.toNat == 49) = true → ordL [] bs = true) : TE f (d + 1) (ofT t us) (wrap t bs.flatten) := by
  obtain ⟨o, k, k2⟩ := row_kids (set := t.toNat == 49) [] h ho
  obtain ⟨r1, r2⟩ := right_of h1 h2 us.length
  exact ⟨o, El.node r1 r2 k, k2⟩
theorem te_of {d : Nat} {t : UInt8} {us : List (List Node)} {bs : List Bytes} (h1 : R5.tagE t.toNat = 0) (h2 : R5.inner t.toNat = true) (h3 : (t.toNat == 49) = false) (h : RowE f d us bs) : TE f (d + 1) (ofT t us) (wrap t bs.flatten) := te_set h1 h2 h fun _ e => by rw [h3] at e; cases e
theorem TE.mono {d e : Nat} (hd : d ≤ e) {u : List Node} {b : Bytes} (h : TE f d u b) : TE f e u b := by
  obtain ⟨o, k, k2⟩ := h
  exact ⟨o, k.mono hd, k2⟩
end
/-! The reference's text -/
def sizedB (size : Int) (tbl : List UInt8) : Bytes :=
  if size % 8 ≠ 0 ∨ size.tdiv 8 - 2 < 0 ∨ 2 < size.tdiv 8 - 2 then wrap 6 [] else wrap 6 (cipherT ++ [tbl.getD (size.tdiv 8 - 2).toNat 0])
def recB (r : Rec) : Bytes :=
  if r.way = 2 then wrap 0xa2 (wrap 2 [4] ++ wrap 0x30 (wrap 4 r.name) ++ wrap 0x30 (sizedB r.size [5, 25, 45]) ++ wrap 4 r.key)
  else wrap 0xa3 (wrap 2 [0] ++ wrap 0xa0 (wrap 6 derivT ++ wrap 0x30 (wrap 4 r.salt ++ wrap 2 (numB r.rounds) ++ wrap 0x30 ((if r.kind = 256 ∨ r.kind = 384 ∨ r.kind = 512 then wrap 6 (digestT ++ [hashB r.kind]) else wrap 6 []) ++ wrap 5 []))) ++ wrap 0x30 (wrap 6 lockT ++ wrap 0x30 (sizedB r.size [2, 22, 42] ++ wrap 4 r.iv)) ++ wrap 4 r.key)
def algB (alg : Int) : Bytes := match algsL.findIdx? (fun a => a == alg) with
  | some i => wrap 6 (sixT.getD i [])
  | none => wrap 6 []
def headB (h : Bytes) : Bytes := if h = [] then [] else 0xa1 :: h.tail
def contB (x : Env) : Bytes := wrap 6 dataT ++ wrap 0x30 (algB x.alg ++ wrap 0x30 (wrap 4 x.iv ++ (if x.tag.length = 12 then [] else wrap 2 (numB x.tag.length)))) ++ wrap 0x80 x.cipher
def bodyB (x : Env) : Bytes := wrap 2 [0] ++ wrap 0x31 (x.to.flatMap recB) ++ wrap 0x30 (contB x) ++ headB x.header ++ wrap 4 x.tag
def textR (x : Env) : Bytes := wrap 0x30 (wrap 6 sealedT ++ wrap 0xa0 (wrap 0x30 (bodyB x)))
def longX (x : Env) : Bool := decide (8 < x.to.length) || decide (70000 < x.header.length) || decide (1024 < x.iv.length) || decide (70000 < x.cipher.length) || decide (16 < x.tag.length) ||
  x.to.any fun r => decide (128 < r.name.length) || decide (1032 < r.key.length) || decide (1000 < r.salt.length) || decide (16 < r.iv.length) || decide (0 < r.loose.length)
noncomputable def tellR (x : Env) : Bytes × Int :=
  if longX x = true then ([], 2)
  else if (read (textR x) mostL).2 ≠ 0 ∨ x ≠ (read (textR x) mostL).1 then ([], 2)
  else (textR x, 0)
/-! What is right is told alike -/
theorem right_lf {t : UInt8} {b : Bytes} (h1 : R5.tagE t.toNat = 0) (h2 : R5.inner t.toNat = false) (h3 : R5.body t.toNat b = true) : right ⟨t, -1, b⟩ = true := by
  have hl : leaf ⟨t, -1, b⟩ = true := rfl
  unfold right
  rw [hl, if_pos rfl, h3, h1, h2]
  rfl
theorem te_oct {f : Bool} {d : Nat} (b : Bytes) : TE f d (lf 4 b) (wrap 4 b) := te_lf (right_lf rfl rfl (by simp [R5.body]))
theorem te_ctx {f : Bool} {d : Nat} (b : Bytes) : TE f d (lf 0x80 b) (wrap 0x80 b) := te_lf (right_lf rfl rfl (by simp [R5.body]))
theorem right_num {n : Nat} (h1 : n ≤ 4096) : right ⟨2, -1, numB (n : Nat)⟩ = true := by
  refine right_lf rfl rfl ?_
  rw [strip_small _ (by omega)]
  split
  · simp [R5.body]
  · have h7 : (UInt8.ofNat (n / 256)).toNat = n / 256 := by simp; omega
    have h6 : (UInt8.ofNat (n % 256)).toNat = n % 256 := by simp
    generalize UInt8.ofNat (n / 256) = a at h7
    generalize UInt8.ofNat (n % 256) = b at h6
    simp [R5.body]
    omega
theorem te_sized {f : Bool} {d : Nat} {i : Nat} (hi : i < 3) (tbl : List UInt8) (hk : tbl = [5, 25, 45] ∨ tbl = [2, 22, 42]) : TE f d (sizedT (16 + 8 * (i : Int)) tbl) (sizedB (16 + 8 * (i : Int)) tbl) := by
  rcases hk with rfl | rfl
  · match i, hi with
    | 0, _ => exact te_lf (by decide)
    | 1, _ => exact te_lf (by decide)
    | 2, _ => exact te_lf (by decide)
  · match i, hi with
    | 0, _ => exact te_lf (by decide)
    | 1, _ => exact te_lf (by decide)
    | 2, _ => exact te_lf (by decide)
theorem te_hash {f : Bool} {d : Nat} {i : Nat} (hi : i < 3) : TE f d (lf 6 (digestT ++ [hashB (256 + 128 * (i : Int))])) (if (256 + 128 * (i : Int)) = 256 ∨ (256 + 128 * (i : Int)) = 384 ∨ (256 + 128 * (i : Int)) = 512 then wrap 6 (digestT ++ [hashB (256 + 128 * (i : Int))]) else wrap 6 []) := by
  rw [if_pos (by omega)]
  match i, hi with
  | 0, _ => exact te_lf (by decide)
  | 1, _ => exact te_lf (by decide)
  | 2, _ => exact te_lf (by decide)
theorem te_rec {f : Bool} {r : Rec} (h : RecOk 4096 r) : TE f 5 (recT r) (recB r) := by
  cases h with
  | wrap nm k i hi h1 h2 =>
    have := te_of (f := f) (d := 4) (t := 0xa2) rfl rfl rfl (row_cons (te_lf (t := 2) (b := [4]) (by decide)) (row_cons (te_of (d := 3) (t := 0x30) rfl rfl rfl (row_cons (te_oct nm) row_nil)) (row_cons (te_of (d := 3) (t := 0x30) rfl rfl rfl (row_cons (te_sized hi [5, 25, 45] (.inl rfl)) row_nil)) (row_cons (te_oct k) row_nil))))
    simp only [List.flatten_cons, List.flatten_nil, List.append_nil, ← List.append_assoc] at this
    exact this
  | pass salt k iv n i j hi hj h1 h2 h3 hn =>
    have hw := te_of (f := f) (d := 1) (t := 0x30) rfl rfl rfl (row_cons (te_hash hi) (row_cons (te_lf (t := 5) (b := []) (by decide)) row_nil))
    have hh := te_of (f := f) (d := 3) (t := 0xa0) rfl rfl rfl (row_cons (te_lf (t := 6) (b := derivT) (by decide)) (row_cons (te_of (d := 2) (t := 0x30) rfl rfl rfl (row_cons (te_oct salt) (row_cons (te_lf (t := 2) (b := numB (n : Nat)) (right_num (by omega))) (row_cons hw row_nil)))) row_nil))
    have hlk := te_of (f := f) (d := 3) (t := 0x30) rfl rfl rfl (row_cons (te_lf (t := 6) (b := lockT) (by decide)) (row_cons (te_of (d := 2) (t := 0x30) rfl rfl rfl (row_cons (te_sized hj [2, 22, 42] (.inr rfl)) (row_cons (te_oct iv) row_nil))) row_nil))
    have := te_of (f := f) (d := 4) (t := 0xa3) rfl rfl rfl (row_cons (te_lf (t := 2) (b := [0]) (by decide)) (row_cons hh (row_cons hlk (row_cons (te_oct k) row_nil))))
    simp only [List.flatten_cons, List.flatten_nil, List.append_nil, ← List.append_assoc] at this
    exact this
theorem te_recs {f : Bool} : ∀ (rs : List Rec), (∀ r ∈ rs, RecOk 4096 r) → RowE f 5 (rs.map recT) (rs.map recB)
  | [], _ => rfl
  | r :: rs, h => row_cons (te_rec (h r (List.mem_cons_self ..))) (te_recs rs fun x hx => h x (List.mem_cons_of_mem _ hx))
theorem te_alg {f : Bool} {d i : Nat} (hi : i < 6) : TE f d (algT (algsL.getD i 0)) (algB (algsL.getD i 0)) := by
  match i, hi with
  | 0, _ => exact te_lf (by decide)
  | 1, _ => exact te_lf (by decide)
  | 2, _ => exact te_lf (by decide)
  | 3, _ => exact te_lf (by decide)
  | 4, _ => exact te_lf (by decide)
  | 5, _ => exact te_lf (by decide)
theorem te_cont {f : Bool} {x : Env} {i : Nat} (h : ContOk ((i, x.iv, x.tag.length), x.cipher)) (ha : x.alg = algsL.getD i 0) : TE f 3 (contT x.alg x.iv x.cipher x.tag.length) (wrap 0x30 (contB x)) := by
  have hn : x.tag.length ≤ 16 := by
    rcases h.2.2.1 with e | e
    · exact Nat.le_trans (Nat.le_of_eq e) (by decide)
    · exact (tagged_le e).1
  have hp : TE f 1 (ofT 0x30 (sizeUs x.iv x.tag.length)) (wrap 0x30 (wrap 4 x.iv ++ (if x.tag.length = 12 then [] else wrap 2 (numB x.tag.length)))) := by
    unfold sizeUs
    split
    · exact te_of (d := 0) rfl rfl rfl (row_cons (te_oct _) row_nil)
    · have := te_of (f := f) (d := 0) (t := 0x30) rfl rfl rfl (row_cons (te_oct x.iv) (row_cons (te_lf (t := 2) (b := numB (x.tag.length : Nat)) (right_num (by omega))) row_nil))
      simpa using this
  have hA : TE f 1 (algT x.alg) (algB x.alg) := by rw [ha]; exact te_alg h.1
  have hq := te_of (d := 1) (t := 0x30) rfl rfl rfl (row_cons hA (row_cons hp row_nil))
  have := te_of (d := 2) (t := 0x30) rfl rfl rfl (row_cons (te_lf (t := 6) (b := dataT) (by decide)) (row_cons hq (row_cons (te_ctx x.cipher) row_nil)))
  simp only [List.flatten_cons, List.flatten_nil, List.append_nil, ← List.append_assoc] at this
  unfold contT contB
  exact this
theorem kids_plain {R : List Node → Bytes → Bool → Prop} {set : Bool} : ∀ {n : Nat} {last : Bytes} {l : List Node} {b : Bytes} {o : Bool}, Kids R set n last l b o → ∀ last2, ∃ o2, Kids R false n last2 l b o2 ∧ (o = false → o2 = false)
  | 0, _, _, _, _, h => fun _ => ⟨false, ⟨h.1, h.2.1, rfl⟩, fun _ => rfl⟩
  | _ + 1, _, _, _, _, ⟨x, r, bx, br, o1, o2, e1, e2, h1, h2, e3⟩ => fun _ => by
    obtain ⟨o3, k, k2⟩ := kids_plain h2 bx
    refine ⟨_, ⟨x, r, bx, br, o1, o3, e1, e2, h1, k, rfl⟩, fun ho => ?_⟩
    rw [ho] at e3
    cases o1 with
    | true => cases e3
    | false =>
      cases o2 with
      | true => simp at e3
      | false => rw [k2 rfl]; rfl
/-- The attributes' elements, as they stand in the whole. -/
theorem te_heads {f : Bool} {h : Bytes} {hs : List (List Node)} (k : Heads h hs) : (∃ bs, RowE f 32 hs bs ∧ bs.flatten = headB h) ∧ h.length ≤ 70000 := by
  rcases k with ⟨rfl, rfl⟩ | ⟨us, _, rfl, ha⟩
  · exact ⟨⟨[], rfl, rfl⟩, by simp⟩
  · unfold attrT at ha
    split at ha
    · cases ha
    · rename_i h1
      split at ha
      · cases ha
      · rename_i h2
        simp only [Except.ok.injEq] at ha
        rw [ha] at h2
        refine ⟨?_, by omega⟩
        cases enc_of (by omega) ha with
        | ok _ _ k1 _ =>
          have hr := right_of (t := 0xa1) rfl rfl us.length
          rcases k1 with ⟨a, e, _, k2, _⟩ | ⟨a, r, br, e, _, _, k2, k3⟩
          · simp only [setOf, ofT, List.cons.injEq] at e
            rw [← e.1] at k2
            exact absurd k2 (by unfold leaf; simp)
          · simp only [setOf, ofT, List.cons.injEq] at e
            obtain ⟨rfl, rfl⟩ := e
            obtain ⟨o2, k4, k5⟩ := kids_plain k2 []
            have hE : TE f 32 (ofT 0xa1 us) (wrap 0xa1 br) := ⟨o2, El.node hr.1 hr.2 k4, fun _ => k5 rfl⟩
            have hb : headB h = wrap 0xa1 br := by
              unfold headB
              rw [k3]
              rfl
            exact ⟨_, row_cons hE row_nil, by rw [hb]; simp⟩
theorem te_within {f : Bool} {d : Nat} {x : Env} {hs : List (List Node)} {bs : List Bytes} (hd : 6 ≤ d) (hx : EnvOk 4096 x) (hbr : RowE f d hs bs) (hbe : bs.flatten = headB x.header) (ho : f = true → ordL [] (x.to.map recB) = true) : TE f (d + 3) (wholeT x hs) (textR x) := by
  obtain ⟨i, hc, ha⟩ := hx.cont
  have h1 : TE f d (ofT 0x31 (x.to.map recT)) (wrap 0x31 (x.to.flatMap recB)) := (te_set (d := 5) rfl rfl (te_recs _ hx.to.2.2) fun hf _ => ho hf).mono hd
  have h2 : TE f d (contT x.alg x.iv x.cipher x.tag.length) (wrap 0x30 (contB x)) := (te_cont hc ha).mono (by omega)
  have h3 := row_app (row_app (row_cons (te_lf (d := d) (t := 2) (b := [0]) (by decide)) (row_cons h1 (row_cons h2 row_nil))) hbr) (row_cons (te_oct (d := d) x.tag) row_nil)
  have h4 := te_of (d := d) (t := 0x30) rfl rfl rfl h3
  have h5 := te_of (d := d + 2) (t := 0x30) rfl rfl rfl (row_cons (te_lf (t := 6) (b := sealedT) (by decide)) (row_cons (te_of (d := d + 1) (t := 0xa0) rfl rfl rfl (row_cons h4 row_nil)) row_nil))
  simp only [List.flatten_cons, List.flatten_append, hbe, List.flatten_nil, List.append_nil, ← List.append_assoc] at h5
  exact h5
theorem not_long {x : Env} {hs : List (List Node)} (hx : EnvOk 4096 x) (hh : Heads x.header hs) : longX x = false := by
  obtain ⟨i, hc, ha⟩ := hx.cont
  have h1 := (te_heads (f := false) hh).2
  have h2 := hx.to.2.1
  have h3 : x.iv.length ≤ 1024 := by
    have h9 := hc.2.1.2
    simp only at h9
    split at h9 <;> omega
  have h4 : x.cipher.length ≤ 70000 := hc.2.2.2.1
  have h5 : x.tag.length ≤ 16 := by
    rcases hc.2.2.1 with e | e
    · exact Nat.le_trans (Nat.le_of_eq e) (by decide)
    · exact (tagged_le e).1
  have h6 : (x.to.any fun r => decide (128 < r.name.length) || decide (1032 < r.key.length) || decide (1000 < r.salt.length) || decide (16 < r.iv.length) || decide (0 < r.loose.length)) = false := by
    rw [List.any_eq_false]
    intro r hr
    cases hx.to.2.2 r hr with
    | wrap nm k i hi h1 h2 => simp; omega
    | pass salt k iv n i j hi hj h1 h2 h3 hn => simp; omega
  unfold longX
  rw [h6, decide_eq_false (by omega), decide_eq_false (by omega), decide_eq_false (by omega), decide_eq_false (by omega), decide_eq_false (by omega)]
  rfl
end Go.Px.Cm

/-! What is told by layer 23 is read (plain law): whatever is right, its recipients in order, can be told. No program is named here. -/
namespace Go.Px.Cm
open E5 Co
variable {α β : Type} {l : List Node}
/-- These elements come, and are read so; k are left behind them. -/
def Feeds (l : List Node) (k : Nat → Prop) (p : P α) (v : α) (ts : List (List Node)) : Prop := ∀ c m r rest, k m → c.left = (m + ts.length) :: r → l.drop c.at_ = ts.flatten ++ rest → p c = .ok (v, ⟨c.at_ + ts.flatten.length, m :: r⟩)
def any' (_ : Nat) : Prop := True
def none' (m : Nat) : Prop := m = 0
theorem Feeds.last {p : P α} {v : α} {ts : List (List Node)} (h : Feeds l any' p v ts) (k : Nat → Prop) : Feeds l k p v ts := fun c m r rest _ => h c m r rest trivial
theorem feeds_ret (k : Nat → Prop) (a : α) : Feeds l k (ret a) a [] := fun c m r rest _ h _ => by
  show Except.ok (a, c) = _
  obtain ⟨p, q⟩ := c
  simp only at h
  subst h
  rfl
theorem Feeds.bnd {k : Nat → Prop} {p : P α} {f : α → P β} {a : α} {b : β} {t1 t2 : List (List Node)} (h1 : Feeds l any' p a t1) (h2 : Feeds l k (f a) b t2) : Feeds l k (bnd p f) b (t1 ++ t2) := fun c m r rest hk hl hd => by
  rw [List.length_append] at hl
  rw [List.flatten_append, List.append_assoc] at hd
  unfold Cm.bnd
  rw [h1 c (m + t2.length) r (t2.flatten ++ rest) trivial (by rw [hl]; congr 1; omega) hd]
  have hd2 : l.drop (c.at_ + t1.flatten.length) = t2.flatten ++ rest := by rw [← List.drop_drop, hd, List.drop_left]
  show f a _ = _
  rw [h2 ⟨c.at_ + t1.flatten.length, (m + t2.length) :: r⟩ m r rest hk rfl hd2, List.flatten_append, List.length_append, Nat.add_assoc]
theorem peek_of {c : Cu} {m : Nat} {r : List Nat} {rest x : List Node} {a : Node} {ts : List (List Node)} (h1 : c.left = (m + ((a :: x) :: ts).length) :: r) (h2 : l.drop c.at_ = ((a :: x) :: ts).flatten ++ rest) : peek l c = a.tag.toNat ∧ l.getD c.at_ nz = a := by
  have hg : l.getD c.at_ nz = a := by
    have := congrArg (fun x => x[0]?) h2
    simp at this
    simp [List.getD, this]
  refine ⟨?_, hg⟩
  unfold peek
  rw [h1, List.length_cons, ← Nat.add_assoc, hg]
theorem Feeds.bar {k : Nat → Prop} {p : P α} {v : α} {a : Node} {u : List Node} {ts : List (List Node)} {b : Cu → Bool} {e : Int} (h : Feeds l k p v (u :: ts)) (hu : u.head? = some a) (hb : ∀ c, peek l c = a.tag.toNat → b c = false) : Feeds l k (bar b e p) v (u :: ts) := fun c m r rest hk hl hd => by
  cases u with
  | nil => cases hu
  | cons a' x =>
    simp only [List.head?_cons, Option.some.injEq] at hu
    subst hu
    unfold Cm.bar
    rw [hb c (peek_of hl hd).1, if_neg (by decide)]
    exact h c m r rest hk hl hd
/-- Nothing is left. -/
theorem feeds_end {a : α} {b : Cu → Bool} {e : Int} (hb : ∀ c, peek l c = 0 → b c = false) : Feeds l none' (bar b e (ret a)) a [] := fun c m r rest hk hl hd => by
  unfold Cm.bar
  have hp : peek l c = 0 := by
    unfold peek
    rw [hl, show m = 0 from hk]
    rfl
  rw [hb c hp, if_neg (by decide)]
  exact feeds_ret none' a c m r rest hk hl hd
theorem feeds_take (t : UInt8) (s : Bytes) : Feeds l any' (take l t.toNat) s [lf t s] := fun c m r rest _ hl hd => by
  obtain ⟨h1, h2⟩ := peek_of (a := ⟨t, -1, s⟩) (x := []) (ts := []) hl hd
  unfold take
  rw [if_pos h1, h2, hl]
  rfl
theorem Feeds.inn {t : UInt8} {f : P α} {v : α} {us : List (List Node)} (h : Feeds l none' f v us) : Feeds l any' (inn l t.toNat f) v [ofT t us] := fun c m r rest _ hl hd => by
  obtain ⟨h1, h2⟩ := peek_of (a := ⟨t, us.length, []⟩) (x := us.flatten) (ts := []) hl hd
  have hd2 : l.drop (c.at_ + 1) = us.flatten ++ rest := by
    have : l.drop c.at_ = ⟨t, us.length, []⟩ :: (us.flatten ++ rest) := by
      rw [hd]
      simp [ofT]
    exact E5.drop_next this
  unfold Cm.inn take
  rw [if_pos h1]
  dsimp only
  rw [h2]
  have hk : ((us.length : Nat) : Int).toNat = us.length := by omega
  have e := h ⟨c.at_ + 1, us.length :: dec c.left⟩ 0 (dec c.left) rest rfl (by rw [Nat.zero_add]) hd2
  rw [hk, e]
  have hl2 : dec c.left = m :: r := by rw [hl]; rfl
  unfold out
  rw [hl2]
  simp only [List.tail_cons, ofT, List.flatten_cons, List.flatten_nil, List.append_nil, List.length_cons]
  congr 3
  omega
theorem feeds_if {c : Prop} [Decidable c] (h : c) (a : α) (e : Int) : Feeds l any' (if c then ret a else fail e) a [] := by
  rw [if_pos h]
  exact feeds_ret _ a
theorem feeds_kind {tbl : List Bytes} {s : Bytes} {i : Nat} (h : tbl.findIdx? (fun t => t == s) = some i) : Feeds l any' (kind l tbl) i [lf 6 s] :=
  (feeds_take 6 s).bnd (t2 := []) (by rw [h]; exact feeds_ret _ i)
theorem feeds_version (v : Bytes) : Feeds l any' (version l v) () [lf 2 v] := (feeds_take 2 v).bnd (t2 := []) (feeds_if rfl () 11)
theorem feeds_octs {a b m : Nat} {s : Bytes} (h : a ≤ s.length ∧ s.length ≤ b ∧ s.length % m = 0) : Feeds l any' (octs l a b m) s [lf 4 s] := (feeds_take 4 s).bnd (t2 := []) (feeds_if h s 9)
theorem num_numB {n : Nat} (h : n ≤ 4096) : num (numB (n : Nat)) = n ∧ (numB (n : Nat)).length ≤ 2 ∧ ((numB (n : Nat)).getD 0 0).toNat < 128 ∧ (1 ≤ n → numB (n : Nat) ≠ [0]) := by
  rw [strip_small _ (by omega)]
  split
  · rename_i c
    have h7 : (UInt8.ofNat n).toNat = n := by simp; omega
    refine ⟨by rw [num_one, h7], by simp, by simp; omega, fun h1 e => ?_⟩
    simp only [List.cons.injEq, and_true] at e
    rw [e] at h7
    have : n = 0 := h7.symm
    omega
  · rename_i c
    have h7 : (UInt8.ofNat (n / 256)).toNat = n / 256 := by simp; omega
    have h6 : (UInt8.ofNat (n % 256)).toNat = n % 256 := by simp
    refine ⟨by rw [num_two, h7, h6]; omega, by simp, by rw [List.getD_cons_zero, h7]; omega, fun _ => by simp⟩
theorem feeds_rounds {lim : Lim} {n : Nat} (h1 : 1 ≤ n) (h2 : n ≤ 4096) (h3 : (n : Int) ≤ lim.r) : Feeds l any' (rounds l lim) n [lf 2 (numB (n : Nat))] := by
  obtain ⟨k1, k2, k3, k4⟩ := num_numB h2
  refine (feeds_take 2 _).bnd (t2 := []) ?_
  rw [if_neg (by rintro (e | e); omega; exact k4 h1 e), if_neg (by rintro (e | e); omega; omega), k1]
  exact feeds_ret _ n
theorem sized_at {i : Nat} (hi : i < 3) : ∃ s, sizedT (16 + 8 * (i : Int)) [5, 25, 45] = lf 6 s ∧ wrapT.findIdx? (fun t => t == s) = some i := by
  match i, hi with
  | 0, _ => exact ⟨_, rfl, by decide⟩
  | 1, _ => exact ⟨_, rfl, by decide⟩
  | 2, _ => exact ⟨_, rfl, by decide⟩
theorem lock_at {i : Nat} (hi : i < 3) : ∃ s, sizedT (16 + 8 * (i : Int)) [2, 22, 42] = lf 6 s ∧ lockTs.findIdx? (fun t => t == s) = some i := by
  match i, hi with
  | 0, _ => exact ⟨_, rfl, by decide⟩
  | 1, _ => exact ⟨_, rfl, by decide⟩
  | 2, _ => exact ⟨_, rfl, by decide⟩
theorem hash_at {i : Nat} (hi : i < 3) : hashT.findIdx? (fun t => t == digestT ++ [hashB (256 + 128 * (i : Int))]) = some i := by
  match i, hi with
  | 0, _ => decide
  | 1, _ => decide
  | 2, _ => decide
theorem six_at {i : Nat} (hi : i < 6) : ∃ s, algT (algsL.getD i 0) = lf 6 s ∧ sixT.findIdx? (fun t => t == s) = some i := by
  match i, hi with
  | 0, _ => exact ⟨_, rfl, by decide⟩
  | 1, _ => exact ⟨_, rfl, by decide⟩
  | 2, _ => exact ⟨_, rfl, by decide⟩
  | 3, _ => exact ⟨_, rfl, by decide⟩
  | 4, _ => exact ⟨_, rfl, by decide⟩
  | 5, _ => exact ⟨_, rfl, by decide⟩
theorem feeds_recip {lim : Lim} (hl : lim.r = 4096) {r : Rec} (h : RecOk 4096 r) : Feeds l any' (recip l lim) r [recT r] := fun c m q rest hk hq hd => by
  cases h with
  | wrap nm k i hi h1 h2 =>
    obtain ⟨s, hs1, hs2⟩ := sized_at hi
    have F : Feeds l any' (inn l 0xa2 (wrapped l)) ⟨2, 16 + 8 * i, 0, nm, k, [], 0, [], []⟩ [ofT 0xa2 [lf 2 [4], ofT 0x30 [lf 4 nm], ofT 0x30 [lf 6 s], lf 4 k]] := by
      refine Feeds.inn (t := 0xa2) (Feeds.last ?_ none')
      refine (feeds_version [4]).bnd (t1 := [_]) (t2 := [_, _, _]) ?_
      refine Feeds.bnd (t1 := [_]) (t2 := [_, _]) (Feeds.inn (t := 0x30) ((feeds_octs (s := nm) ⟨h1.1, h1.2, Nat.mod_one _⟩).bnd (t1 := [_]) (t2 := []) (feeds_end fun c e => by rw [e]; rfl))) ?_
      refine Feeds.bnd (t1 := [_]) (t2 := [_]) (Feeds.inn (t := 0x30) ((feeds_kind hs2).last none')) ?_
      exact (feeds_octs (s := k) h2).bnd (t2 := []) (feeds_ret _ _)
    have hp : peek l c = 0xa2 := (peek_of (a := ⟨0xa2, 4, []⟩) (x := _) (ts := []) hq hd).1
    unfold recip
    rw [if_pos hp]
    have hT : recT ⟨2, 16 + 8 * i, 0, nm, k, [], 0, [], []⟩ = ofT 0xa2 [lf 2 [4], ofT 0x30 [lf 4 nm], ofT 0x30 [lf 6 s], lf 4 k] := by rw [← hs1]; rfl
    rw [hT] at hq hd ⊢
    exact F c m q rest hk hq hd
  | pass salt k iv n i j hi hj h1 h2 h3 hn =>
    obtain ⟨s, hs1, hs2⟩ := lock_at hj
    have F : Feeds l any' (inn l 0xa3 (password l lim)) ⟨3, 16 + 8 * j, 256 + 128 * i, [], k, salt, n, iv, []⟩ [ofT 0xa3 [lf 2 [0], ofT 0xa0 [lf 6 derivT, ofT 0x30 [lf 4 salt, lf 2 (numB (n : Nat)), ofT 0x30 [lf 6 (digestT ++ [hashB (256 + 128 * (i : Int))]), lf 5 []]]], ofT 0x30 [lf 6 lockT, ofT 0x30 [lf 6 s, lf 4 iv]], lf 4 k]] := by
      refine Feeds.inn (t := 0xa3) (Feeds.last ?_ none')
      refine (feeds_version [0]).bnd (t1 := [_]) (t2 := [_, _, _]) ?_
      refine Feeds.bnd (a := (salt, n, i)) (t1 := [_]) (t2 := [_, _]) (Feeds.inn (t := 0xa0) (Feeds.last ?_ none')) ?_
      · refine (feeds_kind (i := 0) (by decide)).bnd (t1 := [_]) (t2 := [_]) (Feeds.inn (t := 0x30) (Feeds.last ?_ none'))
        refine (feeds_octs (s := salt) ⟨h1.1, h1.2, Nat.mod_one _⟩).bnd (t1 := [_]) (t2 := [_, _]) ?_
        refine (feeds_rounds hn.1 (by omega) (by omega)).bnd (t1 := [_]) (t2 := [_]) ?_
        refine Feeds.bar (a := ⟨0x30, 2, []⟩) ?_ rfl (fun c e => by rw [e]; rfl)
        refine Feeds.bnd (t1 := [_]) (t2 := []) (Feeds.inn (t := 0x30) (Feeds.last ?_ none')) (feeds_ret _ _)
        exact (feeds_kind (hash_at hi)).bnd (t1 := [_]) (t2 := [_]) ((feeds_take 5 []).bnd (t1 := [_]) (t2 := []) (feeds_ret _ i))
      · refine Feeds.bnd (a := (j, iv)) (t1 := [_]) (t2 := [_]) (Feeds.inn (t := 0x30) (Feeds.last ?_ none')) ?_
        · refine (feeds_kind (i := 0) (by decide)).bnd (t1 := [_]) (t2 := [_]) (Feeds.inn (t := 0x30) (Feeds.last ?_ none'))
          exact (feeds_kind hs2).bnd (t1 := [_]) (t2 := [_]) ((feeds_octs (s := iv) ⟨by omega, by omega, Nat.mod_one _⟩).bnd (t1 := [_]) (t2 := []) (feeds_ret _ _))
        · exact (feeds_octs (s := k) h2).bnd (t2 := []) (feeds_ret _ _)
    have hp : peek l c = 0xa3 := (peek_of (a := ⟨0xa3, 4, []⟩) (x := _) (ts := []) hq hd).1
    unfold recip
    rw [if_neg (by rw [hp]; decide), if_pos hp]
    have hT : recT ⟨3, 16 + 8 * j, 256 + 128 * i, [], k, salt, n, iv, []⟩ = ofT 0xa3 [lf 2 [0], ofT 0xa0 [lf 6 derivT, ofT 0x30 [lf 4 salt, lf 2 (numB (n : Nat)), ofT 0x30 [lf 6 (digestT ++ [hashB (256 + 128 * (i : Int))]), lf 5 []]]], ofT 0x30 [lf 6 lockT, ofT 0x30 [lf 6 s, lf 4 iv]], lf 4 k] := by rw [← hs1]; rfl
    rw [hT] at hq hd ⊢
    exact F c m q rest hk hq hd
theorem feeds_recipN {lim : Lim} (hl : lim.r = 4096) : ∀ rs : List Rec, (∀ r ∈ rs, RecOk 4096 r) → Feeds l any' (recipN l lim rs.length) rs (rs.map recT)
  | [], _ => feeds_ret _ []
  | r :: rs, h => by
    have h1 := feeds_recip (l := l) hl (h r (List.mem_cons_self ..))
    have h2 := feeds_recipN hl rs fun x hx => h x (List.mem_cons_of_mem _ hx)
    have h3 : Feeds l any' (Cm.bnd (recipN l lim rs.length) fun rs => ret (r :: rs)) (r :: rs) (rs.map recT ++ []) := Feeds.bnd h2 (feeds_ret any' (r :: rs))
    rw [List.append_nil] at h3
    exact h1.bnd (t1 := [_]) (f := fun r => Cm.bnd (recipN l lim rs.length) fun rs => ret (r :: rs)) h3
theorem feeds_recips {lim : Lim} (hl : lim.r = 4096) {rs : List Rec} (h1 : 1 ≤ rs.length) (h2 : rs.length ≤ 8) (h : ∀ r ∈ rs, RecOk 4096 r) : Feeds l none' (recips l lim) rs (rs.map recT) := fun c m q rest hk hq hd => by
  have hc : c.left.headD 0 = rs.length := by
    rw [hq, show m = 0 from hk, List.length_map, Nat.zero_add]
    rfl
  unfold recips
  rw [hc, if_neg (by omega), if_neg (by omega)]
  exact feeds_recipN hl rs h c m q rest trivial hq hd
/-! The content, and what stands beside it -/
theorem feeds_params {i : Nat} {iv : Bytes} {n : Nat} (h1 : ivOk i iv) (h2 : n = 12 ∨ tagged n (decide (2 < i)) = true) : Feeds l none' (params l (decide (2 < i))) (iv, n) (sizeUs iv n) := by
  have ho : (if decide (2 < i) = true then 7 else 1) ≤ iv.length ∧ iv.length ≤ (if decide (2 < i) = true then 13 else 1024) ∧ iv.length % 1 = 0 := by
    unfold ivOk at h1
    by_cases c : 2 < i
    · rw [decide_eq_true c, if_pos rfl, if_pos rfl]
      rw [if_pos c, if_pos c] at h1
      exact ⟨h1.1, h1.2, Nat.mod_one _⟩
    · rw [decide_eq_false c, if_neg (by decide), if_neg (by decide)]
      rw [if_neg c, if_neg c] at h1
      exact ⟨h1.1, h1.2, Nat.mod_one _⟩
  unfold sizeUs
  by_cases hn : n = 12
  · rw [if_pos hn, hn]
    refine Feeds.bnd (t1 := [_]) (t2 := []) (feeds_octs ho) (fun c m r rest hk hl hd => ?_)
    have hp : peek l c = 0 := by
      unfold peek
      rw [hl, show m = 0 from hk]
      rfl
    rw [if_neg (by rw [hp]; decide)]
    exact feeds_ret none' (iv, 12) c m r rest hk hl hd
  · rw [if_neg hn]
    have ht : tagged n (decide (2 < i)) = true := h2.resolve_left hn
    have hn2 := (tagged_le ht).1
    refine Feeds.bnd (t1 := [_]) (t2 := [_]) (feeds_octs ho) (fun c m r rest hk hl hd => ?_)
    have hp : peek l c = 2 := (peek_of (a := ⟨2, -1, numB (n : Nat)⟩) (x := []) (ts := []) hl hd).1
    rw [if_pos hp]
    have hs : numB (n : Nat) = [UInt8.ofNat n] := by rw [strip_small _ (by omega), if_pos (by omega)]
    have h7 : (UInt8.ofNat n).toNat = n := by simp; omega
    have hF : Feeds l none' (sizeP l iv (decide (2 < i))) (iv, n) [lf 2 (numB (n : Nat))] := by
      refine (feeds_take 2 _).bnd (t1 := [_]) (t2 := []) ?_
      rw [hs]
      simp only [List.getD_cons_zero, h7]
      exact (feeds_if ⟨rfl, ht⟩ _ _).last none'
    exact hF c m r rest hk hl hd
theorem feeds_content {a : (Nat × Bytes × Nat) × Bytes} (h : ContOk a) : Feeds l any' (content l) a [contT (algsL.getD a.1.1 0) a.1.2.1 a.2 a.1.2.2] := by
  obtain ⟨⟨i, iv, n⟩, s⟩ := a
  obtain ⟨h1, h2, h3, h4, h5⟩ := h
  obtain ⟨t, ht1, ht2⟩ := six_at h1
  show Feeds l any' (content l) ((i, iv, n), s) [ofT 0x30 [lf 6 dataT, ofT 0x30 [algT (algsL.getD i 0), ofT 0x30 (sizeUs iv n)], lf 0x80 s]]
  rw [ht1]
  refine Feeds.inn (t := 0x30) (Feeds.last ?_ none')
  refine (feeds_kind (i := 0) (by decide)).bnd (t1 := [_]) (t2 := [_, _]) ?_
  refine Feeds.bnd (a := (i, iv, n)) (t1 := [_]) (t2 := [_]) (Feeds.inn (t := 0x30) (Feeds.last ?_ none')) ?_
  · refine (feeds_kind ht2).bnd (t1 := [_]) (t2 := [_]) ?_
    exact Feeds.bnd (a := (iv, n)) (t1 := [_]) (t2 := []) (Feeds.inn (t := 0x30) (feeds_params h2 h3)) (feeds_ret _ _)
  · refine Feeds.bar (a := ⟨0x80, -1, s⟩) ?_ rfl (fun c e => by rw [e]; rfl)
    refine Feeds.bnd (a := s) (t1 := [_]) (t2 := []) ?_ (feeds_ret _ _)
    refine (feeds_take 0x80 s).bnd (t1 := [_]) (t2 := []) ?_
    rw [if_neg (by rintro (e | e); simp only at h4; omega; exact h5 e)]
    exact feeds_ret _ s
/-- The attributes that Attributes makes. -/
def besideUs (d : Bytes) : List (List Node) := [ofT 0x30 [lf 6 besideT, ofT 0x31 [lf 4 d]]]
/-- What may stand there. -/
inductive Bes : Bytes → List (List Node) → Prop
  | none : Bes [] []
  | some (d h : Bytes) (ha : attrT (ofT 0xa1 (besideUs d)) = .ok h) : Bes h [ofT 0xa1 (besideUs d)]
theorem feeds_tail {h t : Bytes} {hs : List (List Node)} {e : Env} (hb : Bes h hs) {f : Bytes → Bytes → Env} (he : f h t = e) :
    Feeds l none' (Cm.bnd (beside l) fun h => Cm.bnd (octs l t.length t.length 1) fun t => bar (fun c => peek l c == 0xa2) 11 (ret (f h t))) e (hs ++ [lf 4 t]) := by
  have hT : ∀ h', f h' t = e → Feeds l none' (Cm.bnd (octs l t.length t.length 1) fun t => bar (fun c => peek l c == 0xa2) 11 (ret (f h' t))) e [lf 4 t] := fun h' he' => by
    rw [← he']
    exact (feeds_octs (s := t) ⟨Nat.le_refl _, Nat.le_refl _, Nat.mod_one _⟩).bnd (t1 := [_]) (t2 := []) (feeds_end fun c e => by rw [e]; rfl)
  cases hb with
  | none =>
    intro c m r rest hk hl hd
    have hp : peek l c = 4 := (peek_of (a := ⟨4, -1, t⟩) (x := []) (ts := []) hl hd).1
    have hbe : beside l c = .ok ([], c) := by
      unfold beside
      rw [if_neg (by rw [hp]; decide)]
    unfold Cm.bnd
    rw [hbe]
    exact hT [] he c m r rest hk hl hd
  | some d h ha =>
    refine Feeds.bnd (a := h) (t1 := [_]) (t2 := [_]) (fun c m r rest _ hl hd => ?_) (hT h he)
    obtain ⟨hp, hg⟩ := peek_of (a := ⟨0xa1, 1, []⟩) (x := (besideUs d).flatten) (ts := []) hl hd
    have hF : Feeds l any' (inn l 0xa1 (attrP l)) () [ofT 0xa1 (besideUs d)] := by
      refine Feeds.inn (t := 0xa1) (fun c m r rest hk hl hd => ?_)
      have hn : c.left.headD 0 = 1 := by
        rw [hl, show m = 0 from hk]
        rfl
      have hA : Feeds l any' (attrN l 1) () (besideUs d) := by
        refine Feeds.bnd (a := ()) (t1 := [_]) (t2 := []) (Feeds.inn (t := 0x30) (Feeds.last ?_ none')) (feeds_ret _ ())
        refine (feeds_take 6 _).bnd (t1 := [_]) (t2 := [_]) (Feeds.inn (t := 0x31) (fun c m r rest hk hl hd => ?_))
        obtain ⟨hp, hg⟩ := peek_of (a := ⟨4, -1, d⟩) (x := []) (ts := []) hl hd
        have hn : c.left.headD 0 = 1 := by
          rw [hl, show m = 0 from hk]
          rfl
        have hx : nx l c.at_ = c.at_ + 1 := nx_of (d := 0) (b := wrap 4 d) (o := false) (x := lf 4 d) (r := rest) ⟨⟨4, -1, d⟩, rfl, right_lf rfl rfl (by simp [R5.body]), rfl, rfl, rfl⟩ (by simpa [lf] using hd)
        unfold valsP Cm.bar
        have hp4 : peek l c = 4 := hp
        rw [if_neg (show ¬ (peek l c == 0) = true by rw [hp4]; decide)]
        show anyN l (c.left.headD 0) c = _
        rw [hn]
        show Except.ok ((), (⟨nx l c.at_, dec c.left⟩ : Cu)) = _
        rw [hx, hl]
        rfl
      show attrN l (c.left.headD 0) c = _
      rw [hn]
      exact hA c m r rest trivial hl hd
    unfold beside
    rw [if_pos (show peek l c = 0xa1 from hp)]
    unfold attrs
    rw [hg, if_neg (by decide), hF c m r rest trivial hl hd]
    have hx : (l.take (c.at_ + [ofT 0xa1 (besideUs d)].flatten.length)).drop c.at_ = ofT 0xa1 (besideUs d) := by
      rw [List.drop_take, hd]
      simp
    dsimp only
    rw [hx, ha]
theorem whole_ok {lim : Lim} (hl : lim.r = 4096) {x : Env} {hs : List (List Node)} (hx : EnvOk 4096 x) (hb : Bes x.header hs) (hlT : l = wholeT x hs) : readL l lim = (x, 0) := by
  obtain ⟨i, hc, ha⟩ := hx.cont
  have hF : Feeds l any' (whole l lim) x [wholeT x hs] := by
    refine Feeds.inn (t := 0x30) (Feeds.last ?_ none')
    refine (feeds_kind (i := 0) (by decide)).bnd (t1 := [_]) (t2 := [_]) (Feeds.inn (t := 0xa0) (Feeds.last (Feeds.inn (t := 0x30) ?_) none'))
    refine (feeds_version [0]).bnd (t1 := [_]) (t2 := _ :: _ :: (hs ++ [lf 4 x.tag])) ?_
    refine Feeds.bar (a := ⟨0x31, x.to.length, []⟩) ?_ (by simp [ofT]) (fun c e => by rw [e]; rfl)
    refine Feeds.bnd (a := x.to) (t1 := [_]) (t2 := _ :: (hs ++ [lf 4 x.tag])) (Feeds.inn (t := 0x31) (feeds_recips hl hx.to.1 hx.to.2.1 hx.to.2.2)) ?_
    rw [ha]
    refine Feeds.bnd (a := ((i, x.iv, x.tag.length), x.cipher)) (t1 := [_]) (t2 := hs ++ [lf 4 x.tag]) (feeds_content hc) ?_
    refine feeds_tail hb (f := fun h t => envOf x.to ((i, x.iv, x.tag.length), x.cipher) h t) ?_
    obtain ⟨e1, e2, e3⟩ := hx.rest
    unfold envOf
    show (⟨1, algsL.getD i 0, x.to, x.header, [], [], x.iv, x.cipher, x.tag⟩ : Env) = x
    rw [← ha, ← e1, ← e2]
    cases x
    simp only at e2 e3
    rw [e3, e2]
  have := hF ⟨0, [1]⟩ 0 [] [] trivial rfl (by rw [List.append_nil, List.drop_zero, hlT]; simp)
  unfold readL
  rw [this]
/-! How long -/
theorem wrap_le (t : UInt8) (b : Bytes) : (wrap t b).length ≤ b.length + 10 := by
  have := lenB_le b.length
  unfold wrap
  rw [List.length_cons, List.length_append]
  omega
theorem rec_le {r : Rec} (h : RecOk 4096 r) : (recB r).length ≤ 3000 ∧ (recT r).length ≤ 20 := by
  cases h with
  | wrap nm k i hi h1 h2 =>
    have hz : (sizedB (16 + 8 * (i : Int)) [5, 25, 45]).length ≤ 40 := by
      match i, hi with
      | 0, _ => decide
      | 1, _ => decide
      | 2, _ => decide
    have a1 := wrap_le 4 nm
    have a2 := wrap_le 0x30 (wrap 4 nm)
    have a3 := wrap_le 0x30 (sizedB (16 + 8 * (i : Int)) [5, 25, 45])
    have a4 := wrap_le 4 k
    have a5 := wrap_le 2 [4]
    have a6 := wrap_le 0xa2 (wrap 2 [4] ++ wrap 0x30 (wrap 4 nm) ++ wrap 0x30 (sizedB (16 + 8 * (i : Int)) [5, 25, 45]) ++ wrap 4 k)
    simp only [List.length_append, List.length_cons, List.length_nil] at a5 a6
    refine ⟨?_, by simp [recT, wrapUs, ofT, lf, sizedT]⟩
    show (wrap 0xa2 (wrap 2 [4] ++ wrap 0x30 (wrap 4 nm) ++ wrap 0x30 (sizedB (16 + 8 * (i : Int)) [5, 25, 45]) ++ wrap 4 k)).length ≤ 3000
    omega
  | pass salt k iv n i j hi hj h1 h2 h3 hn =>
    have hz : (sizedB (16 + 8 * (j : Int)) [2, 22, 42]).length ≤ 40 := by
      match j, hj with
      | 0, _ => decide
      | 1, _ => decide
      | 2, _ => decide
    have hd : (if (256 + 128 * (i : Int)) = 256 ∨ (256 + 128 * (i : Int)) = 384 ∨ (256 + 128 * (i : Int)) = 512 then wrap 6 (digestT ++ [hashB (256 + 128 * (i : Int))]) else wrap 6 []).length ≤ 40 := by
      split
      · have := wrap_le 6 (digestT ++ [hashB (256 + 128 * (i : Int))])
        simp only [List.length_append, List.length_cons, List.length_nil, show digestT.length = 7 from rfl] at this
        omega
      · decide
    generalize hD : (if (256 + 128 * (i : Int)) = 256 ∨ (256 + 128 * (i : Int)) = 384 ∨ (256 + 128 * (i : Int)) = 512 then wrap 6 (digestT ++ [hashB (256 + 128 * (i : Int))]) else wrap 6 []) = D at hd
    have hnb := (num_numB (n := n) (by omega)).2.1
    have a1 := wrap_le 4 salt
    have a2 := wrap_le 2 (numB (n : Nat))
    have a3 := wrap_le 0x30 (D ++ wrap 5 [])
    have a4 := wrap_le 0x30 (wrap 4 salt ++ wrap 2 (numB (n : Nat)) ++ wrap 0x30 (D ++ wrap 5 []))
    have a5 := wrap_le 0xa0 (wrap 6 derivT ++ wrap 0x30 (wrap 4 salt ++ wrap 2 (numB (n : Nat)) ++ wrap 0x30 (D ++ wrap 5 [])))
    have a6 := wrap_le 4 iv
    have a7 := wrap_le 0x30 (sizedB (16 + 8 * (j : Int)) [2, 22, 42] ++ wrap 4 iv)
    have a8 := wrap_le 0x30 (wrap 6 lockT ++ wrap 0x30 (sizedB (16 + 8 * (j : Int)) [2, 22, 42] ++ wrap 4 iv))
    have a9 := wrap_le 4 k
    have b1 := wrap_le 0xa3 (wrap 2 [0] ++ wrap 0xa0 (wrap 6 derivT ++ wrap 0x30 (wrap 4 salt ++ wrap 2 (numB (n : Nat)) ++ wrap 0x30 (D ++ wrap 5 []))) ++ wrap 0x30 (wrap 6 lockT ++ wrap 0x30 (sizedB (16 + 8 * (j : Int)) [2, 22, 42] ++ wrap 4 iv)) ++ wrap 4 k)
    have c1 : (wrap 6 derivT).length ≤ 40 := by decide
    have c2 : (wrap 6 lockT).length ≤ 40 := by decide
    have c3 : (wrap 2 [0]).length ≤ 40 := by decide
    have c4 : (wrap 5 []).length ≤ 40 := by decide
    simp only [List.length_append] at a3 a4 a5 a7 a8 b1
    refine ⟨?_, by simp [recT, passUs, howT, lockL, ofT, lf, sizedT]⟩
    have hE : recB ⟨3, 16 + 8 * j, 256 + 128 * i, [], k, salt, n, iv, []⟩ = wrap 0xa3 (wrap 2 [0] ++ wrap 0xa0 (wrap 6 derivT ++ wrap 0x30 (wrap 4 salt ++ wrap 2 (numB (n : Nat)) ++ wrap 0x30 (D ++ wrap 5 []))) ++ wrap 0x30 (wrap 6 lockT ++ wrap 0x30 (sizedB (16 + 8 * (j : Int)) [2, 22, 42] ++ wrap 4 iv)) ++ wrap 4 k) := by
      rw [← hD]
      rfl
    rw [hE]
    omega
theorem recs_le : ∀ rs : List Rec, (∀ r ∈ rs, RecOk 4096 r) → (rs.flatMap recB).length ≤ 3000 * rs.length ∧ (rs.map recT).flatten.length ≤ 20 * rs.length
  | [], _ => ⟨by simp, by simp⟩
  | r :: rs, h => by
    have h1 := rec_le (h r (List.mem_cons_self ..))
    have h2 := recs_le rs fun x hx => h x (List.mem_cons_of_mem _ hx)
    simp only [List.flatMap_cons, List.map_cons, List.flatten_cons, List.length_append, List.length_cons]
    omega
theorem alg_le (a : Int) : (algB a).length ≤ 40 := by
  unfold algB
  split
  · rename_i i h
    obtain ⟨h1, _⟩ := List.findIdx?_eq_some_iff_getElem.1 h
    match i, h1 with
    | 0, _ => decide
    | 1, _ => decide
    | 2, _ => decide
    | 3, _ => decide
    | 4, _ => decide
    | 5, _ => decide
    | n + 6, h1 => exact absurd h1 (by simp [algsL])
  · decide
theorem text_le {x : Env} (hx : EnvOk 4096 x) (hh : x.header.length ≤ 70000) : (textR x).length ≤ 262144 := by
  obtain ⟨i, hc, ha⟩ := hx.cont
  have h1 := (recs_le x.to hx.to.2.2).1
  have h2 := hx.to.2.1
  have h3 : x.iv.length ≤ 1024 := by
    have h9 := hc.2.1.2
    simp only at h9
    split at h9 <;> omega
  have h4 : x.cipher.length ≤ 70000 := hc.2.2.2.1
  have h5 : x.tag.length ≤ 16 := by
    rcases hc.2.2.1 with e | e
    · exact Nat.le_trans (Nat.le_of_eq e) (by decide)
    · exact (tagged_le e).1
  have h6 : (headB x.header).length ≤ 70000 := by
    unfold headB
    split
    · simp
    · rename_i hne
      have : 0 < x.header.length := List.length_pos_iff.2 hne
      rw [List.length_cons, List.length_tail]
      omega
  have hP : (if x.tag.length = 12 then ([] : Bytes) else wrap 2 (numB x.tag.length)).length ≤ 40 := by
    split
    · simp
    · have := wrap_le 2 (numB (x.tag.length : Nat))
      have := (num_numB (n := x.tag.length) (by omega)).2.1
      omega
  have g0 := alg_le x.alg
  have g1 := wrap_le 4 x.iv
  have g2 := wrap_le 0x30 (wrap 4 x.iv ++ (if x.tag.length = 12 then [] else wrap 2 (numB x.tag.length)))
  have g3 := wrap_le 0x30 (algB x.alg ++ wrap 0x30 (wrap 4 x.iv ++ (if x.tag.length = 12 then [] else wrap 2 (numB x.tag.length))))
  have g4 := wrap_le 0x80 x.cipher
  have c1 : (wrap 6 dataT).length ≤ 40 := by decide
  have c2 : (wrap 6 sealedT).length ≤ 40 := by decide
  have c3 : (wrap 2 [0]).length ≤ 40 := by decide
  have hcont : (contB x).length ≤ 72000 := by
    unfold contB
    simp only [List.length_append] at g2 g3 ⊢
    omega
  have g5 := wrap_le 0x30 (contB x)
  have g6 := wrap_le 0x31 (x.to.flatMap recB)
  have g7 := wrap_le 4 x.tag
  have hbody : (bodyB x).length ≤ 180000 := by
    unfold bodyB
    simp only [List.length_append]
    omega
  have g8 := wrap_le 0x30 (bodyB x)
  have g9 := wrap_le 0xa0 (wrap 0x30 (bodyB x))
  have g10 := wrap_le 0x30 (wrap 6 sealedT ++ wrap 0xa0 (wrap 0x30 (bodyB x)))
  unfold textR
  simp only [List.length_append] at g10
  omega
/-- The attributes' text. -/
def attrB (d : Bytes) : Bytes := wrap 0x31 (wrap 0x30 (wrap 6 besideT ++ wrap 0x31 (wrap 4 d)))
theorem te_beside {f : Bool} (t : UInt8) (h1 : R5.tagE t.toNat = 0) (h2 : R5.inner t.toNat = true) (d : Bytes) : TE f 3 (ofT t (besideUs d)) (wrap t (wrap 0x30 (wrap 6 besideT ++ wrap 0x31 (wrap 4 d)))) := by
  have ho : ∀ b : Bytes, ordL [] [b] = true := fun b => by cases b <;> rfl
  have a1 := te_set (f := f) (d := 0) (t := 0x31) rfl rfl (row_cons (te_oct d) row_nil) fun _ _ => ho _
  have a2 := te_of (f := f) (d := 1) (t := 0x30) rfl rfl rfl (row_cons (te_lf (t := 6) (b := besideT) (by decide)) (row_cons a1 row_nil))
  have a3 := te_set (f := f) (d := 2) (t := t) h1 h2 (row_cons a2 row_nil) fun _ _ => ho _
  simp only [List.flatten_cons, List.flatten_nil, List.append_nil] at a3
  exact a3
theorem enc_beside {d : Bytes} (hd : d.length ≤ 60000) : Enc (ofT 0x31 (besideUs d)) (attrB d, 0) ∧ (attrB d).length ≤ 70000 := by
  obtain ⟨o, k1, k2⟩ := te_beside (f := true) 0x31 rfl rfl d
  rw [k2 rfl] at k1
  have g1 := wrap_le 4 d
  have g2 := wrap_le 0x31 (wrap 4 d)
  have g3 := wrap_le 0x30 (wrap 6 besideT ++ wrap 0x31 (wrap 4 d))
  have g4 := wrap_le 0x31 (wrap 0x30 (wrap 6 besideT ++ wrap 0x31 (wrap 4 d)))
  have c1 : (wrap 6 besideT).length ≤ 40 := by decide
  simp only [List.length_append] at g3
  have hl : (attrB d).length ≤ 70000 := by
    unfold attrB
    omega
  exact ⟨.ok _ (by simp [besideUs, ofT, lf]) (k1.mono (by decide)) (Nat.le_trans hl (by decide)), hl⟩
theorem bes_of {d : Bytes} (hd : d.length ≤ 60000) : Bes (attrB d) [ofT 0xa1 (besideUs d)] := by
  obtain ⟨h1, h2⟩ := enc_beside hd
  refine .some d _ ?_
  unfold attrT
  rw [show setOf (ofT 0xa1 (besideUs d)) = ofT 0x31 (besideUs d) from rfl, encOf_eq h1, if_neg (by simp), if_neg (by simp only; omega)]
/-- Whatever is right, its recipients in order, can be told. -/
theorem tell_ok {x : Env} {hs : List (List Node)} (hx : EnvOk 4096 x) (hb : (x.header = [] ∧ hs = []) ∨ ∃ d, d.length ≤ 60000 ∧ x.header = attrB d ∧ hs = [ofT 0xa1 (besideUs d)]) (ho : ordL [] (x.to.map recB) = true) : tellP x = (textR x, 0) := by
  have hB : Bes x.header hs ∧ x.header.length ≤ 70000 ∧ hs.flatten.length ≤ 10 ∧ ∃ bs, RowE true 6 hs bs ∧ bs.flatten = headB x.header := by
    rcases hb with ⟨h1, rfl⟩ | ⟨d, h1, h2, rfl⟩
    · rw [h1]
      exact ⟨.none, by simp, by simp, [], rfl, rfl⟩
    · rw [h2]
      refine ⟨bes_of h1, (enc_beside h1).2, by simp [besideUs, ofT, lf], _, row_cons ((te_beside 0xa1 rfl rfl d).mono (by decide)) row_nil, ?_⟩
      simp only [List.flatten_cons, List.flatten_nil, List.append_nil]
      rfl
  obtain ⟨hB, hh, hsl, bs, hbr, hbe⟩ := hB
  obtain ⟨o, k1, k2⟩ := te_within (f := true) (by decide) hx hbr hbe fun _ => ho
  rw [k2 rfl] at k1
  have k3 := k1.mono (e := 32) (by decide)
  have hn : (wholeT x hs).length ≤ 4096 := by
    have := (recs_le x.to hx.to.2.2).2
    have := hx.to.2.1
    have hs2 : (sizeUs x.iv x.tag.length).flatten.length ≤ 2 := by
      unfold sizeUs
      split <;> simp [lf]
    unfold wholeT contT
    simp only [ofT, lf, algT, List.flatten_cons, List.flatten_nil, List.append_nil, List.length_cons, List.length_append, List.length_nil, List.flatten_append]
    omega
  have hE : Enc (wholeT x hs) (textR x, 0) := .ok _ hn k3 (text_le hx hh)
  have hd := hE.back rfl mostL (by decide) rfl rfl rfl
  have hread : read (textR x) mostL = (x, 0) := by
    unfold read
    rw [hd, if_neg (by simp)]
    exact whole_ok rfl hx hB rfl
  exact (one_way hread).1
end Go.Px.Cm

/-! Recipients in order (plain law of layer 23). No program is named here. -/
namespace Go.Px.Cm
open E5 Co
/-- The envelope of one recipient. -/
def iv12 : Bytes := [49, 50, 51, 52, 53, 54, 55, 56, 57, 48, 49, 50]
def env1 (r : Rec) : Env := ⟨1, 1, [r], [], [], [], iv12, [], iv12⟩
/-- One is laid behind all that aren't greater; the list's last comes first. -/
def insB (x : Rec) : List Rec → List Rec
  | [] => [x]
  | y :: ys => if Op.bytesLess (recB x) (recB y) then y :: insB x ys else x :: y :: ys
def sortB (l : List Rec) : List Rec := (l.foldl (fun acc x => insB x acc) []).reverse
noncomputable def sorted (l : List Rec) : List Rec := if l.any (fun r => decide ((tellP (env1 r)).2 ≠ 0)) then [] else sortB l
/-- The envelope of the example. -/
def someOf (to : List Rec) (h : Bytes) : Env := ⟨1, 1, to, h, [], [], iv12, [97, 98, 99], iv12⟩
def someE : Env := someOf [⟨2, 16, 0, [107], [49, 50, 51, 52, 53, 54, 55, 56, 57, 48, 49, 50, 51, 52, 53, 54, 55, 56, 57, 48, 49, 50, 51, 52], [], 0, [], []⟩] []
theorem cont_abc : ContOk ((0, iv12, 12), [97, 98, 99]) := ⟨by decide, ⟨by decide, by decide⟩, .inl rfl, by decide, by decide⟩
theorem some_ok {to : List Rec} {h : Bytes} (h1 : 1 ≤ to.length) (h2 : to.length ≤ 8) (h3 : ∀ r ∈ to, RecOk 4096 r) : EnvOk 4096 (someOf to h) :=
  ⟨⟨h1, h2, h3⟩, ⟨0, cont_abc, rfl⟩, rfl, rfl, rfl⟩
theorem ord_one (b : Bytes) : ordL [] [b] = true := by cases b <;> rfl
theorem some_tells : (tellP someE).2 = 0 := by
  have hr : ∀ r ∈ someE.to, RecOk 4096 r := fun r hr => by
    rw [List.mem_singleton.1 hr]
    exact .wrap _ _ 0 (by decide) ⟨by decide, by decide⟩ ⟨by decide, by decide, by decide⟩
  rw [show someE = someOf someE.to [] from rfl, tell_ok (some_ok (by decide) (by decide) hr) (.inl ⟨rfl, rfl⟩) (ord_one _)]
theorem bad_kind : read [0x30, 0] mostL = (zero, 9) := by
  have : R5.decode [0x30, 0] mostL = ([⟨0x30, 0, []⟩], 0, 0) := by decide
  unfold read
  rw [this, if_neg (by simp)]
  unfold readL
  have : whole [⟨0x30, 0, []⟩] mostL ⟨0, [1]⟩ = .error 9 := rfl
  rw [this]
end Go.Px.Cm

/-! The reference's reading of layer 23 as plain functions (its walk goes on behind a fault, and takes nothing more); it reads what the program's reads. No program is named here. -/
namespace Go.Px.Cm
open E5 Co
/-- A walk: at a place, or at fault. -/
inductive RS where
  | run (c : Cu)
  | bad (e : Int)
section
variable (l : List Node)
def rIs (t : Nat) : RS → Bool
  | .run c => peek l c == t
  | .bad _ => false
/-- Was there a fault, or is nothing left? -/
def rNone : RS → Bool
  | .run c => peek l c == 0
  | .bad _ => true
def isBad : RS → Bool
  | .run _ => false
  | .bad _ => true
def rFault (e : Int) : RS → RS
  | .run _ => .bad e
  | .bad x => .bad x
def rMust (ok : Bool) (e : Int) (s : RS) : RS := if ok then s else rFault e s
def rLeaf (t : Nat) : RS → Bytes × RS
  | .run c => match take l t c with
    | .ok (b, c') => (b, .run c')
    | .error e => ([], .bad e)
  | .bad e => ([], .bad e)
def rIn (t : Nat) : RS → RS
  | .run c => match take l t c with
    | .ok (_, c') => .run ⟨c'.at_, (l.getD c.at_ nz).kids.toNat :: c'.left⟩
    | .error e => .bad e
  | .bad e => .bad e
def rOut : RS → RS
  | .run c => match c.left with
    | (_ + 1) :: _ => .bad 9
    | _ => .run ⟨c.at_, c.left.tail⟩
  | .bad e => .bad e
/-- A type, of some. -/
def rOne (tbl : List Bytes) (s : RS) : Nat × RS :=
  match tbl.findIdx? (fun t => t == (rLeaf l 6 s).1) with
  | some i => (i, (rLeaf l 6 s).2)
  | none => (0, rFault 11 (rLeaf l 6 s).2)
def rOcts (t : Bytes → Bool) (s : RS) : Bytes × RS := ((rLeaf l 4 s).1, rMust (t (rLeaf l 4 s).1) 9 (rLeaf l 4 s).2)
def rVer (v : Bytes) (s : RS) : RS := rMust ((rLeaf l 2 s).1 == v) 11 (rLeaf l 2 s).2
def rTyp (v : Bytes) (s : RS) : RS := rMust ((rLeaf l 6 s).1 == v) 11 (rLeaf l 6 s).2
/-! A recipient whose key is sealed -/
def tName (s : Bytes) : Bool := decide (1 ≤ s.length) && decide (s.length ≤ 128)
def tWrap (s : Bytes) : Bool := s.length % 8 == 0 && decide (24 ≤ s.length) && decide (s.length ≤ 1032)
def rName (s : RS) : Bytes × RS := ((rOcts l tName s).1, rMust (rNone l (rOcts l tName s).2) 11 (rOcts l tName s).2)
def rW3 (nm : Bytes) (i : Nat) (s : RS) : Rec × RS := (⟨2, 16 + 8 * i, 0, nm, (rOcts l tWrap s).1, [], 0, [], []⟩, (rOcts l tWrap s).2)
def rW2 (nm : Bytes) (s : RS) : Rec × RS := rW3 l nm (rOne l wrapT (rIn l 0x30 s)).1 (rOut (rOne l wrapT (rIn l 0x30 s)).2)
def rW1 (s : RS) : Rec × RS := rW2 l (rName l (rIn l 0x30 s)).1 (rOut (rName l (rIn l 0x30 s)).2)
def rSealed (s : RS) : Rec × RS := ((rW1 l (rVer l [4] (rIn l 0xa2 s))).1, rOut (rW1 l (rVer l [4] (rIn l 0xa2 s))).2)
/-! One whose key a password makes -/
/-- The reference's number: it stops to grow. -/
def numC : Bytes → Nat → Nat
  | [], n => n
  | c :: r, n => numC r (if n ≤ 1048576 then n * 256 + c.toNat else n)
def rRounds (lim : Lim) (s : RS) : Nat × RS :=
  if isBad (rLeaf l 2 s).2 then (0, (rLeaf l 2 s).2)
  else (numC (rLeaf l 2 s).1 0, rMust (decide ((numC (rLeaf l 2 s).1 0 : Int) ≤ lim.r)) 10 (rMust (decide (((rLeaf l 2 s).1.getD 0 0).toNat < 128) && ((rLeaf l 2 s).1 != [0])) 9 (rLeaf l 2 s).2))
def rHash (s : RS) : Nat × RS := ((rOne l hashT s).1, (rLeaf l 5 (rOne l hashT s).2).2)
def rD3 (salt : Bytes) (n : Nat) (s : RS) : (Bytes × Nat × Nat) × RS := ((salt, n, (rHash l (rIn l 0x30 s)).1), rOut (rHash l (rIn l 0x30 s)).2)
def rD2 (lim : Lim) (salt : Bytes) (s : RS) : (Bytes × Nat × Nat) × RS := rD3 l salt (rRounds l lim s).1 (rMust (isBad (rRounds l lim s).2 || (!rNone l (rRounds l lim s).2 && !rIs l 2 (rRounds l lim s).2)) 11 (rRounds l lim s).2)
def tSalt (s : Bytes) : Bool := decide (8 ≤ s.length) && decide (s.length ≤ 1000)
def rD1 (lim : Lim) (s : RS) : (Bytes × Nat × Nat) × RS := rD2 l lim (rOcts l tSalt s).1 (rOcts l tSalt s).2
def rDeriv (lim : Lim) (s : RS) : (Bytes × Nat × Nat) × RS := ((rD1 l lim (rIn l 0x30 (rTyp l derivT s))).1, rOut (rD1 l lim (rIn l 0x30 (rTyp l derivT s))).2)
def tIv (s : Bytes) : Bool := s.length == 16
def rL2 (j : Nat) (s : RS) : (Nat × Bytes) × RS := ((j, (rOcts l tIv s).1), (rOcts l tIv s).2)
def rL1 (s : RS) : (Nat × Bytes) × RS := rL2 l (rOne l lockTs s).1 (rOne l lockTs s).2
def rLock (s : RS) : (Nat × Bytes) × RS := ((rL1 l (rIn l 0x30 (rTyp l lockT s))).1, rOut (rL1 l (rIn l 0x30 (rTyp l lockT s))).2)
def tPass (s : Bytes) : Bool := s.length % 16 == 0 && decide (32 ≤ s.length) && decide (s.length ≤ 272)
def rP3 (d : Bytes × Nat × Nat) (j : Nat × Bytes) (s : RS) : Rec × RS := (⟨3, 16 + 8 * j.1, 256 + 128 * d.2.2, [], (rOcts l tPass s).1, d.1, d.2.1, j.2, []⟩, (rOcts l tPass s).2)
def rP2 (d : Bytes × Nat × Nat) (s : RS) : Rec × RS := rP3 l d (rLock l (rIn l 0x30 s)).1 (rOut (rLock l (rIn l 0x30 s)).2)
def rP1 (lim : Lim) (s : RS) : Rec × RS := rP2 l (rDeriv l lim (rIn l 0xa0 s)).1 (rOut (rDeriv l lim (rIn l 0xa0 s)).2)
def rPassword (lim : Lim) (s : RS) : Rec × RS := ((rP1 l lim (rVer l [0] (rIn l 0xa3 s))).1, rOut (rP1 l lim (rVer l [0] (rIn l 0xa3 s))).2)
/-! All -/
def rRecip (lim : Lim) : RS → Option Rec × RS
  | .run c =>
    if peek l c = 0xa2 then (some (rSealed l (.run c)).1, (rSealed l (.run c)).2)
    else if peek l c = 0xa3 then (some (rPassword l lim (.run c)).1, (rPassword l lim (.run c)).2)
    else if peek l c = 0x30 ∨ peek l c = 0xa1 ∨ peek l c = 0xa4 then (none, .bad 11)
    else (none, .bad 9)
  | .bad e => (none, .bad e)
/-- Its loop. -/
def rLoop (lim : Lim) : Nat → List Rec → RS → List Rec × RS
  | 0, acc, s => (acc, s)
  | m + 1, acc, s => if rNone l s then (acc, s) else rLoop lim m (acc ++ (rRecip l lim s).1.toList) (rRecip l lim s).2
def cntOf : RS → Nat
  | .run c => c.left.headD 0
  | .bad _ => 0
def rRecips (lim : Lim) (s : RS) : List Rec × RS :=
  rLoop l lim (cntOf s) [] (rMust (isBad s || decide (cntOf s ≤ 8)) 10 (rMust (isBad s || decide (0 < cntOf s)) 9 s))
end
end Go.Px.Cm

/-! The reference's reading of layer 23 agrees with the program's (plain law), to its recipients. No program is named here. -/
namespace Go.Px.Cm
open E5 Co
/-- The reference's way agrees with the program's. -/
def Ag {α : Type} (r : α × RS) (p : Except Int (α × Cu)) : Prop := match p with
  | .ok (v, c) => r = (v, .run c)
  | .error e => r.2 = .bad e
structure AgF {α : Type} (l : List Node) (r : RS → α × RS) (p : P α) : Prop where
  run : ∀ c, Fits l c → Ag (r (.run c)) (p c)
  bad : ∀ e, (r (.bad e)).2 = .bad e
  eats : Eats l p (fun _ _ => True)
theorem bad_must (b : Bool) (e x : Int) : rMust b x (.bad e) = .bad e := by cases b <;> rfl
section
variable {α β : Type} {l : List Node}
theorem AgF.bnd {r : RS → α × RS} {p : P α} {k : α → RS → β × RS} {f : α → P β} (h1 : AgF l r p) (h2 : ∀ a, AgF l (k a) (f a)) : AgF l (fun s => k (r s).1 (r s).2) (bnd p f) where
  run c hf := by
    have h := h1.run c hf
    unfold Cm.bnd
    cases hp : p c with
    | error e =>
      rw [hp] at h
      show (k (r (.run c)).1 (r (.run c)).2).2 = .bad e
      rw [show (r (.run c)).2 = .bad e from h]
      exact (h2 _).bad e
    | ok q =>
      obtain ⟨a, c'⟩ := q
      rw [hp] at h
      show Ag (k (r (.run c)).1 (r (.run c)).2) (f a c')
      rw [show r (.run c) = (a, .run c') from h]
      exact (h2 a).run c' (h1.eats c a c' hp hf).1
  bad e := by
    show (k (r (.bad e)).1 (r (.bad e)).2).2 = .bad e
    rw [h1.bad e]
    exact (h2 _).bad e
  eats := (h1.eats.bnd fun a => (h2 a).eats).mono fun _ _ _ => trivial
/-- A test on what comes. -/
theorem AgF.bar {r : RS → α × RS} {p : P α} {t : RS → Bool} {b : Cu → Bool} {e : Int} (h : AgF l r p) (hb : ∀ c, t (.run c) = !b c) : AgF l (fun s => r (rMust (t s) e s)) (bar b e p) where
  run c hf := by
    unfold Cm.bar
    show Ag (r (rMust (t (.run c)) e (.run c))) _
    rw [hb c]
    cases hc : b c with
    | true => exact h.bad e
    | false => exact h.run c hf
  bad x := by
    show (r (rMust _ e (.bad x))).2 = .bad x
    rw [bad_must]
    exact h.bad x
  eats := h.eats.bar
variable (hr : ∀ a ∈ l, right a = true)
include hr
theorem AgF.inn {t : UInt8} {r : RS → α × RS} {p : P α} (h : AgF l r p) (ht : t ≠ 0) (hi : R5.inner t.toNat = true) : AgF l (fun s => ((r (rIn l t.toNat s)).1, rOut (r (rIn l t.toNat s)).2)) (inn l t.toNat p) where
  run c hf := by
    unfold Cm.inn
    have hrr : rIn l t.toNat (.run c) = match take l t.toNat c with | .ok (_, c') => .run ⟨c'.at_, (l.getD c.at_ nz).kids.toNat :: c'.left⟩ | .error e => .bad e := rfl
    cases htk : take l t.toNat c with
    | error e =>
      rw [htk] at hrr
      show rOut (r (rIn l t.toNat (.run c))).2 = .bad e
      rw [hrr]
      dsimp only
      rw [h.bad e]
      rfl
    | ok q =>
      obtain ⟨b, c'⟩ := q
      rw [htk] at hrr
      have hfi := fits_in hr ht hi htk hf
      dsimp only at hrr ⊢
      rw [hrr]
      have hq := h.run _ hfi
      cases hp : p ⟨c'.at_, (l.getD c.at_ nz).kids.toNat :: c'.left⟩ with
      | error e =>
        rw [hp] at hq
        show rOut (r _).2 = .bad e
        rw [show (r (.run ⟨c'.at_, (l.getD c.at_ nz).kids.toNat :: c'.left⟩)).2 = .bad e from hq]
        rfl
      | ok q2 =>
        obtain ⟨v, c2⟩ := q2
        rw [hp] at hq
        rw [show r (.run ⟨c'.at_, (l.getD c.at_ nz).kids.toNat :: c'.left⟩) = (v, .run c2) from hq]
        dsimp only
        unfold out
        show Ag (v, match c2.left with | (_ + 1) :: _ => RS.bad 9 | _ => RS.run ⟨c2.at_, c2.left.tail⟩) _
        cases c2.left with
        | nil => rfl
        | cons n r => cases n <;> rfl
  bad e := by
    show rOut (r (.bad e)).2 = .bad e
    rw [h.bad e]
    rfl
  eats := (h.eats.inn hr ht hi).mono fun _ _ _ => trivial
omit hr in
/-- A tag that is there is none of 0. -/
theorem peek_pos {c : Cu} {n : Nat} {r : List Nat} (hf : Fits l c) (h : c.left = (n + 1) :: r) : peek l c ≠ 0 := by
  have hst := hf.2
  rw [h] at hst
  obtain ⟨x, y, b, o, h1, h2, _⟩ := stk_next hst
  have hp := h2.pos
  cases x with
  | nil => simp at hp
  | cons a x =>
    have hg : l.getD c.at_ nz = a := by
      have := congrArg (fun x => x[0]?) h1
      simp at this
      simp [List.getD, this]
    have ha : right a = true := h2.all a (List.mem_cons_self ..)
    unfold peek
    rw [h, hg]
    intro h0
    unfold right at ha
    simp only [Bool.and_eq_true, beq_iff_eq] at ha
    have := ha.1.1.1
    rw [show a.tag.toNat = 0 from h0] at this
    exact absurd this (by decide)
end
end Go.Px.Cm

/-! The reference's reading of layer 23 agrees with the program's (plain law), whole. No program is named here. -/
namespace Go.Px.Cm
open E5 Co
section
variable (l : List Node)
/-! What is sealed -/
def tIvc (ccm : Bool) (s : Bytes) : Bool := (!ccm && decide (1 ≤ s.length) && decide (s.length ≤ 1024)) || (ccm && decide (7 ≤ s.length) && decide (s.length ≤ 13))
def rSize (iv : Bytes) (ccm : Bool) (s : RS) : (Bytes × Nat) × RS := ((iv, ((rLeaf l 2 s).1.getD 0 0).toNat), rMust ((rLeaf l 2 s).1.length == 1 && tagged ((rLeaf l 2 s).1.getD 0 0).toNat ccm) 9 (rLeaf l 2 s).2)
def rPar2 (ccm : Bool) (iv : Bytes) (s : RS) : (Bytes × Nat) × RS := if rIs l 2 s then rSize l iv ccm s else ((iv, 12), s)
def rParams (ccm : Bool) (s : RS) : (Bytes × Nat) × RS := rPar2 l ccm (rOcts l (tIvc ccm) s).1 (rOcts l (tIvc ccm) s).2
def rCiph2 (i : Nat) (s : RS) : (Nat × Bytes × Nat) × RS := ((i, (rParams l (decide (2 < i)) (rIn l 0x30 s)).1), rOut (rParams l (decide (2 < i)) (rIn l 0x30 s)).2)
def rCiph (s : RS) : (Nat × Bytes × Nat) × RS := rCiph2 l (rOne l sixT s).1 (rOne l sixT s).2
def tText (i : Nat) (iv s : Bytes) : Bool := decide (s.length ≤ 70000) && (!decide (2 < i) || iv.length != 13 || decide (s.length < 65536))
def rCont2 (a : Nat × Bytes × Nat) (s : RS) : ((Nat × Bytes × Nat) × Bytes) × RS := ((a, (rLeaf l 0x80 s).1), rMust (tText a.1 a.2.1 (rLeaf l 0x80 s).1) 10 (rLeaf l 0x80 s).2)
def rSome (s : RS) : RS := rMust (isBad s || !rNone l s) 11 s
def rCont1 (s : RS) : ((Nat × Bytes × Nat) × Bytes) × RS := rCont2 l (rCiph l (rIn l 0x30 s)).1 (rSome l (rOut (rCiph l (rIn l 0x30 s)).2))
def rContent (s : RS) : ((Nat × Bytes × Nat) × Bytes) × RS := ((rCont1 l (rTyp l dataT (rIn l 0x30 s))).1, rOut (rCont1 l (rTyp l dataT (rIn l 0x30 s))).2)
/-! What is authenticated beside -/
def anyC : Nat → Cu → Cu
  | 0, c => c
  | m + 1, c => anyC m ⟨nx l c.at_, dec c.left⟩
def rVals : RS → RS
  | .run c => if c.left.headD 0 = 0 then .bad 9 else .run (anyC l (c.left.headD 0) c)
  | .bad e => .bad e
def rAttr (s : RS) : RS := rOut (rOut (rVals l (rIn l 0x31 (rLeaf l 6 (rIn l 0x30 s)).2)))
def rAttrN : Nat → RS → RS
  | 0, s => s
  | m + 1, s => if rNone l s then s else rAttrN m (rAttr l s)
/-- Behind the attributes: their text. -/
noncomputable def rHead (p : Nat) : RS → Bytes × RS
  | .run c => ((encOf (setOf ((l.take c.at_).drop p))).1, rMust (decide ((encOf (setOf ((l.take c.at_).drop p))).1.length ≤ 70000)) 10 (rMust ((encOf (setOf ((l.take c.at_).drop p))).2 == 0) 9 (.run c)))
  | .bad e => ([], .bad e)
noncomputable def rBeside : RS → Bytes × RS
  | .run c =>
    if peek l c = 0xa1 then rHead l c.at_ (rOut (rAttrN l (cntOf (rIn l 0xa1 (.run c))) (rMust (decide (0 < cntOf (rIn l 0xa1 (.run c)))) 9 (rIn l 0xa1 (.run c)))))
    else ([], .run c)
  | .bad e => ([], .bad e)
/-! The whole -/
def rB5 (rs : List Rec) (a : (Nat × Bytes × Nat) × Bytes) (h : Bytes) (s : RS) : Env × RS := (envOf rs a h (rOcts l (fun b => b.length == a.1.2.2) s).1, rMust (!rIs l 0xa2 (rOcts l (fun b => b.length == a.1.2.2) s).2) 11 (rOcts l (fun b => b.length == a.1.2.2) s).2)
noncomputable def rB4 (rs : List Rec) (a : (Nat × Bytes × Nat) × Bytes) (s : RS) : Env × RS := rB5 l rs a (rBeside l s).1 (rBeside l s).2
noncomputable def rB3 (rs : List Rec) (s : RS) : Env × RS := rB4 l rs (rContent l s).1 (rContent l s).2
noncomputable def rB2 (lim : Lim) (s : RS) : Env × RS := rB3 l (rRecips l lim (rIn l 0x31 s)).1 (rOut (rRecips l lim (rIn l 0x31 s)).2)
noncomputable def rB1 (lim : Lim) (s : RS) : Env × RS := rB2 l lim (rMust (!rIs l 0xa0 (rVer l [0] s)) 11 (rVer l [0] s))
noncomputable def rBody (lim : Lim) (s : RS) : Env × RS := ((rB1 l lim (rIn l 0x30 s)).1, rOut (rB1 l lim (rIn l 0x30 s)).2)
noncomputable def rWhole (lim : Lim) (s : RS) : Env × RS := ((rBody l lim (rIn l 0xa0 (rTyp l sealedT (rIn l 0x30 s)))).1, rOut (rOut (rBody l lim (rIn l 0xa0 (rTyp l sealedT (rIn l 0x30 s)))).2))
noncomputable def rReadL (lim : Lim) : Env × Int := match rWhole l lim (.run ⟨0, [1]⟩) with
  | (x, .run _) => (x, 0)
  | (_, .bad e) => (zero, e)
end
section
variable {l : List Node} (hr : ∀ a ∈ l, right a = true)
include hr
omit hr in
theorem any_eq : ∀ (m : Nat) (c : Cu), anyN l m c = .ok ((), anyC l m c)
  | 0, _ => rfl
  | m + 1, c => any_eq m ⟨nx l c.at_, dec c.left⟩
end
end Go.Px.Cm
